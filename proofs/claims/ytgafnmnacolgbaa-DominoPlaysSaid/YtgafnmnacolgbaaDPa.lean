/-
  DominoPlays: a piece laid to a row.
-/
import Derived.Test.YtgafnmnacolgbaaNDP
import Derived.Test.YtgafnmnacolgbaaLibX
import Derived.Test.YtgafnmnacolgbaaLibY
namespace Go.Proofs.Ytgafnmnacolgbaa
open Go Go.GL

def Vx (x : Int) : Prop := 0 ≤ x ∧ x ≤ 9
def stg (e : Int × Int) : Bool := (((decide (e.1 < 0)) || (decide ((9 : Int) < e.1))) || (decide (e.2 < 0))) || (decide ((9 : Int) < e.2))
theorem stg_iff (e : Int × Int) : stg e = false ↔ Vx e.1 ∧ Vx e.2 := by
  unfold stg Vx
  simp only [Bool.or_eq_false_iff, decide_eq_false_iff_not]
  omega

theorem contains_p {l : List (Int × Int)} (hs : l.length ≤ 8796093022208) : slices_ContainsFunc_m l = some (l.any stg) := by
  unfold slices_ContainsFunc_m slices_IndexFunc_m
  rw [search_loop (l := l) stg (fun i => Fl.ret (i : Int)) (Fl.go ()) ?_ ?_ ?_]
  · have hn := fidx_neg stg l
    unfold fidx at hn
    cases hf : l.findIdx? stg with
    | none =>
      rw [hf] at hn
      have : l.any stg = false := by
        rw [Bool.eq_false_iff]
        intro h; have := hn.2 h; simp at this
      rw [this]; rfl
    | some i =>
      rw [hf] at hn
      have : l.any stg = true := hn.1 (by simp)
      rw [this]
      simp [slices_IndexFunc_K1]
  · intro i x hx hp
    have hb := idx_bd hx
    simp only [slices_IndexFunc_L1, slices_IndexFunc_J2, domino_strange_m]
    rw [if_pos (by simpa using hb.2), asrt_pos hb, getd_some hx, Option.bind_some]
    exact if_pos hp
  · intro i x hx hp
    have hb := idx_bd hx
    simp only [slices_IndexFunc_L1, slices_IndexFunc_J2, slices_IndexFunc_J3, domino_strange_m]
    rw [if_pos (by simpa using hb.2), asrt_pos hb, getd_some hx, Option.bind_some]
    refine (if_neg (show ¬ (stg x = true) by rw [hp]; decide)).trans ?_
    rw [w64_of (by omega)]
  · simp only [slices_IndexFunc_L1]
    rw [if_neg (by simp)]

theorem may_one (x : Int × Int) : gameroomref_PieceMay_m x.1 x.2 = some (!stg x) := by
  unfold gameroomref_PieceMay_m gameroomref_within_m
  rw [Option.bind_some]
  by_cases h1 : 0 ≤ x.1 ∧ x.1 ≤ 9
  · rw [decide_eq_true h1.1, decide_eq_true h1.2, if_pos (by decide), Option.bind_some]
    congr 1
    unfold stg
    rw [decide_eq_false (show ¬ x.1 < 0 by omega), decide_eq_false (show ¬ 9 < x.1 by omega)]
    by_cases h2 : x.2 < 0
    · rw [decide_eq_true h2, decide_eq_false (show ¬ 0 ≤ x.2 by omega)]; rfl
    · rw [decide_eq_false h2, decide_eq_true (show 0 ≤ x.2 by omega)]
      by_cases h3 : 9 < x.2
      · rw [decide_eq_true h3, decide_eq_false (show ¬ x.2 ≤ 9 by omega)]; rfl
      · rw [decide_eq_false h3, decide_eq_true (show x.2 ≤ 9 by omega)]; rfl
  · have hb : (decide (0 ≤ x.1) && decide (x.1 ≤ 9)) = false := by
      rw [Bool.and_eq_false_iff, decide_eq_false_iff_not, decide_eq_false_iff_not]; omega
    have hs : stg x = true := by
      cases q : stg x with
      | true => rfl
      | false => exact absurd ((stg_iff x).1 q).1 h1
    rw [hb, if_neg (by decide), Option.bind_some, hs]; rfl

theorem may_r {l : List (Int × Int)} (hs : l.length ≤ 8796093022208) : gameroomref_PiecesMay_m l = some (!l.any stg) := by
  unfold gameroomref_PiecesMay_m
  rw [search_loop (l := l) stg (fun _ => Fl.ret false) (Fl.go ()) ?_ ?_ ?_]
  · have hn := fidx_neg stg l
    unfold fidx at hn
    cases hf : l.findIdx? stg with
    | none =>
      rw [hf] at hn
      have : l.any stg = false := by
        rw [Bool.eq_false_iff]
        intro h; have := hn.2 h; simp at this
      rw [this]; rfl
    | some i =>
      rw [hf] at hn
      have : l.any stg = true := hn.1 (by simp)
      rw [this]; rfl
  · intro i x hx hp
    have hb := idx_bd hx
    simp only [gameroomref_PiecesMay_L1, gameroomref_PiecesMay_J2]
    rw [if_pos (by simpa using hb.2), asrt_pos hb, getd_some hx, may_one, Option.bind_some, hp, if_pos (by decide)]
  · intro i x hx hp
    have hb := idx_bd hx
    simp only [gameroomref_PiecesMay_L1, gameroomref_PiecesMay_J2, gameroomref_PiecesMay_J3]
    rw [if_pos (by simpa using hb.2), asrt_pos hb, getd_some hx, may_one, Option.bind_some, hp, if_neg (by decide), w64_of (by omega)]
  · simp only [gameroomref_PiecesMay_L1]
    rw [if_neg (by simp)]

theorem same_pp {l : List (Int × Int)} (hl : l.length ≤ 1000) : gameroomlaw_samePieces_m l l = some true := by
  unfold gameroomlaw_samePieces_m
  rw [if_neg (by simp)]
  unfold gameroomlaw_samePieces_J1
  have : loop (gameroomlaw_samePieces_L1 l l) 0 = some (.go ()) := by
    refine loop_from (r := Fl.go ()) (fun i => (i : Int)) l.length rfl (fun i hi => ?_) ?_
    · simp only [gameroomlaw_samePieces_L1, gameroomlaw_samePieces_J3, gameroomlaw_samePieces_J4]
      rw [if_pos (decide_eq_true (by omega)), asrt_pos (by omega), asrt_pos (by omega), if_neg (by simp), w64_of (by omega)]; rfl
    · simp only [gameroomlaw_samePieces_L1]
      rw [if_neg (by simp)]
  rw [this]; rfl


/-- Neighbours that do not fit. -/
def brk (x : (Int × Int) × (Int × Int)) : Bool := x.1.2 != x.2.1
def nbs (l : List (Int × Int)) : List ((Int × Int) × (Int × Int)) := l.zip l.tail
theorem nbs_len (l : List (Int × Int)) : (nbs l).length = l.length - 1 := by unfold nbs; rw [List.length_zip, List.length_tail]; omega
theorem nbs_get {l : List (Int × Int)} {i : Nat} {x : (Int × Int) × (Int × Int)} (h : (nbs l)[i]? = some x) : getd ((0, 0) : Int × Int) l (i : Int) = x.1 ∧ getd ((0, 0) : Int × Int) l ((1 + i : Nat) : Int) = x.2 ∧ 1 + i < l.length := by
  unfold nbs at h
  rw [List.getElem?_zip_eq_some] at h
  obtain ⟨h1, h2⟩ := h
  rw [List.getElem?_tail, Nat.add_comm] at h2
  exact ⟨getd_some h1, getd_some h2, (List.getElem?_eq_some_iff.1 h2).1⟩

theorem steps_r {R : Type} {step : Int → Option (St Int R)} {l : List (Int × Int)} (hit miss : R)
    (h1 : ∀ i : Nat, 1 + i < l.length → (getd ((0, 0) : Int × Int) l (i : Int)).2 ≠ (getd ((0, 0) : Int × Int) l ((1 + i : Nat) : Int)).1 → step ((1 + i : Nat) : Int) = some (.done hit))
    (h2 : ∀ i : Nat, 1 + i < l.length → (getd ((0, 0) : Int × Int) l (i : Int)).2 = (getd ((0, 0) : Int × Int) l ((1 + i : Nat) : Int)).1 → step ((1 + i : Nat) : Int) = some (.next ((1 + i + 1 : Nat) : Int)))
    (h3 : ∀ i : Nat, l.length ≤ i → step (i : Int) = some (.done miss)) : loop step 1 = some (if (nbs l).any brk then hit else miss) := by
  have h := search_from (step := step) brk (fun _ => hit) miss (nbs l) 1 (fun i x hx hp => by
      obtain ⟨e1, e2, e3⟩ := nbs_get hx
      unfold brk at hp
      rw [← e1, ← e2] at hp
      exact h1 i e3 (by simpa using hp)) (fun i x hx hp => by
      obtain ⟨e1, e2, e3⟩ := nbs_get hx
      unfold brk at hp
      rw [← e1, ← e2] at hp
      exact h2 i e3 (by simpa using hp)) (h3 _ (by rw [nbs_len]; omega))
  rw [show ((1 : Nat) : Int) = 1 from rfl] at h
  rw [h]
  have hn := fidx_neg brk (nbs l)
  unfold fidx at hn
  cases hf : (nbs l).findIdx? brk with
  | none =>
    rw [hf] at hn
    have : (nbs l).any brk = false := by
      rw [Bool.eq_false_iff]
      intro h; have := hn.2 h; simp at this
    rw [this]; rfl
  | some i =>
    rw [hf] at hn
    have : (nbs l).any brk = true := hn.1 (by simp)
    rw [this]; rfl

theorem rowis {l : List (Int × Int)} (hs : l.length ≤ 8796093022208) : gameroomref_RowIs_m l = some (!(nbs l).any brk) := by
  unfold gameroomref_RowIs_m
  rw [steps_r (l := l) (Fl.ret false) (Fl.go ()) (fun i hi hb => ?_) (fun i hi hb => ?_) (fun i hi => ?_)]
  · cases (nbs l).any brk <;> rfl
  · simp only [gameroomref_RowIs_L1, gameroomref_RowIs_J2]
    rw [if_pos (decide_eq_true (by omega)), w64_of (by omega), show ((1 + i : Nat) : Int) - 1 = (i : Int) by omega, asrt_pos (by omega), asrt_pos (by omega), if_pos (by simpa using hb)]
  · simp only [gameroomref_RowIs_L1, gameroomref_RowIs_J2, gameroomref_RowIs_J3]
    rw [if_pos (decide_eq_true (by omega)), w64_of (show -9223372036854775808 ≤ ((1 + i : Nat) : Int) - 1 ∧ ((1 + i : Nat) : Int) - 1 ≤ 9223372036854775807 by omega), show ((1 + i : Nat) : Int) - 1 = (i : Int) by omega, asrt_pos (by omega), asrt_pos (by omega), if_neg (by simpa using hb), w64_of (by omega)]
    rfl
  · simp only [gameroomref_RowIs_L1]
    rw [if_neg (by simpa using hi)]

theorem prow {l : List (Int × Int)} (hs : l.length ≤ 8796093022208) : loop (domino_Play_L1 l) 1 = some (if (nbs l).any brk then .ret (([] : List (Int × Int)), 1) else .go ()) := by
  refine steps_r (l := l) _ _ (fun i hi hb => ?_) (fun i hi hb => ?_) (fun i hi => ?_)
  · simp only [domino_Play_L1, domino_Play_J3]
    rw [if_pos (decide_eq_true (by omega)), w64_of (by omega), show ((1 + i : Nat) : Int) - 1 = (i : Int) by omega, asrt_pos (by omega), asrt_pos (by omega), if_pos (by simpa using hb)]
  · simp only [domino_Play_L1, domino_Play_J3, domino_Play_J4]
    rw [if_pos (decide_eq_true (by omega)), w64_of (show -9223372036854775808 ≤ ((1 + i : Nat) : Int) - 1 ∧ ((1 + i : Nat) : Int) - 1 ≤ 9223372036854775807 by omega), show ((1 + i : Nat) : Int) - 1 = (i : Int) by omega, asrt_pos (by omega), asrt_pos (by omega), if_neg (by simpa using hb), w64_of (by omega)]
    rfl
  · simp only [domino_Play_L1]
    rw [if_neg (by simpa using hi)]

/-- The two tries of the program. -/
theorem try_r {row : List (Int × Int)} (h0 : 0 < row.length) (h6 : row.length < 60) (right1 : Bool) (p1 p2 : Int) : ∃ e b, getd ((0, 0) : Int × Int) row (w64 ((row.length : Int) - 1)) = e ∧ getd ((0, 0) : Int × Int) row 0 = b ∧
    domino_Play_J7 row right1 [(p1, p2), (p2, p1)] = some (if right1 then (if e.2 = p1 then (row ++ [(p1, p2)], 0) else if e.2 = p2 then (row ++ [(p2, p1)], 0) else ([], 10)) else (if p2 = b.1 then ([(p1, p2)] ++ row, 0) else if p1 = b.1 then ([(p2, p1)] ++ row, 0) else ([], 10))) := by
  refine ⟨_, _, rfl, rfl, ?_⟩
  have hc : slices_Clone_m row = some row := by
    unfold slices_Clone_m slices_Clone_J1
    rw [asrt_pos (by unfold bigP; omega), List.nil_append]
  have hi : ∀ x : Int × Int, slices_Insert_3_m row 0 [x] = some ([x] ++ row) := fun x => by
    unfold slices_Insert_3_m
    rw [asrt_pos rfl, asrt_pos (by simp), asrt_pos (by unfold bigK; omega)]
  have hw : w64 ((row.length : Int) - 1) = (row.length : Int) - 1 := w64_of (by omega)
  have g0 : getd ((0, 0) : Int × Int) [(p1, p2), (p2, p1)] 0 = (p1, p2) := rfl
  have g1 : getd ((0, 0) : Int × Int) [(p1, p2), (p2, p1)] 1 = (p2, p1) := rfl
  have hbd : ∀ b : Bool, (b = true → 0 ≤ w64 ((row.length : Int) - 1) ∧ w64 ((row.length : Int) - 1) < (row.length : Int)) := fun _ _ => by rw [hw]; omega
  have hbd0 : ∀ b : Bool, (b = true → 0 ≤ (0 : Int) ∧ (0 : Int) < (row.length : Int)) := fun _ _ => by omega
  have hP : ((row.length : Int) + 1 ≤ bigP) := by unfold bigP; omega
  unfold domino_Play_J7
  have st : ∀ z : Int, z = 0 ∨ z = 1 → ∀ x, getd ((0, 0) : Int × Int) [(p1, p2), (p2, p1)] z = x → domino_Play_L2 row right1 [(p1, p2), (p2, p1)] z = if right1 then (if (getd ((0, 0) : Int × Int) row (w64 ((row.length : Int) - 1))).2 = x.1 then some (.done (.ret (row ++ [x], 0))) else some (.next (w64 (z + 1)))) else (if x.2 = (getd ((0, 0) : Int × Int) row 0).1 then some (.done (.ret ([x] ++ row, 0))) else some (.next (w64 (z + 1)))) := by
    intro z hz x hx
    simp only [domino_Play_L2, domino_Play_J8]
    rw [if_pos (decide_eq_true (by omega)), asrt_pos (by simp; omega), asrt_pos (hbd _), asrt_pos (hbd0 _), hx, hc, Option.bind_some, Option.bind_some, asrt_pos hP, hi, Option.bind_some]
    cases right1 with
    | true =>
      simp only [Bool.true_and, beq_iff_eq, if_true, Bool.not_true, Bool.false_and, Bool.false_eq_true, if_false, domino_Play_J10, domino_Play_J9]
    | false =>
      simp only [Bool.false_and, Bool.false_eq_true, if_false, Bool.not_false, Bool.true_and, beq_iff_eq, domino_Play_J11, domino_Play_J9]
  have s0 := st 0 (.inl rfl) _ g0
  have s1 := st 1 (.inr rfl) _ g1
  have s2 : domino_Play_L2 row right1 [(p1, p2), (p2, p1)] 2 = some (.done (.go ())) := by
    simp only [domino_Play_L2]
    rw [if_neg (by decide)]
  have w0 : w64 (0 + 1) = 1 := by decide
  have w1 : w64 (1 + 1) = 2 := by decide
  rw [w0] at s0
  rw [w1] at s1
  cases right1 with
  | true =>
    simp only [if_true] at s0 s1 ⊢
    by_cases e1 : (getd ((0, 0) : Int × Int) row (w64 ((row.length : Int) - 1))).2 = p1
    · rw [if_pos e1] at s0 ⊢
      rw [loop_done s0]; rfl
    · rw [if_neg e1] at s0 ⊢
      by_cases e2 : (getd ((0, 0) : Int × Int) row (w64 ((row.length : Int) - 1))).2 = p2
      · rw [if_pos e2] at s1 ⊢
        rw [loop_next' s0 (loop_done s1)]; rfl
      · rw [if_neg e2] at s1 ⊢
        rw [loop_next' s0 (loop_next' s1 (loop_done s2))]; rfl
  | false =>
    simp only [Bool.false_eq_true, if_false] at s0 s1 ⊢
    by_cases e1 : p2 = (getd ((0, 0) : Int × Int) row 0).1
    · rw [if_pos e1] at s0 ⊢
      rw [loop_done s0]; rfl
    · rw [if_neg e1] at s0 ⊢
      by_cases e2 : p1 = (getd ((0, 0) : Int × Int) row 0).1
      · rw [if_pos e2] at s1 ⊢
        rw [loop_next' s0 (loop_done s1)]; rfl
      · rw [if_neg e2] at s1 ⊢
        rw [loop_next' s0 (loop_next' s1 (loop_done s2))]; rfl

theorem doc_r {row : List (Int × Int)} (h0 : 0 < row.length) (h6 : row.length < 60) (right1 : Bool) (p1 p2 : Int) {e b : Int × Int} (he : getd ((0, 0) : Int × Int) row (w64 ((row.length : Int) - 1)) = e) (hb : getd ((0, 0) : Int × Int) row 0 = b) :
    gameroomref_PlayOf_m row p1 p2 right1 = some (if right1 then (if e.2 = p1 then (row ++ [(p1, p2)], true) else if e.2 = p2 then (row ++ [(p2, p1)], true) else ([], false)) else (if p2 = b.1 then ([(p1, p2)] ++ row, true) else if p1 = b.1 then ([(p2, p1)] ++ row, true) else ([], false))) := by
  have hw : w64 ((row.length : Int) - 1) = (row.length : Int) - 1 := w64_of (by omega)
  have a1 : ∀ q1 q2, gameroomref_PlayOf_J4 row q1 q2 = some (row ++ [(q1, q2)], true) := fun q1 q2 => by
    unfold gameroomref_PlayOf_J4
    rw [asrt_pos (by unfold bigP; omega), List.nil_append, asrt_pos (by unfold bigP; omega)]
  have a2 : ∀ q1 q2, gameroomref_PlayOf_J6 row q1 q2 = some ([(q1, q2)] ++ row, true) := fun q1 q2 => by
    unfold gameroomref_PlayOf_J6
    rw [asrt_pos (by unfold bigP; omega)]
  unfold gameroomref_PlayOf_m
  rw [if_neg (by rw [beq_iff_eq]; omega)]
  unfold gameroomref_PlayOf_J1
  rw [asrt_pos (by rw [hw]; omega), he]
  unfold gameroomref_PlayOf_J2 gameroomref_PlayOf_J3 gameroomref_PlayOf_J5
  rw [he, hb, a1, a1, a2, a2, asrt_pos (by omega)]
  cases right1 with
  | true =>
    simp only [if_true, Bool.true_and]
    by_cases q1 : e.2 = p1
    · rw [if_neg (by simp [q1]), if_neg (by simp [q1]), if_pos q1]
    · have q1' : ¬ p1 = e.2 := fun h => q1 h.symm
      by_cases q2 : e.2 = p2
      · rw [if_neg (by simp [q2]), if_pos (by simpa using q1'), if_neg q1, if_pos q2]
      · have q2' : ¬ p2 = e.2 := fun h => q2 h.symm
        rw [if_pos (by simpa using ⟨q1', q2'⟩), if_neg q1, if_neg q2]
  | false =>
    simp only [Bool.false_eq_true, if_false, Bool.false_and]
    by_cases q1 : p2 = b.1 <;> by_cases q2 : p1 = b.1 <;> simp [q1, q2]

theorem plays {row : List (Int × Int)} {p1 p2 : Int} {right1 : Bool} (hl : row.length ≤ 8796093022208) : gameroomlaw_DominoPlays_m row p1 p2 right1 = some true := by
  have hst : domino_strange_m p1 p2 = some (stg (p1, p2)) := rfl
  have hmay : gameroomref_PieceMay_m p1 p2 = some (!stg (p1, p2)) := may_one (p1, p2)
  unfold gameroomlaw_DominoPlays_m gameroomlaw_pieces_m
  rw [asrt_pos (by unfold bigP; omega), List.nil_append, Option.bind_some]
  unfold domino_Play_m gameroomlaw_DominoPlays_J1
  by_cases h6 : 60 ≤ row.length
  · rw [if_pos (decide_eq_true (by omega)), Option.bind_some, if_pos (decide_eq_true (by omega))]
    rfl
  rw [if_neg (by rw [decide_eq_true_eq]; omega), contains_p hl, Option.bind_some, hst]
  by_cases hb : row.any stg = true ∨ stg (p1, p2) = true
  · have e1 : ((if (!row.any stg) = true then some (stg (p1, p2)) else some false).bind fun r2 => if (row.any stg || r2) = true then some (([] : List (Int × Int)), (3 : Int)) else domino_Play_J1 row p1 p2 right1) = some ([], 3) := by
      rcases hb with hb | hb
      · rw [hb]; rfl
      · cases hq : row.any stg with
        | true => rfl
        | false => rw [hb]; rfl
    rw [e1, Option.bind_some, if_neg (by rw [decide_eq_true_eq]; omega), may_r hl, Option.bind_some, hmay]
    rcases hb with hb | hb
    · rw [hb]; rfl
    · cases hq : row.any stg with
      | true => rfl
      | false => rw [hb]; rfl
  have hb1 : row.any stg = false := by cases hq : row.any stg with
    | true => exact absurd (.inl hq) hb
    | false => rfl
  have hb2 : stg (p1, p2) = false := by cases hq : stg (p1, p2) with
    | true => exact absurd (.inr hq) hb
    | false => rfl
  rw [hb1, hb2, may_r hl, hb1, hmay, hb2, rowis hl]
  simp only [Bool.not_false, if_true, Option.bind_some, Bool.or_self, Bool.false_eq_true, if_false, Bool.not_true]
  unfold domino_Play_J1
  rw [prow hl, Option.bind_some]
  cases hn : (nbs row).any brk with
  | true =>
    simp only [if_true, domino_Play_K1, Option.bind_some]
    rw [if_neg (by rw [decide_eq_true_eq]; omega)]
    rfl
  | false =>
    simp only [Bool.false_eq_true, if_false, domino_Play_K1]
    have hd : ∀ (r3 : List (Int × Int)) (e1 : Int), (if decide ((60 : Int) ≤ (row.length : Int)) = true then gameroomlaw_DominoPlays_J2 row p1 p2 right1 r3 e1 2 else if (!!false) = true then gameroomlaw_DominoPlays_J2 row p1 p2 right1 r3 e1 1 else gameroomlaw_DominoPlays_J2 row p1 p2 right1 r3 e1 0) = gameroomlaw_DominoPlays_J3 row p1 p2 right1 r3 e1 := fun r3 e1 => by
      rw [if_neg (by rw [decide_eq_true_eq]; omega)]
      rfl
    have hend : ∀ (x : List (Int × Int)), x.length ≤ 1000 → ∀ (f : List (Int × Int) × Bool), f = (x, true) → gameroomlaw_DominoPlays_J4 x 0 f = some true := fun x hx f hf => by
      subst hf
      unfold gameroomlaw_DominoPlays_J4
      rw [if_pos (by decide)]
      show (gameroomlaw_samePieces_m x x).bind _ = _
      rw [same_pp hx]
      rfl
    by_cases h0 : row.length = 0
    · have : row = [] := List.eq_nil_of_length_eq_zero h0
      subst this
      unfold domino_Play_J2
      rw [if_pos (by simp), Option.bind_some]
      refine (hd _ _).trans ?_
      unfold gameroomlaw_DominoPlays_J3 gameroomref_PlayOf_m
      rw [if_pos (by simp), Option.bind_some]
      exact hend [(p1, p2)] (by simp) _ rfl
    · obtain ⟨e, b, he, hbb, ht⟩ := try_r (row := row) (by omega) (by omega) right1 p1 p2
      have hdoc := doc_r (row := row) (by omega) (by omega) right1 p1 p2 he hbb
      unfold domino_Play_J2
      rw [if_neg (by rw [beq_iff_eq]; omega)]
      unfold domino_Play_J5 domino_turned_m
      rw [Option.bind_some, ht, Option.bind_some]
      refine (hd _ _).trans ?_
      unfold gameroomlaw_DominoPlays_J3
      rw [hdoc, Option.bind_some]
      cases right1 with
      | true =>
        simp only [if_true]
        by_cases q1 : e.2 = p1
        · simp only [q1, if_true]
          exact hend _ (by simp; omega) _ rfl
        · simp only [q1, if_false]
          by_cases q2 : e.2 = p2
          · simp only [q2, if_true]
            exact hend _ (by simp; omega) _ rfl
          · simp only [q2, if_false]
            rfl
      | false =>
        simp only [Bool.false_eq_true, if_false]
        by_cases q1 : p2 = b.1
        · simp only [q1, if_true]
          exact hend _ (by simp; omega) _ rfl
        · simp only [q1, if_false]
          by_cases q2 : p1 = b.1
          · simp only [q2, if_true]
            exact hend _ (by simp; omega) _ rfl
          · simp only [q2, if_false]
            rfl

theorem true_DominoPlays (row : List (Int × Int)) (p1 p2 : Int) (right1 : Bool) (hl : row.length ≤ 8796093022208) (_h1 : inI p1) (_h2 : inI p2) : gameroomlaw_DominoPlays_m row p1 p2 right1 = some true := plays hl
end Go.Proofs.Ytgafnmnacolgbaa
