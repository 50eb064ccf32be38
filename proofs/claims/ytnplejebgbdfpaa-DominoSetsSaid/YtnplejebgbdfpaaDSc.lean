/-
  DominoSets: all pieces of a set, the counts made, and the law.
-/
import Derived.Test.YtnplejebgbdfpaaDSb
namespace Go.Proofs.Ytnplejebgbdfpaa
open Go Go.GL

def stg (e : Int × Int) : Bool := (((decide (e.1 < 0)) || (decide ((9 : Int) < e.1))) || (decide (e.2 < 0))) || (decide ((9 : Int) < e.2))
theorem stg_iff (e : Int × Int) : stg e = false ↔ Rg e.1 ∧ Rg e.2 := by
  unfold stg Rg
  simp only [Bool.or_eq_false_iff, decide_eq_false_iff_not]
  omega

theorem contains_p {l : List (Int × Int)} (hs : l.length ≤ 8796093022208) : slices_ContainsFunc_m l = some (l.any stg) := by
  unfold slices_ContainsFunc_m slices_IndexFunc_m
  rw [search_loop (l := l) stg (fun i => Fl.ret (i : Int)) (Fl.go ()) ?_ ?_ ?_]
  · have hn := fidx_neg stg l
    unfold fidx at hn
    cases hf : l.findIdx? stg with
    | none =>
      rw [hf] at hn
      have : l.any stg = false := by
        rw [Bool.eq_false_iff]
        intro h; have := hn.2 h; simp at this
      rw [this]; rfl
    | some i =>
      rw [hf] at hn
      have : l.any stg = true := hn.1 (by simp)
      rw [this]
      simp [slices_IndexFunc_K1]
  · intro i x hx hp
    have hb := idx_bd hx
    simp only [slices_IndexFunc_L1, slices_IndexFunc_J2, domino_strange_m]
    rw [if_pos (by simpa using hb.2), asrt_pos hb, getd_some hx, Option.bind_some]
    exact if_pos hp
  · intro i x hx hp
    have hb := idx_bd hx
    simp only [slices_IndexFunc_L1, slices_IndexFunc_J2, slices_IndexFunc_J3, domino_strange_m]
    rw [if_pos (by simpa using hb.2), asrt_pos hb, getd_some hx, Option.bind_some]
    refine (if_neg (show ¬ (stg x = true) by rw [hp]; decide)).trans ?_
    rw [w64_of (by omega)]
  · simp only [slices_IndexFunc_L1]
    rw [if_neg (by simp)]

theorem may_one (x : Int × Int) : gameroomref_PieceMay_m x.1 x.2 = some (!stg x) := by
  unfold gameroomref_PieceMay_m gameroomref_within_m
  rw [Option.bind_some]
  by_cases h1 : 0 ≤ x.1 ∧ x.1 ≤ 9
  · rw [decide_eq_true h1.1, decide_eq_true h1.2, if_pos (by decide), Option.bind_some]
    congr 1
    unfold stg
    rw [decide_eq_false (show ¬ x.1 < 0 by omega), decide_eq_false (show ¬ 9 < x.1 by omega)]
    by_cases h2 : x.2 < 0
    · rw [decide_eq_true h2, decide_eq_false (show ¬ 0 ≤ x.2 by omega)]; rfl
    · rw [decide_eq_false h2, decide_eq_true (show 0 ≤ x.2 by omega)]
      by_cases h3 : 9 < x.2
      · rw [decide_eq_true h3, decide_eq_false (show ¬ x.2 ≤ 9 by omega)]; rfl
      · rw [decide_eq_false h3, decide_eq_true (show x.2 ≤ 9 by omega)]; rfl
  · have hb : (decide (0 ≤ x.1) && decide (x.1 ≤ 9)) = false := by
      rw [Bool.and_eq_false_iff, decide_eq_false_iff_not, decide_eq_false_iff_not]; omega
    have hs : stg x = true := by
      cases q : stg x with
      | true => rfl
      | false => exact absurd ((stg_iff x).1 q).1 h1
    rw [hb, if_neg (by decide), Option.bind_some, hs]; rfl

theorem may_r {l : List (Int × Int)} (hs : l.length ≤ 8796093022208) : gameroomref_PiecesMay_m l = some (!l.any stg) := by
  unfold gameroomref_PiecesMay_m
  rw [search_loop (l := l) stg (fun _ => Fl.ret false) (Fl.go ()) ?_ ?_ ?_]
  · have hn := fidx_neg stg l
    unfold fidx at hn
    cases hf : l.findIdx? stg with
    | none =>
      rw [hf] at hn
      have : l.any stg = false := by
        rw [Bool.eq_false_iff]
        intro h; have := hn.2 h; simp at this
      rw [this]; rfl
    | some i =>
      rw [hf] at hn
      have : l.any stg = true := hn.1 (by simp)
      rw [this]; rfl
  · intro i x hx hp
    have hb := idx_bd hx
    simp only [gameroomref_PiecesMay_L1, gameroomref_PiecesMay_J2]
    rw [if_pos (by simpa using hb.2), asrt_pos hb, getd_some hx, may_one, Option.bind_some, hp, if_pos (by decide)]
  · intro i x hx hp
    have hb := idx_bd hx
    simp only [gameroomref_PiecesMay_L1, gameroomref_PiecesMay_J2, gameroomref_PiecesMay_J3]
    rw [if_pos (by simpa using hb.2), asrt_pos hb, getd_some hx, may_one, Option.bind_some, hp, if_neg (by decide), w64_of (by omega)]
  · simp only [gameroomref_PiecesMay_L1]
    rw [if_neg (by simp)]


/-- One number's pieces, both ways. -/
theorem set_one {m a : Nat} (hm : m ≤ 9) (ha : a ≤ m) {l : List (Int × Int)} (hl : l.length ≤ 100) : ∃ l', l'.length ≤ l.length + 10 ∧ loop (domino_Set_L2 m a) (l, (a : Int)) = some l' ∧ loop (gameroomref_SetOf_L2 m a) (l, (a : Int)) = some l' := by
  obtain ⟨r1, r2, e1, e2, rfl, h⟩ := count_loop2' (step1 := domino_Set_L2 m a) (step2 := gameroomref_SetOf_L2 m a) (fun (x : List (Int × Int)) (i : Nat) => (x, ((a + i : Nat) : Int))) (fun (x : List (Int × Int)) (i : Nat) => (x, ((a + i : Nat) : Int))) (fun i x => x.length ≤ l.length + i) (fun r1 r2 => r1 = r2 ∧ r1.length ≤ l.length + 10) (m + 1 - a) l (Nat.le_refl _) (by
    intro i x hi hx
    refine ⟨x ++ [((a : Int), ((a + i : Nat) : Int))], ?_, ?_, by rw [List.length_append, List.length_singleton]; omega⟩
    · simp only [domino_Set_L2, domino_Set_J5, domino_Set_J6]
      rw [if_pos (decide_eq_true (by omega)), asrt_pos (by unfold bigP; omega), w64_of (by omega)]; rfl
    · simp only [gameroomref_SetOf_L2, gameroomref_SetOf_J4, gameroomref_SetOf_J5]
      rw [if_pos (decide_eq_true (by omega)), asrt_pos (by unfold bigP; omega), w64_of (by omega)]; rfl) (by
    intro x hx
    refine ⟨x, x, ?_, ?_, rfl, by omega⟩
    · simp only [domino_Set_L2]
      rw [if_neg (by rw [decide_eq_true_eq]; omega)]
    · simp only [gameroomref_SetOf_L2]
      rw [if_neg (by rw [decide_eq_true_eq]; omega)])
  exact ⟨r1, h, e1, e2⟩

theorem set_both {m : Nat} (hm : m ≤ 9) : ∃ l : List (Int × Int), l.length ≤ 1000 ∧ domino_Set_J1 m = some (l, 0) ∧ gameroomref_SetOf_m m = some l := by
  obtain ⟨r1, r2, e1, e2, rfl, h⟩ := count_loop2' (step1 := domino_Set_L1 m) (step2 := gameroomref_SetOf_L1 m) (fun (x : List (Int × Int)) (i : Nat) => (x, (i : Int))) (fun (x : List (Int × Int)) (i : Nat) => (x, (i : Int))) (fun i x => x.length ≤ 10 * i) (fun r1 r2 => r1 = r2 ∧ r1.length ≤ 1000) (m + 1) [] (Nat.le_refl _) (by
    intro i x hi hx
    obtain ⟨l', l1, l2, l3⟩ := set_one hm (show i ≤ m by omega) (l := x) (by omega)
    refine ⟨l', ?_, ?_, by omega⟩
    · simp only [domino_Set_L1, domino_Set_J3]
      rw [w64_of (x := (m : Int) + 1) (by omega), if_pos (decide_eq_true (by omega)), l2, Option.bind_some]
      simp only [domino_Set_K2, domino_Set_J4]
      rw [w64_of (by omega)]; rfl
    · simp only [gameroomref_SetOf_L1, gameroomref_SetOf_J2]
      rw [if_pos (decide_eq_true (by omega)), l3, Option.bind_some]
      simp only [gameroomref_SetOf_K2, gameroomref_SetOf_J3]
      rw [w64_of (by omega)]; rfl) (by
    intro x hx
    refine ⟨x, x, ?_, ?_, rfl, by omega⟩
    · simp only [domino_Set_L1]
      rw [w64_of (x := (m : Int) + 1) (by omega), if_neg (by rw [decide_eq_true_eq]; omega)]
    · simp only [gameroomref_SetOf_L1]
      rw [if_neg (by rw [decide_eq_true_eq]; omega)])
  refine ⟨r1, h, ?_, ?_⟩
  · unfold domino_Set_J1
    have e1' : loop (domino_Set_L1 m) (([] : List (Int × Int)), 0) = some r1 := e1
    rw [e1']; rfl
  · unfold gameroomref_SetOf_m
    have e2' : loop (gameroomref_SetOf_L1 m) (([] : List (Int × Int)), 0) = some r1 := e2
    rw [e2']; rfl

theorem same_pp {l : List (Int × Int)} (hl : l.length ≤ 1000) : gameroomlaw_samePieces_m l l = some true := by
  unfold gameroomlaw_samePieces_m
  rw [if_neg (by simp)]
  unfold gameroomlaw_samePieces_J1
  have : loop (gameroomlaw_samePieces_L1 l l) 0 = some (.go ()) := by
    refine loop_from (r := Fl.go ()) (fun i => (i : Int)) l.length rfl (fun i hi => ?_) ?_
    · simp only [gameroomlaw_samePieces_L1, gameroomlaw_samePieces_J3, gameroomlaw_samePieces_J4]
      rw [if_pos (decide_eq_true (by omega)), asrt_pos (by omega), asrt_pos (by omega), if_neg (by simp), w64_of (by omega)]; rfl
    · simp only [gameroomlaw_samePieces_L1]
      rw [if_neg (by simp)]
  rw [this]; rfl

theorem cm_bd (l : List (Int × Int)) (q : Int × Int) : 0 ≤ cm l q ∧ cm l q ≤ l.length := by
  have := List.count_le_length (l := l.map kn) (a := q)
  rw [List.length_map] at this
  unfold cm; omega

theorem counts_p {l : List (Int × Int)} (hl : l.length ≤ 7) : ∃ z, loop (domino_Rows_L1 l) (([] : List ((Int × Int) × Int)), 0) = some z ∧ ∀ q, mget (0 : Int) q z = cm l q := by
  have := count_loop (step := domino_Rows_L1 l) (fun (z : List ((Int × Int) × Int)) (i : Nat) => (z, (i : Int))) (fun i z => ∀ q, mget (0 : Int) q z = cm (l.take i) q) (fun z => ∀ q, mget (0 : Int) q z = cm l q) l.length [] (fun q => rfl) (by
    intro i z hi hz
    left
    have hb := cm_bd (l.take i) (kn (gq l i))
    have hlt : (l.take i).length ≤ 7 := by rw [List.length_take]; omega
    refine ⟨mput (kn (gq l i)) (cm (l.take i) (kn (gq l i)) + 1) z, ?_, fun q => ?_⟩
    · simp only [domino_Rows_L1, domino_Rows_J3, domino_Rows_J4]
      have hk : (minI (getd ((0, 0) : Int × Int) l (i : Int)).1 (getd ((0, 0) : Int × Int) l (i : Int)).2, maxI (getd ((0, 0) : Int × Int) l (i : Int)).1 (getd ((0, 0) : Int × Int) l (i : Int)).2) = kn (gq l i) := rfl
      rw [if_pos (decide_eq_true (by omega)), asrt_pos (by omega), hk, hz, w64_of (x := cm _ _ + 1) (by omega), w64_of (by omega)]; rfl
    · rw [mget_mput]
      have e : cm (l.take (i + 1)) q = cm (l.take i) q + (if q = kn (gq l i) then 1 else 0) := by
        unfold cm
        rw [List.take_add_one, gq_get hi, Option.toList_some, List.map_append, List.count_append, List.map_cons, List.map_nil, List.count_singleton]
        by_cases w : q = kn (gq l i)
        · rw [if_pos w, if_pos (by rw [beq_iff_eq]; exact w.symm)]; omega
        · rw [if_neg w, if_neg (by rw [beq_iff_eq]; exact fun z => w z.symm)]; omega
      rw [e]
      by_cases w : q = kn (gq l i)
      · rw [if_pos w, if_pos w, w]
      · rw [if_neg w, if_neg w, hz, Int.add_zero]) (by
    intro z hz
    refine ⟨z, ?_, fun q => by rw [hz, List.take_length]⟩
    simp only [domino_Rows_L1]
    rw [if_neg (by simp)])
  exact this

theorem rows_law {l : List (Int × Int)} (hl : l.length ≤ 8796093022208) : ∃ r3, domino_Rows_m l = some r3 ∧ gameroomlaw_DominoSets_J1 l r3 = some true := by
  unfold domino_Rows_m gameroomlaw_DominoSets_J1
  by_cases h7 : 7 < l.length
  · refine ⟨_, if_pos (decide_eq_true (by omega)), ?_⟩
    rw [if_pos (decide_eq_true (by omega))]; rfl
  · rw [if_neg (by rw [decide_eq_true_eq]; omega), contains_p hl, Option.bind_some]
    by_cases ha : l.any stg = true
    · refine ⟨(0, 3), if_pos ha, ?_⟩
      rw [if_neg (by rw [decide_eq_true_eq]; omega)]
      unfold gameroomlaw_DominoSets_J3
      rw [may_r hl, Option.bind_some, ha, if_pos (by decide)]; rfl
    · rw [if_neg ha]
      have hr : ∀ p ∈ l, Rg p.1 ∧ Rg p.2 := fun p hp => (stg_iff _).1 (by
        cases q : stg p with
        | false => rfl
        | true => exact absurd (List.any_eq_true.2 ⟨p, hp, q⟩) ha)
      obtain ⟨z, z1, z2⟩ := counts_p (l := l) (by omega)
      obtain ⟨z', y1, _⟩ := cnt_p (l.length + 1) l.length (cm l) z (-1) (by omega) (by omega) z2 (fun q => by have := cm_bd l q; omega)
      have y2 := domino_Rows_1_m_of _ _ _ _ y1
      have x1 := gameroomref_RowsOf_m_of _ _ _ (rows_r (l.length + 1) l (-1) (by omega) (by omega) hr)
      refine ⟨(Rr l.length (cm l) (-1), 0), ?_, ?_⟩
      · unfold domino_Rows_J1
        rw [z1, Option.bind_some]
        simp only [domino_Rows_K1, domino_Rows_J2]
        rw [y2, Option.bind_some]
      · rw [if_neg (by rw [decide_eq_true_eq]; omega)]
        unfold gameroomlaw_DominoSets_J3
        rw [may_r hl, Option.bind_some, Bool.eq_false_iff.2 ha, if_neg (by decide)]
        unfold gameroomlaw_DominoSets_J4
        rw [if_pos (show ((0 : Int) == 0) = true by decide), x1, Option.bind_some]
        simp

theorem true_DominoSets (most : Int) (l : List (Int × Int)) (_h : inI most) (hl : l.length ≤ 8796093022208) : gameroomlaw_DominoSets_m most l = some true := by
  unfold gameroomlaw_DominoSets_m gameroomlaw_pieces_m domino_Set_m
  obtain ⟨r3, e3, h3⟩ := rows_law hl
  by_cases hm : most < 0 ∨ 9 < most
  · rw [if_pos (by rw [Bool.or_eq_true, decide_eq_true_eq, decide_eq_true_eq]; exact hm), Option.bind_some, asrt_pos (by unfold bigP; omega), Option.bind_some, List.nil_append, e3, Option.bind_some, if_pos (by rw [Bool.or_eq_true, decide_eq_true_eq, decide_eq_true_eq]; exact hm), if_neg (by decide), h3]
  · obtain ⟨m, rfl⟩ : ∃ m : Nat, most = m := ⟨most.toNat, by omega⟩
    obtain ⟨s, sl, s1, s2⟩ := set_both (m := m) (by omega)
    rw [if_neg (by rw [Bool.or_eq_true, decide_eq_true_eq, decide_eq_true_eq]; exact hm), s1, Option.bind_some, asrt_pos (by unfold bigP; omega), Option.bind_some, List.nil_append, e3, Option.bind_some, if_neg (by rw [Bool.or_eq_true, decide_eq_true_eq, decide_eq_true_eq]; exact hm), if_neg (show ¬ (((0 : Int) != 0) = true) by decide), s2, Option.bind_some, if_pos (show (!((0 : Int) != 0)) = true by decide), same_pp sl, Option.bind_some]
    unfold gameroomlaw_DominoSets_J2
    rw [if_neg (show ¬ ((((0 : Int) != 0) || (!true)) = true) by decide), h3]
end Go.Proofs.Ytnplejebgbdfpaa
