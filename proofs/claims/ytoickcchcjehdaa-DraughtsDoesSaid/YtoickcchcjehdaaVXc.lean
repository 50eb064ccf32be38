/-
  DraughtsDoes: rows of moves counted; the law.
-/
import Derived.Test.YtoickcchcjehdaaVXb
namespace Go.Proofs.Ytoickcchcjehdaa
open Go Go.GL

/-- How many rows of moves, as the machine adds. -/
def cS : Nat → List Int → Int → Int
  | 0, _, _ => 1
  | k + 1, b, s => (movesS b s).foldl (fun n w => w64 (n + cS k (doS b s w) (-s))) 0

theorem piece_of {b : List Int} {s : Int} (h : Brd b s) {w : List Int} (hw : MvOk b s w) : geti b (geti w 0) = s ∨ geti b (geti w 0) = 2 * s := by
  obtain ⟨P, e0, p1, p2, ho⟩ := hw.own
  have := h.val P p2
  rw [e0]
  unfold tof at ho
  rcases h.sgn with e | e <;> rw [e] at ho ⊢ <;> omega
theorem turn_w {tn s : Int} (h : (tn = 1 ∧ s = 1) ∨ (tn = 2 ∧ s = -1)) : w64 (3 - tn) = 3 - tn ∧ w64 (3 - w64 (2 * tn)) = s ∧ ((3 - tn = 1 ∧ -s = 1) ∨ (3 - tn = 2 ∧ -s = -1)) := by
  rcases h with ⟨rfl, rfl⟩ | ⟨rfl, rfl⟩
  · exact ⟨rfl, rfl, .inr ⟨rfl, rfl⟩⟩
  · exact ⟨rfl, rfl, .inl ⟨rfl, rfl⟩⟩
theorem geti2_in {l : List (List Int)} {i : Nat} (h : i < l.length) : geti2 l (i : Int) = l[i] := by
  unfold geti2
  rw [Int.toNat_natCast, List.getD_eq_getElem?_getD, List.getElem?_eq_getElem h]
  rfl

theorem count_p : ∀ (k : Nat) (b : List Int) (s tn : Int), k ≤ 6 → Good b s → ((tn = 1 ∧ s = 1) ∨ (tn = 2 ∧ s = -1)) →
    draughts_count_mF (k + 1) b tn (k : Int) = some (cS k b s) ∧ gameroomref_DraughtsCount_mF (k + 1) b tn (k : Int) = some (cS k b s)
  | 0, b, s, tn, _, _, _ => ⟨rfl, rfl⟩
  | k + 1, b, s, tn, hk, hg, ht => by
    obtain ⟨t1, t2, t3⟩ := turn_w ht
    have hB := hg.brd
    have h12 := good_rem hg
    obtain ⟨m1, _⟩ := movesS_rows (b := b) (s := s)
    have hne : ¬ (((k + 1 : Nat) : Int) == 0) = true := by simp; omega
    have hpl : w64 (((k + 1 : Nat) : Int) - 1) = (k : Int) := by rw [w64_of (by omega)]; omega
    generalize hF : (fun (n : Int) (w : List Int) => w64 (n + cS k (doS b s w) (-s))) = F
    have hcs : cS (k + 1) b s = (movesS b s).foldl F 0 := by rw [← hF]; rfl
    have htk : ∀ i (hi : i < (movesS b s).length), ((movesS b s).take (i + 1)).foldl F 0 = F (((movesS b s).take i).foldl F 0) (movesS b s)[i] := fun i hi => by
      rw [List.take_add_one, List.getElem?_eq_getElem hi, List.foldl_append]
      rfl
    have hex : ∀ i (hi : i < (movesS b s).length), MvOk b s (movesS b s)[i] := fun i hi => moves_ok (List.getElem_mem hi)
    constructor
    · show draughts_count_B (draughts_count_mF (k + 1)) b tn ((k + 1 : Nat) : Int) = _
      unfold draughts_count_B
      rw [if_neg hne]
      unfold draughts_count_J1
      rw [newPlay_p tn (by rw [hB.len]; omega), Option.bind_some, t2, moves_p hB h12, Option.bind_some, hcs,
        loop_from (s0 := ((0 : Int), (0 : Int))) (r := (movesS b s).foldl F 0) (fun i => (((movesS b s).take i).foldl F 0, (i : Int))) (movesS b s).length rfl (fun i hi => ?_) ?_, Option.bind_some]
      · rfl
      · unfold draughts_count_L1
        dsimp only
        rw [if_neg (by simp), List.take_length]
      · have hw := hex i hi
        have IH := (count_p k (doS b s (movesS b s)[i]) (-s) (3 - tn) (by omega) (good_do hg hw) t3).1
        unfold draughts_count_L1 draughts_count_J3 draughts_count_J4
        dsimp only
        rw [if_pos (by rw [decide_eq_true_eq]; omega), asrt_pos (by omega), newPlay_p tn (by rw [hB.len]; omega), Option.bind_some, t2, geti2_in hi, (do_p hB.len hB.sgn hw.way).2, Option.bind_some, t1, hpl, IH, Option.bind_some, w64_of (x := (i : Int) + 1) (by omega), htk i hi, ← hF]
        rfl
    · show gameroomref_DraughtsCount_B (gameroomref_DraughtsCount_mF (k + 1)) b tn ((k + 1 : Nat) : Int) = _
      unfold gameroomref_DraughtsCount_B
      rw [if_neg hne]
      unfold gameroomref_DraughtsCount_J1
      rw [moves_d hB ht h12, Option.bind_some, hcs,
        loop_from (s0 := ((0 : Int), (0 : Int))) (r := (movesS b s).foldl F 0) (fun i => (((movesS b s).take i).foldl F 0, (i : Int))) (movesS b s).length rfl (fun i hi => ?_) ?_, Option.bind_some]
      · rfl
      · unfold gameroomref_DraughtsCount_L1
        dsimp only
        rw [if_neg (by simp), List.take_length]
      · have hw := hex i hi
        have IH := (count_p k (doS b s (movesS b s)[i]) (-s) (3 - tn) (by omega) (good_do hg hw) t3).2
        unfold gameroomref_DraughtsCount_L1 gameroomref_DraughtsCount_J3 gameroomref_DraughtsCount_J4
        dsimp only
        rw [if_pos (by rw [decide_eq_true_eq]; omega), asrt_pos (by omega), geti2_in hi, do_d hB.len hw.way ht (piece_of hB hw), Option.bind_some, hpl, IH, Option.bind_some, w64_of (x := (i : Int) + 1) (by omega), htk i hi, ← hF]
        rfl

theorem same_p {a b : List Int} (ha : a.length ≤ 4611686018427387904) : slices_Equal_m a b = some (decide (a = b)) := by
  unfold slices_Equal_m
  by_cases hl : a.length = b.length
  · rw [if_neg (by simp; omega)]
    unfold slices_Equal_J1
    rw [same_loop hl (fun i hi => by
      unfold slices_Equal_L1 slices_Equal_J3 slices_Equal_J4
      dsimp only
      rw [if_pos (by rw [decide_eq_true_eq]; omega), asrt_pos (by omega), asrt_pos (by omega), w64_of (x := (i : Int) + 1) (by omega)]
      rfl) (by
      unfold slices_Equal_L1
      dsimp only
      rw [if_neg (by simp)]), Option.bind_some]
    cases decide (a = b) <;> rfl
  · rw [if_pos (by simp; omega), decide_eq_false (fun e => hl (by rw [e]))]

theorem has_p {m : List (List Int)} (hm : m.length ≤ 4611686018427387904) (hr : ∀ x ∈ m, x.length ≤ 14) (w : List Int) : slices_ContainsFunc_m m w = some (m.contains w) := by
  have key : ∀ k i, i + k = m.length → ∃ r, (loop (slices_IndexFunc_L1 m w) (i : Int)).bind slices_IndexFunc_K1 = some r ∧ (0 ≤ r ↔ (m.drop i).contains w = true) := by
    intro k
    induction k with
    | zero =>
      intro i hi
      obtain rfl : i = m.length := by omega
      rw [loop_done (r := (Fl.go () : Fl Unit Int)) (by
        unfold slices_IndexFunc_L1
        dsimp only
        rw [if_neg (by simp)]), List.drop_length]
      exact ⟨-1, rfl, by simp⟩
    | succ k ih =>
      intro i hi
      have hil : i < m.length := by omega
      have hs : slices_IndexFunc_L1 m w (i : Int) = if decide (m[i] = w) then some (.done (.ret (i : Int))) else some (.next ((i + 1 : Nat) : Int)) := by
        unfold slices_IndexFunc_L1 slices_IndexFunc_J2 slices_IndexFunc_J3 draughts_Do_1_m
        dsimp only
        rw [if_pos (by rw [decide_eq_true_eq]; omega), asrt_pos (by omega), geti2_in hil, same_p (Nat.le_trans (hr _ (List.getElem_mem hil)) (by omega)), Option.bind_some, Option.bind_some, w64_of (x := (i : Int) + 1) (by omega)]
        rfl
      rw [List.drop_eq_getElem_cons hil, List.contains_cons]
      by_cases hb : m[i] = w
      · rw [if_pos (by simpa using hb)] at hs
        rw [loop_done hs]
        exact ⟨i, rfl, by simp [hb]⟩
      · rw [if_neg (by simpa using hb)] at hs
        obtain ⟨r, h1, h2⟩ := ih (i + 1) (by omega)
        have hb2 : (w == m[i]) = false := by simpa using fun e => hb (Eq.symm e)
        refine ⟨r, ?_, by rw [h2, hb2, Bool.false_or]⟩
        rw [← h1]
        congr 1
        refine loop_next hs rfl ?_
        cases hq : loop (slices_IndexFunc_L1 m w) ((i + 1 : Nat) : Int) with
        | some x => rfl
        | none => rw [hq] at h1; exact absurd h1 (by simp)
  obtain ⟨r, h1, h2⟩ := key m.length 0 (by omega)
  unfold slices_ContainsFunc_m slices_IndexFunc_m
  rw [show (0 : Int) = ((0 : Nat) : Int) from rfl, h1, Option.bind_some]
  congr 1
  rw [Bool.eq_iff_iff, decide_eq_true_eq]
  exact h2

theorem may_good {b : List Int} {tn s : Int} (hf : b.length = 33 ∧ geti b 0 = 0 ∧ (tn = 1 ∨ tn = 2)) (hm : mayB b = true) (hs : (tn = 1 ∧ s = 1) ∨ (tn = 2 ∧ s = -1)) (hB : Brd b s) : Good b s := by
  have _ := hf
  unfold mayB at hm
  rw [Bool.and_eq_true, Bool.and_eq_true, decide_eq_true_eq, decide_eq_true_eq] at hm
  obtain ⟨_, h1, h2⟩ := hm
  unfold c1 at h1
  unfold c2 at h2
  have e1 : (fun x : Int => decide (0 < (1 : Int) * x)) = fun x => decide (0 < x) := by funext x; rw [Int.one_mul]
  have e2 : (fun x : Int => decide ((1 : Int) * x < 0)) = fun x => decide (x < 0) := by funext x; rw [Int.one_mul]
  have e3 : (fun x : Int => decide (0 < (-1 : Int) * x)) = fun x => decide (x < 0) := by
    funext x
    rw [Bool.eq_iff_iff, decide_eq_true_eq, decide_eq_true_eq]; omega
  have e4 : (fun x : Int => decide ((-1 : Int) * x < 0)) = fun x => decide (0 < x) := by
    funext x
    rw [Bool.eq_iff_iff, decide_eq_true_eq, decide_eq_true_eq]; omega
  have g1 : cnt (fun x => decide (0 < x)) b 33 ≤ 12 := by
    show (List.range 33).countP (fun q : Nat => decide (0 < geti b (q : Int))) ≤ 12
    omega
  have g2 : cnt (fun x => decide (x < 0)) b 33 ≤ 12 := by
    show (List.range 33).countP (fun q : Nat => decide (geti b (q : Int) < 0)) ≤ 12
    omega
  rcases hs with ⟨_, rfl⟩ | ⟨_, rfl⟩
  · exact ⟨hB, by rw [e1]; exact g1, by rw [e2]; exact g2⟩
  · exact ⟨hB, by rw [e3]; exact g2, by rw [e4]; exact g1⟩

theorem true_DraughtsDoes (b : List Int) (tn : Int) (way : List Int) (plies : Int) (hl : b.length ≤ 17592186043904) (_ib : ∀ y ∈ b, inI y) (_it : inI tn) (hw : way.length ≤ 17592186043904) (_iw : ∀ y ∈ way, inI y) (_ip : inI plies) : gameroomlaw_DraughtsDoes_m b tn way plies = some true := by
  have hints : gameroomlaw_ints_m way = some way := by
    unfold gameroomlaw_ints_m
    rw [asrt_pos (by unfold bigN; omega), List.nil_append]
  unfold gameroomlaw_DraughtsDoes_m draughts_Do_m draughts_Count_m
  simp only [of_p tn hl, hints, may_p, may_d, Option.bind_some]
  by_cases hf : b.length = 33 ∧ geti b 0 = 0 ∧ (tn = 1 ∨ tn = 2)
  · rw [if_pos hf]
    cases hm : mayB b with
    | true =>
      obtain ⟨s, hs, hwt, hB, h12⟩ := may_brd hf hm
      have hg := may_good hf hm hs hB
      obtain ⟨m1, m2⟩ := movesS_rows (b := b) (s := s)
      obtain ⟨t1, _, _⟩ := turn_w hs
      simp only [Bool.not_true, Bool.false_eq_true, if_false]
      -- what Do tells
      have hDo : draughts_Do_J1 b tn way = some (if way ∈ movesS b s then (doS b s way, 3 - tn, 0) else (([] : List Int), 0, 8)) := by
        unfold draughts_Do_J1
        rw [newPlay_p tn (by rw [hB.len]; omega), Option.bind_some, hwt, moves_p hB h12, Option.bind_some, has_p m1 m2, Option.bind_some]
        by_cases hc : way ∈ movesS b s
        · rw [if_neg (by simpa using hc), if_pos hc]
          unfold draughts_Do_J2
          rw [(do_p hB.len hB.sgn (moves_ok hc).way).1, Option.bind_some, t1]
        · rw [if_pos (by simpa using hc), if_neg hc]
      have hJ2 : gameroomlaw_DraughtsDoes_J2 b tn way (if way ∈ movesS b s then (doS b s way, 3 - tn, 0) else (([] : List Int), 0, 8)) = some true := by
        unfold gameroomlaw_DraughtsDoes_J2
        rw [moves_d hB hs h12, Option.bind_some]
        have hst : ∀ r3 i, i < (movesS b s).length → gameroomlaw_DraughtsDoes_L1 b tn way r3 (movesS b s) (i : Int) = if decide ((movesS b s).getD i [] = way) then (if (r3.2.2 == 0) then ((gameroomref_DraughtsDo_m b tn way).bind fun r10 => ((if (r3.2.2 == 0) then gameroomref_SameDraughts_m r3.1 r3.2.1 r10.1 r10.2 else some false)).bind fun r11 => gameroomlaw_DraughtsDoes_J6 ((r3.2.2 == 0) && r11)) else (gameroomlaw_DraughtsDoes_J6 ((r3.2.2 == 0) && false))) else some (.next ((i + 1 : Nat) : Int)) := fun r3 i hi => by
          unfold gameroomlaw_DraughtsDoes_L1 gameroomlaw_DraughtsDoes_J4 gameroomlaw_DraughtsDoes_J5
          dsimp only
          have eg : (movesS b s).getD i [] = (movesS b s)[i] := by
            rw [List.getD_eq_getElem?_getD, List.getElem?_eq_getElem hi]; rfl
          rw [if_pos (by rw [decide_eq_true_eq]; omega), asrt_pos (by omega), geti2_in hi, same_w (Nat.le_trans (m2 _ (List.getElem_mem hi)) (by omega)), Option.bind_some, w64_of (x := (i : Int) + 1) (by omega), eg]
          rfl
        by_cases hc : way ∈ movesS b s
        · rw [if_pos hc]
          have hmv := moves_ok hc
          have hsame : gameroomref_SameDraughts_m (doS b s way) (3 - tn) (doS b s way) (3 - tn) = some true := by
            unfold gameroomref_SameDraughts_m
            rw [if_pos (by simp), same_r (by unfold doS; rw [List.length_set, clr_len, List.length_set, hB.len]; omega), Option.bind_some, decide_eq_true rfl]
            simp
          rw [show (0 : Int) = ((0 : Nat) : Int) from rfl, loop_find (f := fun k => (k : Int)) (n := (movesS b s).length) (bad := fun i => decide ((movesS b s).getD i [] = way)) (out := (Fl.ret true : Fl Unit Bool)) (rd := Fl.go ()) (fun i hi => ?_) ?_, Option.bind_some]
          · rw [if_pos]
            · rfl
            · obtain ⟨j, hj, e⟩ := List.mem_iff_getElem.1 hc
              rw [List.any_eq_true]
              refine ⟨j, List.mem_range.2 hj, ?_⟩
              rw [decide_eq_true_eq, List.getD_eq_getElem?_getD, List.getElem?_eq_getElem hj]
              exact e
          · unfold gameroomlaw_DraughtsDoes_L1
            dsimp only
            rw [if_neg (by simp)]
          · rw [hst _ i hi]
            have inner : (if ((0 : Int) == 0) = true then ((gameroomref_DraughtsDo_m b tn way).bind fun r10 => ((if ((0 : Int) == 0) = true then gameroomref_SameDraughts_m (doS b s way) (3 - tn) r10.1 r10.2 else some false)).bind fun r11 => gameroomlaw_DraughtsDoes_J6 (((0 : Int) == 0) && r11)) else (gameroomlaw_DraughtsDoes_J6 (((0 : Int) == 0) && false))) = some (.done (.ret true)) := by
              rw [if_pos (by decide), do_d hB.len hmv.way hs (piece_of hB hmv), Option.bind_some]
              dsimp only
              rw [if_pos (by decide), hsame, Option.bind_some]
              rfl
            cases decide ((movesS b s).getD i [] = way) with
            | true => exact inner
            | false => rfl
        · rw [if_neg hc]
          rw [loop_from (s0 := (0 : Int)) (r := (Fl.go () : Fl Unit Bool)) (fun k => (k : Int)) (movesS b s).length rfl (fun i hi => ?_) ?_, Option.bind_some]
          · rfl
          · unfold gameroomlaw_DraughtsDoes_L1
            dsimp only
            rw [if_neg (by simp)]
          · rw [hst _ i hi, if_neg]
            rw [decide_eq_true_eq, List.getD_eq_getElem?_getD, List.getElem?_eq_getElem hi]
            exact fun e => hc (by rw [← e]; exact List.getElem_mem hi)
      rw [hDo, Option.bind_some]
      by_cases hp : plies < 0 ∨ 6 < plies
      · rw [if_pos (by simpa using hp), Option.bind_some]
        unfold gameroomlaw_DraughtsDoes_J1
        rw [if_pos (by simpa using hp), if_neg (by decide), hJ2]
      · rw [if_neg (by simpa using hp)]
        obtain ⟨k, rfl⟩ : ∃ k : Nat, plies = (k : Int) := ⟨plies.toNat, by omega⟩
        obtain ⟨n1, n2⟩ := count_p k b s tn (by omega) hg hs
        unfold draughts_Count_J1
        rw [draughts_count_m_of (k + 1) _ _ _ n1, Option.bind_some, Option.bind_some]
        unfold gameroomlaw_DraughtsDoes_J1
        rw [if_neg (by simpa using hp)]
        dsimp only
        rw [if_pos (by decide), gameroomref_DraughtsCount_m_of (k + 1) _ _ _ n2, Option.bind_some, if_neg (by simp), hJ2]
    | false =>
      rfl
  · rw [if_neg hf]
    rfl
end Go.Proofs.Ytoickcchcjehdaa
