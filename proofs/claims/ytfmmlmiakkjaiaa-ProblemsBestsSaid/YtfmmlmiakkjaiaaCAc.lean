import Derived.Test.YtfmmlmiakkjaiaaCAb
namespace Go.Proofs.Ytfmmlmiakkjaiaa
open Go Go.GL
def attL (p : List Int) (t : Nat) (by1 : Int) (n : Nat) : List Int := ((List.range n).filter (fun (i : Nat) => sideI (geti p i) == by1 && attB p i t)).map (fun (i : Nat) => (i : Int))
theorem attL_len (p : List Int) (t : Nat) (by1 : Int) (n : Nat) : (attL p t by1 n).length ≤ n := by
 unfold attL
 rw [List.length_map]
 refine Nat.le_trans (List.length_filter_le _ _) ?_
 rw [List.length_range]; exact Nat.le_refl _
theorem attL_succ (p : List Int) (t : Nat) (by1 : Int) (n : Nat) : attL p t by1 (n + 1) = attL p t by1 n ++ (if (sideI (geti p n) == by1 && attB p n t) = true then [(n : Int)] else []) := by
 unfold attL
 rw [List.range_succ, List.filter_append, List.map_append]
 congr 1
 cases h : (sideI (geti p n) == by1 && attB p n t) <;> simp [h]
def Small (p : List Int) : Prop := p.length = 64 ∧ ∀ b : Nat, b < 64 → -6 ≤ geti p b ∧ geti p b ≤ 6
theorem side_ne {x by1 : Int} (hb : by1 = 0 ∨ by1 = 1) (h : sideI x = by1) : x ≠ 0 := by
 intro e
 rw [e] at h
 have : sideI 0 = -1 := rfl
 omega
section
variable {p : List Int}
theorem attackers_p (hs : Small p) {t : Nat} {by1 : Int} (hb : by1 = 0 ∨ by1 = 1) : board_Attackers_m p (t : Int) by1 = some (attL p t by1 64) := by
 unfold board_Attackers_m
 have key := count_loop (step := board_Attackers_L1 p t by1) (fun (_ : Unit) (n : Nat) => (attL p t by1 n, (n : Int))) (fun _ _ => True) (fun r => r = attL p t by1 64) 64 () trivial (by
  rintro n _ hn _
  left
  refine ⟨(), ?_, trivial⟩
  have hl := attL_len p t by1 n
  have e0 : board_Attackers_L1 p t by1 (attL p t by1 n, (n : Int)) = board_Attackers_J2 p t by1 (attL p t by1 n) n := by
   simp only [board_Attackers_L1]
   exact if_pos (decide_eq_true (by rw [hs.1]; omega))
  rw [e0, attL_succ]
  unfold board_Attackers_J2
  rw [asrt_pos (by rw [hs.1]; omega), side_eq, Option.bind_some]
  by_cases h : sideI (geti p n) = by1
  ·rw [if_neg (by simp [h])]
   unfold board_Attackers_J4 board_Reach_m
   rw [Option.bind_some, reach_p hs.1 hn (by omega) ⟨hs.2 n hn, side_ne hb h⟩, Option.bind_some]
   have hbe : (sideI (geti p n) == by1) = true := beq_iff_eq.2 h
   rw [hbe, Bool.true_and]
   cases attB p n t with
   | true =>
    simp only [if_true, board_Attackers_K2, board_Attackers_J3]
    rw [w64_of (by omega)]
    rfl
   | false =>
    simp only [Bool.false_eq_true, if_false, board_Attackers_K2, board_Attackers_J3, List.append_nil]
    rw [w64_of (by omega)]
    rfl
  ·have hbe : (sideI (geti p n) == by1) = false := by simpa using h
   rw [if_pos (by simp [h]), hbe]
   simp only [Bool.false_and, Bool.false_eq_true, if_false, board_Attackers_J3, List.append_nil]
   rw [w64_of (by omega)]
   rfl) (by
  rintro _ _
  refine ⟨_, ?_, rfl⟩
  simp only [board_Attackers_L1]
  rw [if_neg (by rw [hs.1]; simp)])
 obtain ⟨r, hr, rfl⟩ := key
 have hr' : loop (board_Attackers_L1 p t by1) ([], 0) = _ := hr
 rw [hr']
 rfl
theorem attackers_r (hs : Small p) {t : Nat} (ht : t < 64) {by1 : Int} (hb : by1 = 0 ∨ by1 = 1) : rf_AttackersOf_m p (t : Int) by1 = some (attL p t by1 64) := by
 unfold rf_AttackersOf_m
 have key := count_loop (step := rf_AttackersOf_L1 p t by1) (fun (_ : Unit) (n : Nat) => (attL p t by1 n, (n : Int))) (fun _ _ => True) (fun r => r = attL p t by1 64) 64 () trivial (by
  rintro n _ hn _
  left
  refine ⟨(), ?_, trivial⟩
  have hl := attL_len p t by1 n
  have e0 : rf_AttackersOf_L1 p t by1 (attL p t by1 n, (n : Int)) = rf_AttackersOf_J2 p t by1 (attL p t by1 n) n := by
   simp only [rf_AttackersOf_L1]
   exact if_pos (decide_eq_true (by omega))
  rw [e0, attL_succ]
  unfold rf_AttackersOf_J2 rf_AttackersOf_J3
  rw [asrt_pos (by rw [hs.1]; omega), sideR_eq, Option.bind_some, w64_of (by omega)]
  by_cases h : sideI (geti p n) = by1
  ·have hbe : (sideI (geti p n) == by1) = true := beq_iff_eq.2 h
   rw [hbe, if_pos rfl, attacks_r hs.1 hn ht ⟨hs.2 n hn, side_ne hb h⟩, Option.bind_some, Bool.true_and]
   cases attB p n t with
   | true =>
    rw [if_pos rfl, if_pos rfl, asrt_pos (by unfold bigN; omega)]
    rfl
   | false =>
    simp only [Bool.false_eq_true, if_false, List.append_nil]
    rfl
  ·have hbe : (sideI (geti p n) == by1) = false := by simpa using h
   rw [hbe]
   simp only [Bool.false_and, Bool.false_eq_true, if_false, List.append_nil, Option.bind_some]
   rfl) (by
  rintro _ _
  refine ⟨_, ?_, rfl⟩
  simp only [rf_AttackersOf_L1]
  rw [if_neg (by simp)])
 obtain ⟨r, hr, rfl⟩ := key
 have hr' : loop (rf_AttackersOf_L1 p t by1) ([], 0) = _ := hr
 rw [hr']
 rfl
theorem index_p (hl : p.length ≤ 1000) (v : Int) : slices_Index_m p v = some (fidx (fun y => decide (y = v)) p) := by
 unfold slices_Index_m
 rw [search_loop (l := p) (fun y => decide (y = v)) (fun i => Fl.ret (i : Int)) (Fl.go ()) ?_ ?_ ?_]
 ·unfold fidx
  cases p.findIdx? (fun y => decide (y = v)) <;> rfl
 ·intro i x hx hp
  have hb := idx_bd hx
  simp only [slices_Index_L1, slices_Index_J2]
  rw [if_pos (by simpa using hb.2), asrt_pos hb, geti_some hx, if_pos (by rw [beq_iff_eq]; exact (of_decide_eq_true hp).symm)]
 ·intro i x hx hp
  have hb := idx_bd hx
  simp only [slices_Index_L1, slices_Index_J2]
  rw [if_pos (by simpa using hb.2), asrt_pos hb, geti_some hx, if_neg (by rw [beq_iff_eq]; exact fun e => of_decide_eq_false hp e.symm)]
  simp only [slices_Index_J3]
  rw [w64_succ (by omega)]
 ·simp only [slices_Index_L1]
  rw [if_neg (by simp)]
theorem at_r (hl : p.length ≤ 1000) (v : Int) : rf_at_m p v = some (fidx (fun y => decide (y = v)) p) := by
 unfold rf_at_m
 rw [search_loop (l := p) (fun y => decide (y = v)) (fun i => Fl.ret (i : Int)) (Fl.go ()) ?_ ?_ ?_]
 ·unfold fidx
  cases p.findIdx? (fun y => decide (y = v)) <;> rfl
 ·intro i x hx hp
  have hb := idx_bd hx
  simp only [rf_at_L1, rf_at_J2]
  rw [if_pos (by simpa using hb.2), asrt_pos hb, geti_some hx, if_pos (by rw [beq_iff_eq]; exact of_decide_eq_true hp)]
 ·intro i x hx hp
  have hb := idx_bd hx
  simp only [rf_at_L1, rf_at_J2]
  rw [if_pos (by simpa using hb.2), asrt_pos hb, geti_some hx, if_neg (by rw [beq_iff_eq]; exact of_decide_eq_false hp)]
  simp only [rf_at_J3]
  rw [w64_succ (by omega)]
 ·simp only [rf_at_L1]
  rw [if_neg (by simp)]
def kingV (side : Int) : Int := if side = 1 then -6 else 6
def inChk (p : List Int) (side : Int) : Bool := decide (0 < (attL p (fidx (fun y => decide (y = kingV side)) p).toNat (1 - side) 64).length)
theorem check_both (hs : Small p) {side : Int} (hd : side = 0 ∨ side = 1) (hk : ∃ b : Nat, b < 64 ∧ geti p b = kingV side) : board_Checked_m p side = some (inChk p side) ∧ rf_InCheck_m p side = some (inChk p side) := by
 have h0 : 0 ≤ fidx (fun y => decide (y = kingV side)) p := by
  rw [fidx_neg, List.any_eq_true]
  obtain ⟨b, hb, e⟩ := hk
  exact ⟨_, List.mem_of_getElem? (get_geti (show b < p.length by rw [hs.1]; exact hb)), by simpa using e⟩
 have hb := fidx_bd (fun y => decide (y = kingV side)) p
 rw [hs.1] at hb
 have hn : fidx (fun y => decide (y = kingV side)) p = (((fidx (fun y => decide (y = kingV side)) p).toNat : Nat) : Int) := by omega
 have hl : p.length ≤ 1000 := by rw [hs.1]; omega
 constructor
 ·unfold board_Checked_m board_KingAt_m
  rw [forward_small (by omega), Option.bind_some, show w64 (6 * (1 - 2 * side)) = kingV side by rcases hd with rfl | rfl <;> rfl, index_p hl]
  simp only [Option.bind_some]
  rw [w64_of (by omega), hn, attackers_p hs (by omega), Option.bind_some]
  unfold inChk
  congr 1
  rw [Bool.eq_iff_iff, decide_eq_true_eq, decide_eq_true_eq]
  omega
 ·unfold rf_InCheck_m rf_InCheck_J1
  have e : (if (side == 1) = true then (rf_at_m p (w64 (0 - 6))).bind fun r1 => (rf_AttackersOf_m p r1 (w64 (1 - side))).bind fun r2 => some (decide ((0 : Int) < (r2.length : Int))) else (rf_at_m p 6).bind fun r1 => (rf_AttackersOf_m p r1 (w64 (1 - side))).bind fun r2 => some (decide ((0 : Int) < (r2.length : Int)))) = (rf_at_m p (kingV side)).bind fun r1 => (rf_AttackersOf_m p r1 (w64 (1 - side))).bind fun r2 => some (decide ((0 : Int) < (r2.length : Int))) := by
   rcases hd with rfl | rfl <;> rfl
  rw [e, at_r hl]
  simp only [Option.bind_some]
  rw [w64_of (by omega), hn, attackers_r hs (by omega) (by omega), Option.bind_some]
  unfold inChk
  congr 1
  rw [Bool.eq_iff_iff, decide_eq_true_eq, decide_eq_true_eq]
  omega
def badP (x : Int) (i : Nat) : Bool := !(decide (-6 ≤ x) && decide (x ≤ 6)) || (decide (x.natAbs = 1) && (decide ((i : Int) < 8) || decide ((55 : Int) < i)))
def cntV (p : List Int) (v : Int) (n : Nat) : Nat := cntN (fun i => decide (geti p i = v)) n
theorem kind_bad {x : Int} (hx : inI x) (h : ¬ (-6 ≤ x ∧ x ≤ 6)) : ∃ k, board_Kind_m x = some k ∧ k ≠ 0 ∧ k ≠ 1 ∧ k ≠ 2 ∧ k ≠ 3 ∧ k ≠ 4 ∧ k ≠ 5 ∧ k ≠ 6 := by
 unfold board_Kind_m maxI
 unfold inI at hx
 by_cases hm : x = -9223372036854775808
 ·subst hm
  exact ⟨_, rfl, by decide⟩
 ·rw [w64_of (by omega)]
  refine ⟨_, rfl, ?_⟩
  split <;> omega
theorem loops1 (hl : p.length = 64) (hin : ∀ b : Nat, b < 64 → inI (geti p b)) :
  (loop (board_May_L1 p) ([0, 0], 0) = some (Fl.ret false) ∧ loop (rf_ChessMay_L1 p) (0, 0, 0) = some (Fl.ret false)) ∨
  ((Small p ∧ ∀ i : Nat, i < 64 → badP (geti p i) i = false) ∧ loop (board_May_L1 p) ([0, 0], 0) = some (Fl.go [(cntV p 6 64 : Int), (cntV p (-6) 64 : Int)]) ∧ loop (rf_ChessMay_L1 p) (0, 0, 0) = some (Fl.go ((cntV p 6 64 : Int), (cntV p (-6) 64 : Int)))) := by
 have turn : ∀ n : Nat, n < 64 →
   board_May_L1 p ([(cntV p 6 n : Int), (cntV p (-6) n : Int)], (n : Int)) = some (if badP (geti p n) n then .done (.ret false) else .next ([(cntV p 6 (n + 1) : Int), (cntV p (-6) (n + 1) : Int)], ((n + 1 : Nat) : Int))) ∧
   rf_ChessMay_L1 p ((cntV p 6 n : Int), (cntV p (-6) n : Int), (n : Int)) = some (if badP (geti p n) n then .done (.ret false) else .next ((cntV p 6 (n + 1) : Int), (cntV p (-6) (n + 1) : Int), ((n + 1 : Nat) : Int))) := by
  intro n hn
  have c1 : cntV p 6 n ≤ n := cntN_le _ _
  have c2 : cntV p (-6) n ≤ n := cntN_le _ _
  have s1 : cntV p 6 (n + 1) = cntV p 6 n + if geti p n = 6 then 1 else 0 := by simp [cntV, cntN]
  have s2 : cntV p (-6) (n + 1) = cntV p (-6) n + if geti p n = -6 then 1 else 0 := by simp [cntV, cntN]
  constructor
  ·simp only [board_May_L1]
   rw [if_pos (decide_eq_true (by rw [hl]; omega))]
   unfold board_May_J3 board_May_J5 board_May_J4
   rw [asrt_pos (by rw [hl]; omega), w64_of (x := (n : Int) + 1) (by omega)]
   by_cases hx : -6 ≤ geti p n ∧ geti p n ≤ 6
   ·rw [kind_small hx, Option.bind_some, side_eq]
    unfold badP
    have h7 : geti p n = -6 ∨ geti p n = -5 ∨ geti p n = -4 ∨ geti p n = -3 ∨ geti p n = -2 ∨ geti p n = -1 ∨ geti p n = 0 ∨ geti p n = 1 ∨ geti p n = 2 ∨ geti p n = 3 ∨ geti p n = 4 ∨ geti p n = 5 ∨ geti p n = 6 := by omega
    have w1 : w64 ((cntV p 6 n : Int) + 1) = (cntV p 6 n : Int) + 1 := w64_of (by omega)
    have w2 : w64 ((cntV p (-6) n : Int) + 1) = (cntV p (-6) n : Int) + 1 := w64_of (by omega)
    rcases h7 with h | h | h | h | h | h | h | h | h | h | h | h | h <;> rw [h] at s1 s2 ⊢ <;> simp at s1 s2 <;> rw [s1, s2]
    all_goals simp [sideI, geti, w1, w2, asrt]
    all_goals
     by_cases q : (n : Int) < 8 ∨ (55 : Int) < n
     ·rw [if_pos (show (n : Int) < 8 ∨ (56 : Int) ≤ n by omega), if_pos q]
     ·rw [if_neg (show ¬ ((n : Int) < 8 ∨ (56 : Int) ≤ n) by omega), if_neg q]
   ·obtain ⟨k, hk, q0, q1, q2, q3, q4, q5, q6⟩ := kind_bad (hin n hn) hx
    have hbad : badP (geti p n) n = true := by
     unfold badP
     have : (decide (-6 ≤ geti p n) && decide (geti p n ≤ 6)) = false := by
      rw [Bool.eq_false_iff]
      intro h
      simp only [Bool.and_eq_true, decide_eq_true_eq] at h
      exact hx h
     rw [this]; rfl
    rw [hk, Option.bind_some, hbad]
    simp [q0, q1, q2, q3, q4, q5, q6]
  ·simp only [rf_ChessMay_L1]
   rw [if_pos (decide_eq_true (by omega))]
   unfold rf_ChessMay_J3 rf_ChessMay_J5 rf_ChessMay_J6 rf_ChessMay_J4 rf_within_m
   rw [asrt_pos (by rw [hl]; omega), w64_of (x := (n : Int) + 1) (by omega), w64_of (x := (cntV p 6 n : Int) + 1) (by omega), w64_of (x := (cntV p (-6) n : Int) + 1) (by omega), Option.bind_some]
   by_cases hx : -6 ≤ geti p n ∧ geti p n ≤ 6
   ·rw [decide_eq_true hx.1, decide_eq_true hx.2, size_small (by omega)]
    unfold badP
    rw [decide_eq_true hx.1, decide_eq_true hx.2, s1, s2]
    have e1 : (((geti p n).natAbs : Int) == 1) = decide ((geti p n).natAbs = 1) := by
     rw [Bool.eq_iff_iff, beq_iff_eq, decide_eq_true_eq]; omega
    simp only [Bool.and_self, Bool.not_true, Bool.not_false, if_true, Option.bind_some, Bool.false_or, e1]
    by_cases hb : (decide ((geti p n).natAbs = 1) && (decide ((n : Int) < 8) || decide ((55 : Int) < n))) = true
    ·rw [if_pos hb, if_pos hb]
    ·rw [if_neg hb, if_neg hb]
     by_cases h6 : geti p n = 6
     ·have hm6 : ¬ geti p n = -6 := by omega
      rw [h6]
      simp
     ·by_cases hm6 : geti p n = -6
      ·rw [hm6]
       simp
      ·simp [h6, hm6]
   ·have hf : (decide (-6 ≤ geti p n) && decide (geti p n ≤ 6)) = false := by
     rw [Bool.eq_false_iff]
     intro h
     simp only [Bool.and_eq_true, decide_eq_true_eq] at h
     exact hx h
    unfold badP
    rw [hf]
    simp
 have least : ∀ k : Nat, (∀ i : Nat, i < k → badP (geti p i) i = false) ∨ ∃ b : Nat, b < k ∧ badP (geti p b) b = true ∧ ∀ i : Nat, i < b → badP (geti p i) i = false := by
  intro k
  induction k with
  | zero => exact .inl fun i hi => by omega
  | succ k ih =>
   rcases ih with h | ⟨b, h1, h2⟩
   ·cases hb : badP (geti p k) k with
    | true => exact .inr ⟨k, by omega, hb, h⟩
    | false =>
     refine .inl fun i hi => ?_
     by_cases e : i = k
     ·subst e; exact hb
     ·exact h i (by omega)
   ·exact .inr ⟨b, by omega, h2⟩
 rcases least 64 with h | ⟨b, hb, h1, h2⟩
 ·right
  refine ⟨⟨⟨hl, fun b hb => ?_⟩, h⟩, ?_, ?_⟩
  ·have := h b hb
   unfold badP at this
   simp only [Bool.or_eq_false_iff, Bool.not_eq_false', Bool.and_eq_true, decide_eq_true_eq] at this
   exact this.1
  ·refine loop_from (fun n : Nat => ([(cntV p 6 n : Int), (cntV p (-6) n : Int)], (n : Int))) 64 rfl (fun i hi => ?_) ?_
   ·rw [(turn i hi).1, h i hi]; rfl
   ·simp only [board_May_L1]
    rw [if_neg (by rw [hl]; simp)]
  ·refine loop_from (fun n : Nat => ((cntV p 6 n : Int), (cntV p (-6) n : Int), (n : Int))) 64 rfl (fun i hi => ?_) ?_
   ·rw [(turn i hi).2, h i hi]; rfl
   ·simp only [rf_ChessMay_L1]
    rw [if_neg (by simp)]
 ·left
  constructor
  ·refine loop_from (fun n : Nat => ([(cntV p 6 n : Int), (cntV p (-6) n : Int)], (n : Int))) b rfl (fun i hi => ?_) ?_
   ·rw [(turn i (by omega)).1, h2 i hi]; rfl
   ·rw [(turn b hb).1, h1]; rfl
  ·refine loop_from (fun n : Nat => ((cntV p 6 n : Int), (cntV p (-6) n : Int), (n : Int))) b rfl (fun i hi => ?_) ?_
   ·rw [(turn i (by omega)).2, h2 i hi]; rfl
   ·rw [(turn b hb).2, h1]; rfl
end
end Go.Proofs.Ytfmmlmiakkjaiaa
