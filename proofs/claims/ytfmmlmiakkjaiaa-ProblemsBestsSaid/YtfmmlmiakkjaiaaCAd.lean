import Derived.Test.YtfmmlmiakkjaiaaCAc
namespace Go.Proofs.Ytfmmlmiakkjaiaa
open Go Go.GL
section
variable {p : List Int}
def castC (p : List Int) (p3 n k r f : Int) : Bool := ((bAnd (shrK .i64 p3 n) 1) == 1) && ((geti p k != 6 * f) || (geti p r != 4 * f))
theorem cast0_p (hl : p.length = 64) (p3 : Int) : board_May_L2 p p3 0 = some (if castC p p3 0 4 7 1 = true then .done (.ret false) else .next 1) := by
 simp only [board_May_L2]
 rw [if_pos (by decide)]
 unfold board_May_J8 board_May_J9 castC
 rw [show board_Right_m 0 = some (4, 7) by decide +kernel, show board_forward_m (shrK .i64 0 1) = some 1 by decide +kernel]
 simp only [Option.bind_some]
 rw [asrt_pos (by decide), asrt_pos (fun _ => by omega), asrt_pos (fun _ _ => by omega), show w64 (6 * 1) = 6 * 1 by decide, show w64 (4 * 1) = 4 * 1 by decide, show w64 (0 + 1) = 1 by decide]
 split <;> rfl
theorem cast0_r (hl : p.length = 64) (p3 : Int) : rf_ChessMay_L2 p p3 0 = some (if castC p p3 0 4 7 1 = true then .done (.ret false) else .next 1) := by
 simp only [rf_ChessMay_L2]
 rw [if_pos (by decide)]
 unfold rf_ChessMay_J9
 rw [if_neg (by decide)]
 unfold rf_ChessMay_J11 rf_ChessMay_J10 castC
 rw [show geti ([4, 4, 60, 60] : List Int) 0 = 4 by decide, show geti ([7, 0, 63, 56] : List Int) 0 = 7 by decide]
 rw [asrt_pos (by decide), asrt_pos (fun _ => by omega), asrt_pos (fun _ => by omega), asrt_pos (fun _ _ => by omega), asrt_pos (fun _ _ => by omega), show w64 (1 * 6) = 6 * 1 by decide, show w64 (1 * 4) = 4 * 1 by decide, show w64 (0 + 1) = 1 by decide]
 split <;> rfl
theorem cast1_p (hl : p.length = 64) (p3 : Int) : board_May_L2 p p3 1 = some (if castC p p3 1 4 0 1 = true then .done (.ret false) else .next 2) := by
 simp only [board_May_L2]
 rw [if_pos (by decide)]
 unfold board_May_J8 board_May_J9 castC
 rw [show board_Right_m 1 = some (4, 0) by decide +kernel, show board_forward_m (shrK .i64 1 1) = some 1 by decide +kernel]
 simp only [Option.bind_some]
 rw [asrt_pos (by decide), asrt_pos (fun _ => by omega), asrt_pos (fun _ _ => by omega), show w64 (6 * 1) = 6 * 1 by decide, show w64 (4 * 1) = 4 * 1 by decide, show w64 (1 + 1) = 2 by decide]
 split <;> rfl
theorem cast1_r (hl : p.length = 64) (p3 : Int) : rf_ChessMay_L2 p p3 1 = some (if castC p p3 1 4 0 1 = true then .done (.ret false) else .next 2) := by
 simp only [rf_ChessMay_L2]
 rw [if_pos (by decide)]
 unfold rf_ChessMay_J9
 rw [if_neg (by decide)]
 unfold rf_ChessMay_J11 rf_ChessMay_J10 castC
 rw [show geti ([4, 4, 60, 60] : List Int) 1 = 4 by decide, show geti ([7, 0, 63, 56] : List Int) 1 = 0 by decide]
 rw [asrt_pos (by decide), asrt_pos (fun _ => by omega), asrt_pos (fun _ => by omega), asrt_pos (fun _ _ => by omega), asrt_pos (fun _ _ => by omega), show w64 (1 * 6) = 6 * 1 by decide, show w64 (1 * 4) = 4 * 1 by decide, show w64 (1 + 1) = 2 by decide]
 split <;> rfl
theorem cast2_p (hl : p.length = 64) (p3 : Int) : board_May_L2 p p3 2 = some (if castC p p3 2 60 63 (-1) = true then .done (.ret false) else .next 3) := by
 simp only [board_May_L2]
 rw [if_pos (by decide)]
 unfold board_May_J8 board_May_J9 castC
 rw [show board_Right_m 2 = some (60, 63) by decide +kernel, show board_forward_m (shrK .i64 2 1) = some (-1) by decide +kernel]
 simp only [Option.bind_some]
 rw [asrt_pos (by decide), asrt_pos (fun _ => by omega), asrt_pos (fun _ _ => by omega), show w64 (6 * (-1)) = 6 * (-1) by decide, show w64 (4 * (-1)) = 4 * (-1) by decide, show w64 (2 + 1) = 3 by decide]
 split <;> rfl
theorem cast2_r (hl : p.length = 64) (p3 : Int) : rf_ChessMay_L2 p p3 2 = some (if castC p p3 2 60 63 (-1) = true then .done (.ret false) else .next 3) := by
 simp only [rf_ChessMay_L2]
 rw [if_pos (by decide)]
 unfold rf_ChessMay_J9
 rw [if_pos (by decide)]
 unfold rf_ChessMay_J11 rf_ChessMay_J10 castC
 rw [show geti ([4, 4, 60, 60] : List Int) 2 = 60 by decide, show geti ([7, 0, 63, 56] : List Int) 2 = 63 by decide]
 rw [asrt_pos (by decide), asrt_pos (fun _ => by omega), asrt_pos (fun _ => by omega), asrt_pos (fun _ _ => by omega), asrt_pos (fun _ _ => by omega), show w64 ((-1) * 6) = 6 * (-1) by decide, show w64 ((-1) * 4) = 4 * (-1) by decide, show w64 (2 + 1) = 3 by decide]
 split <;> rfl
theorem cast3_p (hl : p.length = 64) (p3 : Int) : board_May_L2 p p3 3 = some (if castC p p3 3 60 56 (-1) = true then .done (.ret false) else .next 4) := by
 simp only [board_May_L2]
 rw [if_pos (by decide)]
 unfold board_May_J8 board_May_J9 castC
 rw [show board_Right_m 3 = some (60, 56) by decide +kernel, show board_forward_m (shrK .i64 3 1) = some (-1) by decide +kernel]
 simp only [Option.bind_some]
 rw [asrt_pos (by decide), asrt_pos (fun _ => by omega), asrt_pos (fun _ _ => by omega), show w64 (6 * (-1)) = 6 * (-1) by decide, show w64 (4 * (-1)) = 4 * (-1) by decide, show w64 (3 + 1) = 4 by decide]
 split <;> rfl
theorem cast3_r (hl : p.length = 64) (p3 : Int) : rf_ChessMay_L2 p p3 3 = some (if castC p p3 3 60 56 (-1) = true then .done (.ret false) else .next 4) := by
 simp only [rf_ChessMay_L2]
 rw [if_pos (by decide)]
 unfold rf_ChessMay_J9
 rw [if_pos (by decide)]
 unfold rf_ChessMay_J11 rf_ChessMay_J10 castC
 rw [show geti ([4, 4, 60, 60] : List Int) 3 = 60 by decide, show geti ([7, 0, 63, 56] : List Int) 3 = 56 by decide]
 rw [asrt_pos (by decide), asrt_pos (fun _ => by omega), asrt_pos (fun _ => by omega), asrt_pos (fun _ _ => by omega), asrt_pos (fun _ _ => by omega), show w64 ((-1) * 6) = 6 * (-1) by decide, show w64 ((-1) * 4) = 4 * (-1) by decide, show w64 (3 + 1) = 4 by decide]
 split <;> rfl
theorem cast_both (hl : p.length = 64) (p3 : Int) : ∃ b : Bool, loop (board_May_L2 p p3) 0 = some (if b then Fl.ret false else Fl.go ()) ∧ loop (rf_ChessMay_L2 p p3) 0 = some (if b then Fl.ret false else Fl.go ()) := by
 have e4 : board_May_L2 p p3 4 = some (.done (.go ())) := by simp [board_May_L2]
 have f4 : rf_ChessMay_L2 p p3 4 = some (.done (.go ())) := by simp [rf_ChessMay_L2]
 have e0 := cast0_p hl p3
 have e1 := cast1_p hl p3
 have e2 := cast2_p hl p3
 have e3 := cast3_p hl p3
 have f0 := cast0_r hl p3
 have f1 := cast1_r hl p3
 have f2 := cast2_r hl p3
 have f3 := cast3_r hl p3
 by_cases c0 : castC p p3 0 4 7 1 = true
 ·rw [if_pos c0] at e0 f0
  exact ⟨true, loop_done e0, loop_done f0⟩
 rw [if_neg c0] at e0 f0
 by_cases c1 : castC p p3 1 4 0 1 = true
 ·rw [if_pos c1] at e1 f1
  exact ⟨true, loop_next' e0 (loop_done e1), loop_next' f0 (loop_done f1)⟩
 rw [if_neg c1] at e1 f1
 by_cases c2 : castC p p3 2 60 63 (-1) = true
 ·rw [if_pos c2] at e2 f2
  exact ⟨true, loop_next' e0 (loop_next' e1 (loop_done e2)), loop_next' f0 (loop_next' f1 (loop_done f2))⟩
 rw [if_neg c2] at e2 f2
 by_cases c3 : castC p p3 3 60 56 (-1) = true
 ·rw [if_pos c3] at e3 f3
  exact ⟨true, loop_next' e0 (loop_next' e1 (loop_next' e2 (loop_done e3))), loop_next' f0 (loop_next' f1 (loop_next' f2 (loop_done f3)))⟩
 rw [if_neg c3] at e3 f3
 exact ⟨false, loop_next' e0 (loop_next' e1 (loop_next' e2 (loop_next' e3 (loop_done e4)))), loop_next' f0 (loop_next' f1 (loop_next' f2 (loop_next' f3 (loop_done f4))))⟩
theorem rank_b (x : Int) (c : Nat) (hc : c ≤ 7) : ((decide ((0 : Int) ≤ x) && decide (x < 64)) && (shrK .i64 x 3 == (c : Int))) = (decide (8 * (c : Int) ≤ x) && decide (x ≤ 8 * (c : Int) + 7)) := by
 by_cases h : 0 ≤ x ∧ x < 64
 ·have e : shrK .i64 x 3 = ((x.toNat / 2 ^ 3 : Nat) : Int) := by
   rw [← shr_nat x.toNat 3 (by decide)]
   congr 1
   omega
  rw [decide_eq_true h.1, decide_eq_true h.2, e, Bool.eq_iff_iff]
  simp only [Bool.and_self, Bool.true_and, beq_iff_eq, Bool.and_eq_true, decide_eq_true_eq]
  omega
 ·have h1 : (decide ((0 : Int) ≤ x) && decide (x < 64)) = false := by
   rw [Bool.eq_false_iff]
   intro q
   simp only [Bool.and_eq_true, decide_eq_true_eq] at q
   exact h q
  have h2 : (decide (8 * (c : Int) ≤ x) && decide (x ≤ 8 * (c : Int) + 7)) = false := by
   rw [Bool.eq_false_iff]
   intro q
   simp only [Bool.and_eq_true, decide_eq_true_eq] at q
   omega
  rw [h1, h2]; rfl
theorem pass_both (hl : p.length = 64) {p2 : Int} (h2 : p2 = 0 ∨ p2 = 1) (p3 p4 p5 p6 : Int) : ∃ b, board_passant_m p p2 p3 p4 p5 p6 = some b ∧ rf_ChessMay_J12 p p2 p4 = some b := by
 unfold board_passant_m rf_ChessMay_J12 rf_ChessMay_J13 rf_within_m
 rcases h2 with rfl | rfl
 ·rw [if_pos (by decide), forward_small (by decide), show (1 - 2 * (0 : Int)) = 1 from rfl]
  simp only [Option.bind_some]
  rw [show w64 (5 - w64 (3 * 0)) = ((5 : Nat) : Int) by decide, rank_b p4 5 (by decide), show w64 (8 * 1) = 8 by decide, show w64 (w64 (0 - 1) * 1) = -1 by decide, show (8 * ((5 : Nat) : Int)) = 40 from rfl, show ((40 : Int) + 7) = 47 from rfl]
  by_cases hb : (decide ((40 : Int) ≤ p4) && decide (p4 ≤ 47)) = true
  ·have hb' := hb
   rw [Bool.and_eq_true, decide_eq_true_eq, decide_eq_true_eq] at hb'
   rw [w64_of (x := p4 - 8) (by omega), w64_of (x := p4 + 8) (by omega)]
   repeat rw [asrt_pos (fun _ => by omega)]
   exact ⟨_, rfl, rfl⟩
  ·rw [Bool.not_eq_true] at hb
   rw [hb]
   simp [asrt]
 ·rw [if_neg (by decide), forward_small (by decide), show (1 - 2 * (1 : Int)) = -1 from rfl]
  simp only [Option.bind_some]
  rw [show w64 (5 - w64 (3 * 1)) = ((2 : Nat) : Int) by decide, rank_b p4 2 (by decide), show w64 (8 * -1) = -8 by decide, show w64 (w64 (0 - -1) * 1) = 1 by decide, show (8 * ((2 : Nat) : Int)) = 16 from rfl, show ((16 : Int) + 7) = 23 from rfl]
  by_cases hb : (decide ((16 : Int) ≤ p4) && decide (p4 ≤ 23)) = true
  ·have hb' := hb
   rw [Bool.and_eq_true, decide_eq_true_eq, decide_eq_true_eq] at hb'
   rw [w64_of (x := p4 - -8) (by omega), w64_of (x := p4 + -8) (by omega), w64_of (x := p4 - 8) (by omega), w64_of (x := p4 + 8) (by omega), show p4 - -8 = p4 + 8 by omega, show p4 + -8 = p4 - 8 by omega]
   repeat rw [asrt_pos (fun _ => by omega)]
   exact ⟨_, rfl, rfl⟩
  ·rw [Bool.not_eq_true] at hb
   rw [hb]
   simp [asrt]
theorem cnt_pos {q : Nat → Bool} : ∀ n, cntN q n ≠ 0 → ∃ i, i < n ∧ q i = true
 | 0, h => absurd rfl h
 | n + 1, h => by
  simp only [cntN] at h
  by_cases hq : q n = true
  ·exact ⟨n, by omega, hq⟩
  ·rw [if_neg hq] at h
   obtain ⟨i, h1, h2⟩ := cnt_pos n h
   exact ⟨i, by omega, h2⟩
structure Pos (p : List Int) (p2 : Int) : Prop where
 small : Small p
 turn : p2 = 0 ∨ p2 = 1
 w : ∃ b : Nat, b < 64 ∧ geti p b = 6
 b : ∃ b : Nat, b < 64 ∧ geti p b = -6
theorem Pos.king {p2 : Int} (h : Pos p p2) (side : Int) : ∃ b : Nat, b < 64 ∧ geti p b = kingV side := by
 unfold kingV
 split
 ·exact h.b
 ·exact h.w
theorem may_both (hin : ∀ y ∈ p, inI y) (p2 p3 p4 p5 p6 : Int) : ∃ b, board_May_m p p2 p3 p4 p5 p6 = some b ∧ rf_ChessMay_m p p2 p3 p4 p5 p6 = some b ∧ (b = true → Pos p p2) := by
 by_cases hd : (p.length : Int) = 64 ∧ (0 ≤ p2 ∧ p2 ≤ 1) ∧ (0 ≤ p3 ∧ p3 ≤ 15) ∧ (0 ≤ p5 ∧ p5 ≤ 999) ∧ (1 ≤ p6 ∧ p6 ≤ 999)
 ·obtain ⟨h1, h2, h3, h4, h5⟩ := hd
  have hl : p.length = 64 := by omega
  have ep : board_May_m p p2 p3 p4 p5 p6 = board_May_J1 p p2 p3 p4 p5 p6 := by
   unfold board_May_m
   exact if_neg (by simp; omega)
  have er : rf_ChessMay_m p p2 p3 p4 p5 p6 = rf_ChessMay_J1 p p2 p3 p4 := by
   unfold rf_ChessMay_m rf_within_m
   rw [h1, decide_eq_true h2.1, decide_eq_true h2.2, decide_eq_true h3.1, decide_eq_true h3.2, decide_eq_true h4.1, decide_eq_true h4.2, decide_eq_true h5.1, decide_eq_true h5.2]
   rfl
  rw [ep, er]
  unfold board_May_J1 rf_ChessMay_J1
  rw [show List.replicate 2 (0 : Int) = [0, 0] from rfl]
  rcases loops1 hl (fun b hb => hin _ (List.mem_of_getElem? (get_geti (by omega)))) with ⟨q1, q2⟩ | ⟨⟨hs, _⟩, q1, q2⟩
  ·rw [q1, q2]
   exact ⟨false, rfl, rfl, fun h => by cases h⟩
  ·rw [q1, q2, Option.bind_some, Option.bind_some]
   simp only [board_May_K1, rf_ChessMay_K1]
   unfold board_May_J2 rf_ChessMay_J2
   have g0 : ∀ a b : Int, geti [a, b] 0 = a ∧ geti [a, b] 1 = b := fun a b => ⟨rfl, rfl⟩
   rw [(g0 _ _).1, (g0 _ _).2, (g0 _ _).1, (g0 _ _).2]
   by_cases hk : cntV p 6 64 = 1 ∧ cntV p (-6) 64 = 1
   ·rw [hk.1, hk.2]
    have hp : Pos p p2 := by
     refine ⟨hs, by omega, ?_, ?_⟩
     ·obtain ⟨i, a, b⟩ := cnt_pos (q := fun i => decide (geti p i = 6)) 64 (by unfold cntV at hk; omega)
      exact ⟨i, a, of_decide_eq_true b⟩
     ·obtain ⟨i, a, b⟩ := cnt_pos (q := fun i => decide (geti p i = -6)) 64 (by unfold cntV at hk; omega)
      exact ⟨i, a, of_decide_eq_true b⟩
    have hck := check_both hs (side := 1 - p2) (by have := hp.turn; omega) (hp.king _)
    rw [w64_of (by omega), hck.1, hck.2]
    cases hc : inChk p (1 - p2) with
    | true => exact ⟨false, rfl, rfl, fun h => by cases h⟩
    | false =>
     have s1 : board_May_J6 p p2 p3 p4 p5 p6 = _ := rfl
     obtain ⟨b, c1, c2⟩ := cast_both hl p3
     have goalp : ((if (!(!((((1 : Nat) : Int) == 1) && (((1 : Nat) : Int) == 1)))) = true then some false else some false : Option Bool).bind fun r3 => if ((!((((1 : Nat) : Int) == 1) && (((1 : Nat) : Int) == 1))) || r3) = true then some false else board_May_J6 p p2 p3 p4 p5 p6) = board_May_J6 p p2 p3 p4 p5 p6 := rfl
     have goalr : ((if (!((((1 : Nat) : Int) != 1) || (((1 : Nat) : Int) != 1))) = true then some false else some false : Option Bool).bind fun r7 => if ((((1 : Nat) : Int) != 1) || (((1 : Nat) : Int) != 1) || r7) = true then some false else rf_ChessMay_J7 p p2 p3 p4) = rf_ChessMay_J7 p p2 p3 p4 := rfl
     rw [goalp, goalr]
     unfold board_May_J6 rf_ChessMay_J7
     rw [c1, c2]
     cases b with
     | true => exact ⟨false, rfl, rfl, fun h => by cases h⟩
     | false =>
      simp only [Bool.false_eq_true, if_false, Option.bind_some, board_May_K2, rf_ChessMay_K2]
      unfold board_May_J7 rf_ChessMay_J8
      by_cases h9 : p4 = -1
      ·rw [h9]
       exact ⟨true, rfl, rfl, fun _ => hp⟩
      ·obtain ⟨b, d1, d2⟩ := pass_both hl hp.turn p3 p4 p5 p6
       have e9 : (p4 == -1) = false := by simpa using h9
       rw [e9, d1]
       simp only [Bool.not_false, if_true, Bool.false_eq_true, if_false, Option.bind_some, Bool.false_or]
       rw [d2]
       exact ⟨b, rfl, rfl, fun _ => hp⟩
   ·have hw : ((((cntV p 6 64 : Nat) : Int) == 1) && (((cntV p (-6) 64 : Nat) : Int) == 1)) = false := by
     rw [Bool.eq_false_iff]
     intro q
     simp only [Bool.and_eq_true, beq_iff_eq] at q
     omega
    have hw2 : ((((cntV p 6 64 : Nat) : Int) != 1) || (((cntV p (-6) 64 : Nat) : Int) != 1)) = true := by
     simp only [Bool.or_eq_true, bne_iff_ne]
     omega
    rw [hw, hw2]
    exact ⟨false, rfl, rfl, fun h => by cases h⟩
 ·refine ⟨false, ?_, ?_, fun h => by cases h⟩
  ·unfold board_May_m
   refine if_pos ?_
   simp only [Bool.or_eq_true, bne_iff_ne, decide_eq_true_eq]
   omega
  ·unfold rf_ChessMay_m rf_within_m
   have hb : (((((!((p.length : Int) != 64)) && (decide ((0 : Int) ≤ p2) && decide (p2 ≤ 1))) && (decide ((0 : Int) ≤ p3) && decide (p3 ≤ 15))) && (decide ((0 : Int) ≤ p5) && decide (p5 ≤ 999))) && (decide ((1 : Int) ≤ p6) && decide (p6 ≤ 999))) = false := by
    rw [Bool.eq_false_iff]
    intro q
    simp only [Bool.and_eq_true, decide_eq_true_eq, Bool.not_eq_true', bne_eq_false_iff_eq] at q
    exact hd ⟨q.1.1.1.1, q.1.1.1.2, q.1.1.2, q.1.2, q.2⟩
   generalize ((p.length : Int) != 64) = a0 at hb ⊢
   generalize (decide ((0 : Int) ≤ p2) && decide (p2 ≤ 1)) = a1 at hb ⊢
   generalize (decide ((0 : Int) ≤ p3) && decide (p3 ≤ 15)) = a2 at hb ⊢
   generalize (decide ((0 : Int) ≤ p5) && decide (p5 ≤ 999)) = a3 at hb ⊢
   generalize (decide ((1 : Int) ≤ p6) && decide (p6 ≤ 999)) = a4 at hb ⊢
   cases a0 <;> cases a1 <;> cases a2 <;> cases a3 <;> cases a4 <;> first | rfl | cases hb
end
end Go.Proofs.Ytfmmlmiakkjaiaa
