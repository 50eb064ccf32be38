import Derived.Test.YtfmmlmiakkjaiaaCMd
import Derived.Test.YtfmmlmiakkjaiaaCMe
namespace Go.Proofs.Ytfmmlmiakkjaiaa
open Go Go.GL Go.RowKit
theorem right_p : board_Right_m 0 = some (4, 7) ∧ board_Right_m 1 = some (4, 0) ∧ board_Right_m 2 = some (60, 63) ∧ board_Right_m 3 = some (60, 56) := by
 refine ⟨?_, ?_, ?_, ?_⟩ <;> (unfold board_Right_m; decide)
def stepC (c : Int) (n : Nat) (l : Bool) : Int := if l = true then bAndN c (shlK .i64 1 (n : Int)) else c
def stepC4 (c : Int) (l0 l1 l2 l3 : Bool) : Int := stepC (stepC (stepC (stepC c 0 l0) 1 l1) 2 l2) 3 l3
theorem stepC_tab : ((List.range 16).all fun c => [false, true].all fun l0 => [false, true].all fun l1 => [false, true].all fun l2 => [false, true].all fun l3 =>
  (stepC4 (c : Int) l0 l1 l2 l3 == clr4 (c : Int) l0 l1 l2 l3) && ((stepC4 (bAndN (c : Int) (shlK .i64 3 (w64 (2 * 0)))) l0 l1 l2 l3 == clr4 (c : Int) true true l2 l3) && (stepC4 (bAndN (c : Int) (shlK .i64 3 (w64 (2 * 1)))) l0 l1 l2 l3 == clr4 (c : Int) l0 l1 true true))) = true := by decide +kernel
theorem stepC_p {c : Int} (hc : 0 ≤ c ∧ c ≤ 15) (l0 l1 l2 l3 : Bool) : stepC4 c l0 l1 l2 l3 = clr4 c l0 l1 l2 l3 ∧ stepC4 (bAndN c (shlK .i64 3 (w64 (2 * 0)))) l0 l1 l2 l3 = clr4 c true true l2 l3 ∧ stepC4 (bAndN c (shlK .i64 3 (w64 (2 * 1)))) l0 l1 l2 l3 = clr4 c l0 l1 true true := by
 have bm : ∀ x : Bool, x ∈ [false, true] := fun x => by cases x <;> simp
 have h := List.all_eq_true.1 stepC_tab c.toNat (List.mem_range.2 (by omega))
 have h := List.all_eq_true.1 h l0 (bm _)
 have h := List.all_eq_true.1 h l1 (bm _)
 have h := List.all_eq_true.1 h l2 (bm _)
 have h := List.all_eq_true.1 h l3 (bm _)
 rw [show ((c.toNat : Nat) : Int) = c by omega] at h
 simpa only [Bool.and_eq_true, beq_iff_eq] using h
theorem after_loop (m1 m2 c : Int) : loop (board_After_L1 m1 m2) (c, 0) = some (stepC4 c ((m1 == 7) || (m2 == 7)) ((m1 == 0) || (m2 == 0)) ((m1 == 63) || (m2 == 63)) ((m1 == 56) || (m2 == 56))) := by
 obtain ⟨r0, r1, r2, r3⟩ := right_p
 have step : ∀ (n : Nat) (c k r : Int), n < 4 → board_Right_m (n : Int) = some (k, r) → board_After_L1 m1 m2 (c, (n : Int)) = some (.next (stepC c n ((m1 == r) || (m2 == r)), ((n + 1 : Nat) : Int))) := by
  intro n c k r hn hr
  simp only [board_After_L1]
  rw [if_pos (decide_eq_true (by omega))]
  unfold board_After_J8 board_After_J9
  rw [hr, Option.bind_some, w64_of (by omega), asrt_pos (by omega)]
  unfold stepC
  cases ((m1 == r) || (m2 == r)) <;> rfl
 have e4 : ∀ c, board_After_L1 m1 m2 (c, ((4 : Nat) : Int)) = some (.done c) := fun c => by
  simp only [board_After_L1]
  exact if_neg (by decide)
 exact loop_next' (step 0 _ _ _ (by omega) r0) (loop_next' (step 1 _ _ _ (by omega) r1) (loop_next' (step 2 _ _ _ (by omega) r2) (loop_next' (step 3 _ _ _ (by omega) r3) (loop_done (e4 _)))))
section
variable {p : List Int} {t c e h f : Int} {a b : Nat} {k : Int}
theorem home_iff (a : Nat) : (((a : Int) == 7) = decide (a = homeR 0)) ∧ (((a : Int) == 0) = decide (a = homeR 1)) ∧ (((a : Int) == 63) = decide (a = homeR 2)) ∧ (((a : Int) == 56) = decide (a = homeR 3)) := by
 refine ⟨?_, ?_, ?_, ?_⟩ <;> (rw [Bool.eq_iff_iff, beq_iff_eq, decide_eq_true_eq]; simp only [homeR]; simp; try omega)
theorem rights_p (hc : 0 ≤ c ∧ c ≤ 15) (ht : t = 0 ∨ t = 1) (p : List Int) (a b : Nat) : stepC4 (if (geti p a).natAbs = 6 then bAndN c (shlK .i64 3 (w64 (2 * t))) else c) (((a : Int) == 7) || ((b : Int) == 7)) (((a : Int) == 0) || ((b : Int) == 0)) (((a : Int) == 63) || ((b : Int) == 63)) (((a : Int) == 56) || ((b : Int) == 56)) = cAft p t c a b := by
 obtain ⟨a0, a1, a2, a3⟩ := home_iff a
 obtain ⟨b0, b1, b2, b3⟩ := home_iff b
 rw [a0, a1, a2, a3, b0, b1, b2, b3]
 unfold cAft lost
 have hs := stepC_p hc (decide (a = homeR 0) || decide (b = homeR 0)) (decide (a = homeR 1) || decide (b = homeR 1)) (decide (a = homeR 2) || decide (b = homeR 2)) (decide (a = homeR 3) || decide (b = homeR 3))
 by_cases h6 : (geti p a).natAbs = 6
 ·rw [if_pos h6]
  rcases ht with rfl | rfl
  ·rw [hs.2.1]
   simp [h6]
  ·rw [hs.2.2]
   simp [h6]
 ·rw [if_neg h6, hs.1]
  simp [h6]
theorem clone_p (hl : p.length = 64) : slices_Clone_m p = some p := by
 unfold slices_Clone_m slices_Clone_J1
 rw [asrt_pos (by unfold bigN; omega)]
 simp
theorem forward_t (ht : t = 0 ∨ t = 1) : board_forward_m t = some (sgn t) := by
 rw [forward_small (by omega)]; rfl
theorem after_end (I : Inv p t c e h f) (q : List Int) (e' h' : Int) (hh : h' = if (geti p a).natAbs = 1 then 0 else minI (w64 (h + 1)) 999) :
  board_After_J3 p t f a b q (if (geti p a).natAbs = 6 then bAndN c (shlK .i64 3 (w64 (2 * t))) else c) e' h' = some (q, 1 - t, cAft p t c a b, e', hAft p h a b, fAft f t) := by
 have ht := I.tt
 have hhh := I.hh
 have hff := I.ff
 have key : ∀ x, board_After_J6 t f a b q (if (geti p a).natAbs = 6 then bAndN c (shlK .i64 3 (w64 (2 * t))) else c) e' x = some (q, 1 - t, cAft p t c a b, e', x, fAft f t) := by
  intro x
  unfold board_After_J6
  rw [after_loop, Option.bind_some, rights_p I.cc ht]
  simp only [board_After_K1]
  unfold board_After_J7 fAft minI
  rw [w64_of (x := 1 - t) (by omega), w64_of (x := f + t) (by omega)]
 unfold board_After_J3
 by_cases hb : geti p b = 0
 ·rw [if_neg (by simp [hb]), key, hh]
  unfold hAft
  by_cases h1 : (geti p a).natAbs = 1
  ·rw [if_pos h1, if_pos (.inl h1)]
  ·rw [if_neg h1, if_neg (by rintro (q | q) <;> contradiction)]
   unfold minI
   rw [w64_of (by omega)]
 ·rw [if_pos (by simpa using hb), key]
  unfold hAft
  rw [if_pos (.inr hb)]
theorem after_p (I : Inv p t c e h f) (m : PL p t c e a b k) : board_After_m p t c e h f a b k = some (aft p t e a b k, 1 - t, cAft p t c a b, eAft p t a b, hAft p h a b, fAft f t) := by
 have hl := I.len
 have ht := I.tt
 have hb := m.bds I
 have hsg : sgn t = 1 ∨ sgn t = -1 := by rcases sgn_t ht with h | h <;> omega
 have hsa := I.sm.2 a hb.1
 unfold board_After_m
 rw [forward_t ht, Option.bind_some, asrt_pos (by omega), asrt_pos (by omega), clone_p hl, Option.bind_some]
 unfold board_After_J1
 rw [asrt_pos (by omega), asrt_pos (by omega)]
 unfold board_After_J2
 rw [kind_small hsa, Option.bind_some, Int.toNat_natCast, Int.toNat_natCast]
 have hw : w64 ((b : Int) - a) = (b : Int) - a := w64_of (by omega)
 have hn6 : ∀ x : Int, (geti p a).natAbs ≠ 6 → (if (geti p a).natAbs = 6 then bAndN c (shlK .i64 3 (w64 (2 * t))) else c) = c := fun x hx => if_neg hx
 by_cases h1 : (geti p a).natAbs = 1
 ·rw [if_pos (by simp [h1])]
  have hc6 := hn6 0 (by omega)
  have hend := fun q e' => after_end (a := a) (b := b) I q e' 0 (by rw [if_pos h1])
  rw [hc6] at hend
  by_cases hbe : (b : Int) = e
  ·rw [if_pos (by simp [hbe])]
   have hnd : ¬ ((b : Int) - a = 16 * sgn t) := fun hd => (eAft_dbl I m h1 hd).2.2.2 hbe
   have hd64 : 0 ≤ (b : Int) - 8 * sgn t ∧ (b : Int) - 8 * sgn t < 64 := by
    rcases I.ep with he | ⟨b', he, hr, _, _⟩
    ·omega
    ·rcases sgn_t ht with ⟨rfl, h⟩ | ⟨rfl, h⟩ <;> rw [h] <;> omega
   rw [w64_of (x := 8 * sgn t) (by omega), w64_of (x := (b : Int) - 8 * sgn t) (by omega), asrt_pos (by omega), hend]
   unfold aft eAft
   rw [if_pos h1, if_pos hbe, if_neg (fun q => hnd q.2)]
  ·rw [if_neg (by simpa using hbe), hw, w64_of (x := 16 * sgn t) (by omega)]
   by_cases hd : (b : Int) - a = 16 * sgn t
   ·have hk0 := (eAft_dbl I m h1 hd).2.2.1
    rw [if_pos (by simp [hd]), w64_of (x := 8 * sgn t) (by omega), w64_of (x := (a : Int) + 8 * sgn t) (by omega), hend]
    unfold aft eAft
    rw [if_pos h1, if_neg hbe, if_neg (by omega), if_pos ⟨h1, hd⟩]
   ·rw [if_neg (by simpa using hd)]
    by_cases hk : 0 < k
    ·have hk5 : k ≤ 5 := by
      have := ((pl_iff I).1 m).2.2.2.2
      unfold kindsL at this
      split at this <;> simp only [List.mem_cons, List.not_mem_nil, or_false] at this <;> omega
     rw [if_pos (decide_eq_true hk), asrt_pos (by omega), w64_of (x := k * sgn t) (by rcases hsg with h | h <;> rw [h] <;> omega), hend]
     unfold aft eAft
     rw [if_pos h1, if_neg hbe, if_pos hk, if_neg (fun q => hd q.2)]
    ·rw [if_neg (by simpa using hk), hend]
     unfold aft eAft
     rw [if_pos h1, if_neg hbe, if_neg hk, if_neg (fun q => hd q.2)]
 ·rw [if_neg (by simp; omega)]
  have he0 : eAft p t a b = -1 := by unfold eAft; rw [if_neg (fun q => h1 q.1)]
  rw [he0]
  by_cases h6 : (geti p a).natAbs = 6
  ·rw [if_pos (by simp [h6]), hw]
   have hend := fun q => after_end (a := a) (b := b) I q (-1) (minI (w64 (h + 1)) 999) (by rw [if_neg h1])
   rw [if_pos h6] at hend
   have hj4 : ∀ q, board_After_J4 p t c h f a b q = some (q, 1 - t, cAft p t c a b, -1, hAft p h a b, fAft f t) := by
    intro q
    unfold board_After_J4
    rw [asrt_pos (by rw [w64_of (by omega)]; omega), hend]
   by_cases h2 : ((b : Int) - a).natAbs = 2
   ·have hcast : ∃ n, n < 4 ∧ a = homeK n ∧ b = castTo n := by
     cases m with
     | pc ha hs h1' hb' ho => exact absurd h2 (king_reach h6 hb')
     | cap ha hs h1' hb' ho hi => exact absurd h1' h1
     | push ha hs h1' hb' h0b hi => exact absurd h1' h1
     | dbl ha hs h1' hb' hrow hmid h0b => exact absurd h1' h1
     | @castle n ho => exact ⟨n, ho.lt, rfl, rfl⟩
    rw [if_pos (by simp only [Bool.or_eq_true, beq_iff_eq]; omega)]
    have hj5 : ∀ r : Nat, r < 64 → ∀ md : Nat, md < 64 → (md : Int) = a + Int.tdiv ((b : Int) - a) 2 → board_After_J5 p t c h f a b p (r : Int) = some ((((p.set a 0).set b (geti p a)).set md (geti ((p.set a 0).set b (geti p a)) (r : Int))).set r 0, 1 - t, cAft p t c a b, -1, hAft p h a b, fAft f t) := by
     intro r hr md hmd hmde
     have hz : w64 ((a : Int) + w64 (Int.tdiv (w64 ((b : Int) - a)) 2)) = (md : Int) := by
      rw [hw, w64_of (x := Int.tdiv ((b : Int) - a) 2) (by omega), ← hmde, w64_of (by omega)]
     unfold board_After_J5
     rw [hz, asrt_pos (by omega), asrt_pos (by omega), asrt_pos (by omega), hj4, Int.toNat_natCast, Int.toNat_natCast, Int.toNat_natCast, Int.toNat_natCast]
    obtain ⟨n, hn, ha', hb'⟩ := hcast
    have hcases : n = 0 ∨ n = 1 ∨ n = 2 ∨ n = 3 := by omega
    have haft : aft p t e a b k = (((p.set a 0).set b (geti p a)).set ((a + b) / 2) (geti ((p.set a 0).set b (geti p a)) ((if a < b then a + 3 else a - 4 : Nat) : Int))).set (if a < b then a + 3 else a - 4) 0 := by
     unfold aft
     rw [if_neg h1, if_pos ⟨h6, h2⟩]
    rw [haft]
    rcases hcases with rfl | rfl | rfl | rfl <;> (simp only [homeK, castTo] at ha' hb'; simp at ha' hb'; subst ha' hb')
    ·rw [if_neg (by decide), show w64 (((4 : Nat) : Int) + 3) = ((7 : Nat) : Int) by decide]
     exact hj5 7 (by omega) 5 (by omega) (by decide)
    ·rw [if_pos (by decide), show w64 (((4 : Nat) : Int) - 4) = ((0 : Nat) : Int) by decide]
     exact hj5 0 (by omega) 3 (by omega) (by decide)
    ·rw [if_neg (by decide), show w64 (((60 : Nat) : Int) + 3) = ((63 : Nat) : Int) by decide]
     exact hj5 63 (by omega) 61 (by omega) (by decide)
    ·rw [if_pos (by decide), show w64 (((60 : Nat) : Int) - 4) = ((56 : Nat) : Int) by decide]
     exact hj5 56 (by omega) 59 (by omega) (by decide)
   ·rw [if_neg (by simp only [Bool.or_eq_true, beq_iff_eq]; omega), hj4]
    unfold aft
    rw [if_neg h1, if_neg (fun q => h2 q.2)]
  ·rw [if_neg (by simp; omega)]
   have hend := fun q => after_end (a := a) (b := b) I q (-1) (minI (w64 (h + 1)) 999) (by rw [if_neg h1])
   rw [if_neg h6] at hend
   rw [hend]
   unfold aft
   rw [if_neg h1, if_neg (fun q => h6 q.1)]
end
end Go.Proofs.Ytfmmlmiakkjaiaa
