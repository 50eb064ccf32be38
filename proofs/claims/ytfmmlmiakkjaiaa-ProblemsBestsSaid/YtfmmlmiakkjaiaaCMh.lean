import Derived.Test.YtfmmlmiakkjaiaaCMg
namespace Go.Proofs.Ytfmmlmiakkjaiaa
open Go Go.GL Go.RowKit
section
variable {p : List Int} {t c e h f : Int} {a b : Nat} {k : Int}
theorem chessOf_p (hl : p.length = 64) (t c e h f : Int) : rf_ChessOf_m p t c e h f = some (p, t, c, e, h, f) := by
 unfold rf_ChessOf_m rf_Ints_m
 rw [asrt_pos (by unfold bigN; omega)]
 simp
theorem sign_t (ht : t = 0 ∨ t = 1) : rf_SideSign_m t = some (sgn t) := by
 unfold rf_SideSign_m
 rw [w64_of (x := 2 * t) (by omega), w64_of (by omega)]
 rfl
theorem clr_tab1 : ((List.range 16).all fun c => (List.range 4).all fun n => [false, true].all fun l => decide (0 ≤ clr (c : Int) n l ∧ clr (c : Int) n l ≤ 15) && ((w64 ((c : Int) - shlK .i64 1 (n : Int)) == (c : Int) - 2 ^ n) && ((bAnd (shrK .i64 (c : Int) (n : Int)) 1 == 1) == cbit (c : Int) n))) = true := by decide +kernel
theorem clr_p {c : Int} (hc : 0 ≤ c ∧ c ≤ 15) {n : Nat} (hn : n < 4) (l : Bool) : (0 ≤ clr c n l ∧ clr c n l ≤ 15) ∧ w64 (c - shlK .i64 1 (n : Int)) = c - 2 ^ n ∧ (bAnd (shrK .i64 c (n : Int)) 1 == 1) = cbit c n := by
 have bm : l ∈ [false, true] := by cases l <;> simp
 have h := List.all_eq_true.1 (List.all_eq_true.1 (List.all_eq_true.1 clr_tab1 c.toNat (List.mem_range.2 (by omega))) n (List.mem_range.2 hn)) l bm
 rw [show ((c.toNat : Nat) : Int) = c by omega] at h
 simpa only [Bool.and_eq_true, decide_eq_true_eq, beq_iff_eq] using h
theorem rooks_p (n : Nat) (hn : n < 4) : geti ([7, 0, 63, 56] : List Int) (n : Int) = ((homeR n : Nat) : Int) ∧ decide ((0 : Int) ≤ geti ([4, 4, 60, 60] : List Int) (n : Int)) = true ∧ w64 (Int.tdiv (n : Int) 2) = ((n / 2 : Nat) : Int) := by
 have hcases : n = 0 ∨ n = 1 ∨ n = 2 ∨ n = 3 := by omega
 rcases hcases with rfl | rfl | rfl | rfl <;> decide
theorem done_step (hsz : -6 ≤ geti p a ∧ geti p a ≤ 6) {q : Int} (hq : 0 ≤ q ∧ q ≤ 15) {n : Nat} (hn : n < 4) : rf_MoveDone_L1 p t a b (q, (n : Int)) = some (.next (clr q n (lost p t a b n), ((n + 1 : Nat) : Int))) := by
 simp only [rf_MoveDone_L1]
 rw [if_pos (decide_eq_true (by omega))]
 unfold rf_MoveDone_J7 rf_MoveDone_J8
 obtain ⟨hr, hk, hd⟩ := rooks_p n hn
 obtain ⟨hcb, hw, hbit⟩ := clr_p hq hn (lost p t a b n)
 rw [hr, hk, hd, w64_of (x := (n : Int) + 1) (by omega), asrt_pos (by omega), asrt_pos (fun _ => by omega), size_small (by omega)]
 have ea : ((a : Int) == ((homeR n : Nat) : Int)) = decide (a = homeR n) := by rw [Bool.eq_iff_iff, beq_iff_eq, decide_eq_true_eq]; omega
 have eb : ((b : Int) == ((homeR n : Nat) : Int)) = decide (b = homeR n) := by rw [Bool.eq_iff_iff, beq_iff_eq, decide_eq_true_eq]; omega
 rw [ea, eb, hbit, hw]
 have hcast : (n : Int) + 1 = ((n + 1 : Nat) : Int) := by omega
 rw [hcast]
 have e6 : (((((geti p a).natAbs : Nat) : Int) == 6) && (((n / 2 : Nat) : Int) == t)) = decide ((geti p a).natAbs = 6 ∧ ((n / 2 : Nat) : Int) = t) := by
  rw [Bool.eq_iff_iff, Bool.and_eq_true, beq_iff_eq, beq_iff_eq, decide_eq_true_eq]; omega
 unfold clr lost
 cases hab : (decide (a = homeR n) || decide (b = homeR n)) with
 | true =>
  simp only [Bool.not_true, Bool.false_eq_true, if_false, Option.bind_some, Bool.true_or, Bool.or_true, Bool.true_and]
  rw [asrt_pos (fun _ => by simp), asrt_pos (fun _ => by omega)]
  cases cbit q n with
  | true => simp only [if_true]; rw [asrt_pos (by omega)]
  | false => rfl
 | false =>
  simp only [Bool.not_false, if_true, Option.bind_some, Bool.false_or, Bool.or_false, Bool.and_true]
  rw [e6, asrt_pos (fun _ _ => by omega), asrt_pos (fun _ => by omega)]
  cases (decide ((geti p a).natAbs = 6 ∧ ((n / 2 : Nat) : Int) = t) && cbit q n) with
  | true => simp only [if_true]; rw [asrt_pos (by omega)]
  | false => rfl
theorem done_loop (hsz : -6 ≤ geti p a ∧ geti p a ≤ 6) (hc : 0 ≤ c ∧ c ≤ 15) : loop (rf_MoveDone_L1 p t a b) (c, 0) = some (cAft p t c a b) := by
 have b0 := (clr_p hc (n := 0) (by omega) (lost p t a b 0)).1
 have b1 := (clr_p b0 (n := 1) (by omega) (lost p t a b 1)).1
 have b2 := (clr_p b1 (n := 2) (by omega) (lost p t a b 2)).1
 have e4 : ∀ q, rf_MoveDone_L1 p t a b (q, ((4 : Nat) : Int)) = some (.done q) := fun q => by
  simp only [rf_MoveDone_L1]
  exact if_neg (by decide)
 exact loop_next' (done_step hsz hc (n := 0) (by omega)) (loop_next' (done_step hsz b0 (n := 1) (by omega)) (loop_next' (done_step hsz b1 (n := 2) (by omega)) (loop_next' (done_step hsz b2 (n := 3) (by omega)) (loop_done (e4 _)))))
theorem pawn_far (I : Inv p t c e h f) (m : PL p t c e a b k) (h1 : (geti p a).natAbs = 1) : ((b : Int) - a).natAbs = 16 ↔ (b : Int) - a = 16 * sgn t := by
 have hb := m.bds I
 have hv := pawn_val I.tt hb.2.2.1 h1
 have hsg : sgn t = 1 ∨ sgn t = -1 := by rcases sgn_t I.tt with h | h <;> omega
 constructor
 ·intro h16
  cases m with
  | pc ha hs h1' hb' ho => exact absurd h1 h1'
  | cap ha hs h1' hb' ho hi =>
   have := pawn_reach h1 hb'
   omega
  | push ha hs h1' hb' h0b hi => omega
  | dbl ha hs h1' hb' hrow hmid h0b => omega
  | @castle n ho =>
   have hc := I.cs n ho.lt ho.bit
   rw [hc.1, ho.side] at h1
   omega
 ·intro h16; omega
theorem done_end (I : Inv p t c e h f) (m : PL p t c e a b k) (q : List Int) : rf_MoveDone_J3 p t a b (p, t, c, e, h, f) ((geti p a).natAbs : Int) q = some (q, 1 - t, cAft p t c a b, eAft p t a b, hAft p h a b, fAft f t) := by
 have ht := I.tt
 have hb := m.bds I
 have hh := I.hh
 have hf := I.ff
 have hsz := I.sm.2 a hb.1
 have hsg : sgn t = 1 ∨ sgn t = -1 := by rcases sgn_t ht with h | h <;> omega
 have k10 : ∀ (x e' : Int), rf_MoveDone_J10 t (p, t, c, e, h, f) q e' (cAft p t c a b) x = some (q, 1 - t, cAft p t c a b, e', x, fAft f t) := by
  intro x e'
  unfold rf_MoveDone_J10 rf_MoveDone_J11 fAft
  rw [w64_of (x := 1 - t) (by omega)]
  simp only
  rcases ht with rfl | rfl
  ·rw [if_neg (by simp), if_neg (by omega)]
   congr 6
   omega
  ·by_cases h9 : f < 999
   ·rw [if_pos (by simp [h9]), w64_of (by omega), if_neg (by omega)]
   ·rw [if_neg (by simp [h9]), if_pos (by omega)]
    congr 6
    omega
 have k9 : ∀ (e' x : Int), rf_MoveDone_J9 p t b (p, t, c, e, h, f) ((geti p a).natAbs : Int) q e' (cAft p t c a b) x = some (q, 1 - t, cAft p t c a b, e', (if (geti p a).natAbs = 1 ∨ geti p b ≠ 0 then 0 else x), fAft f t) := by
  intro e' x
  unfold rf_MoveDone_J9
  rw [asrt_pos (fun _ => by rw [I.len]; omega), k10, k10]
  by_cases hq : (geti p a).natAbs = 1 ∨ geti p b ≠ 0
  ·rw [if_pos (by simp only [Bool.or_eq_true, beq_iff_eq, bne_iff_ne]; omega), if_pos hq]
  ·rw [if_neg (by simp only [Bool.or_eq_true, beq_iff_eq, bne_iff_ne]; omega), if_neg hq]
 have k5 : ∀ e' : Int, rf_MoveDone_J5 p t a b (p, t, c, e, h, f) ((geti p a).natAbs : Int) q e' = some (q, 1 - t, cAft p t c a b, e', hAft p h a b, fAft f t) := by
  intro e'
  unfold rf_MoveDone_J5
  simp only
  rw [done_loop hsz I.cc, Option.bind_some]
  simp only [rf_MoveDone_K1]
  unfold rf_MoveDone_J6 hAft
  simp only
  rw [w64_of (x := h + 1) (by omega), k9, k9]
  by_cases h9 : (999 : Int) < h + 1
  ·rw [if_pos (decide_eq_true h9)]
   by_cases hq : (geti p a).natAbs = 1 ∨ geti p b ≠ 0
   ·rw [if_pos hq, if_pos hq]
   ·rw [if_neg hq, if_neg hq, if_pos (by omega)]
  ·rw [if_neg (by simpa using h9)]
   by_cases hq : (geti p a).natAbs = 1 ∨ geti p b ≠ 0
   ·rw [if_pos hq, if_pos hq]
   ·rw [if_neg hq, if_neg hq, if_neg (by omega)]
 unfold rf_MoveDone_J3
 rw [k5, k5, w64_of (x := (b : Int) - a) (by omega), size_small (by omega)]
 by_cases h1 : (geti p a).natAbs = 1
 ·have hpf := pawn_far I m h1
  rw [h1]
  simp only [show (((1 : Nat) : Int) == 1) = true from rfl, if_true, Option.bind_some, Bool.true_and]
  unfold eAft
  by_cases h16 : ((b : Int) - a).natAbs = 16
  ·rw [if_pos (by simp [h16]), if_pos ⟨h1, hpf.1 h16⟩]
   have hd := hpf.1 h16
   have : w64 (Int.tdiv (w64 ((a : Int) + b)) 2) = (a : Int) + 8 * sgn t := by
    rw [w64_of (x := (a : Int) + b) (by omega), show (a : Int) + b = ((a + b : Nat) : Int) by omega, show Int.tdiv ((a + b : Nat) : Int) 2 = (((a + b) / 2 : Nat) : Int) from tdiv_nat (a + b) 2, w64_of (by omega)]
    omega
   rw [this]
  ·rw [if_neg (by simp; omega), if_neg (fun q => h16 (hpf.2 q.2))]
 ·have e1 : ((((geti p a).natAbs : Nat) : Int) == 1) = false := by simpa using (by omega : ¬ (((geti p a).natAbs : Nat) : Int) = 1)
  rw [e1]
  simp only [Bool.false_eq_true, if_false, Option.bind_some, Bool.false_and]
  unfold eAft
  rw [if_neg (fun q => h1 q.1)]
theorem done_p (I : Inv p t c e h f) (m : PL p t c e a b k) {k' : Int} (hk' : k' = k ∨ k' = 0) : rf_MoveDone_m p t c e h f a b k' = some (aft p t e a b k', 1 - t, cAft p t c a b, eAft p t a b, hAft p h a b, fAft f t) := by
 have hl := I.len
 have ht := I.tt
 have hb := m.bds I
 have hsg : sgn t = 1 ∨ sgn t = -1 := by rcases sgn_t ht with h | h <;> omega
 have hsa := I.sm.2 a hb.1
 have hkk := ((pl_iff I).1 m).2.2.2.2
 unfold rf_MoveDone_m
 rw [chessOf_p hl, Option.bind_some, sign_t ht, Option.bind_some, asrt_pos (by omega), size_small (by omega), Option.bind_some]
 simp only
 rw [asrt_pos (by omega), asrt_pos (by omega), Int.toNat_natCast, Int.toNat_natCast]
 have k2 : ∀ q, ¬ ((geti p a).natAbs = 6 ∧ ((b : Int) - a).natAbs = 2) → rf_MoveDone_J2 p t a b (p, t, c, e, h, f) ((geti p a).natAbs : Int) q = some (q, 1 - t, cAft p t c a b, eAft p t a b, hAft p h a b, fAft f t) := by
  intro q hn
  unfold rf_MoveDone_J2
  rw [size_small (by omega), Option.bind_some, w64_of (x := (b : Int) - a) (by omega), size_small (by omega), done_end I m]
  by_cases h6 : (geti p a).natAbs = 6
  ·rw [if_pos (by simp [h6]), Option.bind_some, if_neg (by simp only [Bool.and_eq_true, beq_iff_eq]; omega)]
  ·rw [if_neg (by simp; omega), Option.bind_some, if_neg (by simp)]
 by_cases h1 : (geti p a).natAbs = 1
 ·have hn6 : ¬ ((geti p a).natAbs = 6 ∧ ((b : Int) - a).natAbs = 2) := by omega
  have hk5 : k' ≤ 5 := by
   unfold kindsL at hkk
   split at hkk <;> simp only [List.mem_cons, List.not_mem_nil, or_false] at hkk <;> omega
  by_cases hbe : (b : Int) = e
  ·have hb8 : 8 ≤ b ∧ b < 56 := by
    rcases I.ep with he | ⟨b', he, hr, _, _⟩
    ·omega
    ·rcases ht with rfl | rfl <;> omega
   have hk0 : k' = 0 := by
    unfold kindsL at hkk
    rw [if_neg (fun q => q.2 hb8)] at hkk
    simp at hkk
    omega
   have hd64 : 0 ≤ (b : Int) - 8 * sgn t ∧ (b : Int) - 8 * sgn t < 64 := by
    rcases hsg with h | h <;> rw [h] <;> omega
   rw [if_neg (by simp [hk0])]
   unfold rf_MoveDone_J1
   rw [if_pos (by simp [h1, hbe]), w64_of (x := 8 * sgn t) (by omega), w64_of (x := (b : Int) - 8 * sgn t) (by omega)]
   simp only
   rw [asrt_pos (by omega), k2 _ hn6]
   unfold aft
   rw [if_pos h1, if_pos hbe]
  ·have haft : aft p t e a b k' = if 0 < k' then ((p.set a 0).set b (geti p a)).set b (k' * sgn t) else (p.set a 0).set b (geti p a) := by
    unfold aft
    rw [if_pos h1, if_neg hbe]
   rw [haft]
   have hnb : ¬ ((((geti p a).natAbs : Nat) : Int) == 1 && (b : Int) == e) = true := by simp [hbe]
   unfold rf_MoveDone_J1
   by_cases hk : 0 < k'
   ·rw [if_pos (decide_eq_true hk), if_pos hk, asrt_pos (by omega), if_neg hnb, k2 _ hn6, w64_of (by rcases hsg with h | h <;> rw [h] <;> omega), Int.mul_comm]
   ·rw [if_neg (by simpa using hk), if_neg hk, if_neg hnb, k2 _ hn6]
 ·have hk0 : k' = 0 := by
   unfold kindsL at hkk
   rw [if_neg (fun q => h1 q.1)] at hkk
   simp at hkk
   omega
  subst hk0
  rw [if_neg (by decide)]
  unfold rf_MoveDone_J1
  rw [if_neg (by simp; omega)]
  by_cases h62 : (geti p a).natAbs = 6 ∧ ((b : Int) - a).natAbs = 2
  ·obtain ⟨h6, h2⟩ := h62
   have hcast : ∃ n, n < 4 ∧ a = homeK n ∧ b = castTo n := by
    cases m with
    | pc ha hs h1' hb' ho => exact absurd h2 (king_reach h6 hb')
    | cap ha hs h1' hb' ho hi => exact absurd h1' h1
    | push ha hs h1' hb' h0b hi => exact absurd h1' h1
    | dbl ha hs h1' hb' hrow hmid h0b => exact absurd h1' h1
    | @castle n ho => exact ⟨n, ho.lt, rfl, rfl⟩
   have j4 : ∀ (q : List Int) (r md : Nat), q.length = 64 → r < 64 → md < 64 → w64 (Int.tdiv (w64 ((a : Int) + b)) 2) = (md : Int) → rf_MoveDone_J4 p t a b (p, t, c, e, h, f) ((geti p a).natAbs : Int) q (r : Int) = some ((q.set md (geti q (r : Int))).set r 0, 1 - t, cAft p t c a b, eAft p t a b, hAft p h a b, fAft f t) := by
    intro q r md hq hr hmd hmde
    unfold rf_MoveDone_J4
    simp only
    rw [hmde, asrt_pos (by omega), asrt_pos (by omega), asrt_pos (by omega), done_end I m, Int.toNat_natCast, Int.toNat_natCast]
   unfold rf_MoveDone_J2
   rw [size_small (by omega), Option.bind_some, w64_of (x := (b : Int) - a) (by omega), size_small (by omega), if_pos (by simp [h6]), Option.bind_some, if_pos (by simp [h6, h2])]
   have haft : aft p t e a b 0 = (((p.set a 0).set b (geti p a)).set ((a + b) / 2) (geti ((p.set a 0).set b (geti p a)) ((if a < b then a + 3 else a - 4 : Nat) : Int))).set (if a < b then a + 3 else a - 4) 0 := by
    unfold aft
    rw [if_neg h1, if_pos ⟨h6, h2⟩]
   rw [haft]
   have hql : ((p.set a 0).set b (geti p a)).length = 64 := by simp [hl]
   obtain ⟨n, hn, ha', hb'⟩ := hcast
   have hcases : n = 0 ∨ n = 1 ∨ n = 2 ∨ n = 3 := by omega
   rcases hcases with rfl | rfl | rfl | rfl <;> (simp only [homeK, castTo] at ha' hb'; simp at ha' hb'; subst ha' hb')
   ·rw [if_neg (by decide), show w64 (w64 (w64 (Int.tdiv ((4 : Nat) : Int) 8) * 8) + 7) = ((7 : Nat) : Int) by decide]
    exact j4 _ 7 5 hql (by omega) (by omega) (by decide)
   ·rw [if_pos (by decide), show w64 (w64 (Int.tdiv ((4 : Nat) : Int) 8) * 8) = ((0 : Nat) : Int) by decide]
    exact j4 _ 0 3 hql (by omega) (by omega) (by decide)
   ·rw [if_neg (by decide), show w64 (w64 (w64 (Int.tdiv ((60 : Nat) : Int) 8) * 8) + 7) = ((63 : Nat) : Int) by decide]
    exact j4 _ 63 61 hql (by omega) (by omega) (by decide)
   ·rw [if_pos (by decide), show w64 (w64 (Int.tdiv ((60 : Nat) : Int) 8) * 8) = ((56 : Nat) : Int) by decide]
    exact j4 _ 56 59 hql (by omega) (by omega) (by decide)
  ·rw [k2 _ h62]
   unfold aft
   rw [if_neg h1, if_neg h62]
end
end Go.Proofs.Ytfmmlmiakkjaiaa
