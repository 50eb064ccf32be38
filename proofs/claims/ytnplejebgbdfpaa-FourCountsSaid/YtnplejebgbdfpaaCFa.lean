/-
  Four: a sign that has made a row, and where a sign falls.
-/
import Derived.Test.YtnplejebgbdfpaaCRb
import Derived.Test.YtnplejebgbdfpaaLibY
namespace Go.Proofs.Ytnplejebgbdfpaa
open Go Go.GL

section
variable {W H k : Int} {c : List Int}

theorem Bd.dm (B : Bd W H c k) : Dm W H c := ⟨B.w, B.h, B.len⟩
theorem Bd.of_len {d : List Int} (B : Bd W H c k) (h : d.length = c.length) : Bd W H d k := ⟨B.w, B.h, by rw [h]; exact B.len, B.k⟩

/-- So many steps on there is that sign. -/
def Same (W H : Int) (c : List Int) (x y p q who e : Int) : Prop := (0 ≤ x + p * e ∧ x + p * e < W) ∧ (0 ≤ y + q * e ∧ y + q * e < H) ∧ geti c ((y + q * e) * W + (x + p * e)) = who

theorem yx_inj {y1 x1 y2 x2 : Int} (_hW : 1 ≤ W ∧ W ≤ 10) (h1 : 0 ≤ x1 ∧ x1 < W) (h2 : 0 ≤ x2 ∧ x2 < W) (h : y1 * W + x1 = y2 * W + x2) : y1 = y2 ∧ x1 = x2 := by
  have : y1 = y2 := by
    rcases Int.lt_trichotomy y1 y2 with h3 | h3 | h3
    · have := Int.mul_nonneg (show 0 ≤ y2 - y1 - 1 by omega) (show 0 ≤ W by omega)
      rw [Int.sub_mul, Int.sub_mul] at this
      omega
    · exact h3
    · have := Int.mul_nonneg (show 0 ≤ y1 - y2 - 1 by omega) (show 0 ≤ W by omega)
      rw [Int.sub_mul, Int.sub_mul] at this
      omega
  subst this
  exact ⟨rfl, by omega⟩

theorem step_p (B : Bd W H c k) {at' d z p q a b m : Int} (hp : w64 ((geti ([1, (-1)] : List Int) z) * (geti ([1, 0, 0, 1, 1, 1, 1, (-1)] : List Int) (d * 2))) = p) (hq : w64 ((geti ([1, (-1)] : List Int) z) * (geti ([1, 0, 0, 1, 1, 1, 1, (-1)] : List Int) (d * 2 + 1))) = q)
    (hpd : p = -1 ∨ p = 0 ∨ p = 1) (hqd : q = -1 ∨ q = 0 ∨ q = 1) (ha : -25 ≤ a ∧ a ≤ 25) (hb : -25 ≤ b ∧ b ≤ 25) (hm : 0 ≤ m ∧ m ≤ 100) :
    four_well_won_L3 W H c at' d z (m, a, b) = if (0 ≤ a ∧ a < W) ∧ (0 ≤ b ∧ b < H) ∧ geti c (b * W + a) = geti c at' then some (.next (m + 1, a + p, b + q)) else some (.done m) := by
  simp only [four_well_won_L3, four_well_won_J7, four_well_won_J8]
  rw [w64_ix' B.w (by omega) (by omega), hp, hq, w64_of (x := m + 1) (by omega), w64_of (x := a + p) (by omega), w64_of (x := b + q) (by omega)]
  by_cases h1 : 0 ≤ a ∧ a < W
  · by_cases h2 : 0 ≤ b ∧ b < H
    · have hi := B.idx h1 h2
      rw [asrt_pos (fun _ => hi), show ((decide ((0 : Int) ≤ a) && decide (a < W)) && decide ((0 : Int) ≤ b) && decide (b < H)) = true by simp; omega, Bool.true_and]
      by_cases h3 : geti c (b * W + a) = geti c at'
      · rw [if_pos (beq_iff_eq.2 h3), if_pos ⟨h1, h2, h3⟩]
      · rw [if_neg (by simpa using h3), if_neg (fun h => h3 h.2.2)]
    · have e : ((decide ((0 : Int) ≤ a) && decide (a < W)) && decide ((0 : Int) ≤ b) && decide (b < H)) = false := by
        rw [Bool.eq_false_iff]; simp only [ne_eq, Bool.and_eq_true, decide_eq_true_eq]; omega
      rw [e, asrt_pos (by simp), if_neg (by simp), if_neg (fun h => h2 h.2.1)]
  · have e : ((decide ((0 : Int) ≤ a) && decide (a < W)) && decide ((0 : Int) ≤ b) && decide (b < H)) = false := by
      rw [Bool.eq_false_iff]; simp only [ne_eq, Bool.and_eq_true, decide_eq_true_eq]; omega
    rw [e, asrt_pos (by simp), if_neg (by simp), if_neg (fun h => h1 h.1)]

theorem run_p (B : Bd W H c k) {at' d z p q x y : Int} (hp : w64 ((geti ([1, (-1)] : List Int) z) * (geti ([1, 0, 0, 1, 1, 1, 1, (-1)] : List Int) (d * 2))) = p) (hq : w64 ((geti ([1, (-1)] : List Int) z) * (geti ([1, 0, 0, 1, 1, 1, 1, (-1)] : List Int) (d * 2 + 1))) = q)
    (hpd : p = -1 ∨ p = 0 ∨ p = 1) (hqd : q = -1 ∨ q = 0 ∨ q = 1) (hne : p ≠ 0 ∨ q ≠ 0) (hx : 0 ≤ x ∧ x < W) (hy : 0 ≤ y ∧ y < H) (n : Int) (hn : 0 ≤ n ∧ n ≤ 50) :
    ∃ a : Nat, loop (four_well_won_L3 W H c at' d z) (n, w64 (x + p), w64 (y + q)) = some (n + a) ∧ a ≤ 10 ∧ (∀ j : Nat, 1 ≤ j → j ≤ a → Same W H c x y p q (geti c at') j) ∧ ¬ Same W H c x y p q (geti c at') ((a : Int) + 1) := by
  have hW := B.w
  have hH := B.h
  have bd : ∀ {r : Int} (i : Nat), (r = -1 ∨ r = 0 ∨ r = 1) → i ≤ 10 → -11 ≤ r * ((i : Int) + 1) ∧ r * ((i : Int) + 1) ≤ 11 := by
    intro r i h hi
    rcases h with rfl | rfl | rfl <;> omega
  have nx : ∀ {r : Int} (i : Nat), (r = -1 ∨ r = 0 ∨ r = 1) → r * ((i : Int) + 1) + r = r * (((i + 1 : Nat) : Int) + 1) := by
    intro r i h
    rcases h with rfl | rfl | rfl <;> omega
  have key : ∃ r, loop (four_well_won_L3 W H c at' d z) (n, x + p, y + q) = some r ∧ ∃ a : Nat, r = n + a ∧ a ≤ 10 ∧ (∀ j : Nat, 1 ≤ j → j ≤ a → Same W H c x y p q (geti c at') j) ∧ ¬ Same W H c x y p q (geti c at') ((a : Int) + 1) := by
    have := count_loop (step := four_well_won_L3 W H c at' d z) (fun (_ : Unit) (i : Nat) => (n + i, x + p * ((i : Int) + 1), y + q * ((i : Int) + 1)))
      (fun i _ => ∀ j : Nat, 1 ≤ j → j ≤ i → Same W H c x y p q (geti c at') j)
      (fun r => ∃ a : Nat, r = n + a ∧ a ≤ 10 ∧ (∀ j : Nat, 1 ≤ j → j ≤ a → Same W H c x y p q (geti c at') j) ∧ ¬ Same W H c x y p q (geti c at') ((a : Int) + 1)) 10 () (fun j h1 h2 => by omega) (by
        rintro i - hi hI
        have b1 := bd i hpd (by omega)
        have b2 := bd i hqd (by omega)
        have hs := step_p B (at' := at') hp hq hpd hqd (a := x + p * ((i : Int) + 1)) (b := y + q * ((i : Int) + 1)) (m := n + i) (by omega) (by omega) (by omega)
        by_cases h : Same W H c x y p q (geti c at') ((i : Int) + 1)
        · left
          refine ⟨(), ?_, fun j h1 h2 => ?_⟩
          · refine hs.trans ((if_pos h).trans ?_)
            rw [← nx i hpd, ← nx i hqd]
            simp only [Int.natCast_add, Int.natCast_one, Int.add_assoc]
          · by_cases e : j = i + 1
            · subst e; simpa using h
            · exact hI j h1 (by omega)
        · right
          exact ⟨n + i, hs.trans (if_neg h), i, rfl, by omega, hI, h⟩) (by
        rintro - hI
        have b1 := bd 10 hpd (by omega)
        have b2 := bd 10 hqd (by omega)
        have hs := step_p B (at' := at') hp hq hpd hqd (a := x + p * (((10 : Nat) : Int) + 1)) (b := y + q * (((10 : Nat) : Int) + 1)) (m := n + ((10 : Nat) : Int)) (by omega) (by omega) (by omega)
        have h : ¬ Same W H c x y p q (geti c at') (((10 : Nat) : Int) + 1) := by
          rintro ⟨g1, g2, -⟩
          rcases hne with h | h
          · obtain rfl | rfl : p = -1 ∨ p = 1 := by omega
            all_goals omega
          · obtain rfl | rfl : q = -1 ∨ q = 1 := by omega
            all_goals omega
        exact ⟨n + ((10 : Nat) : Int), hs.trans (if_neg h), 10, rfl, by omega, hI, h⟩)
    simpa using this
  obtain ⟨r, hr, a, ha, h1, h2, h3⟩ := key
  refine ⟨a, ?_, h1, h2, h3⟩
  rw [w64_of (x := x + p) (by omega), w64_of (x := y + q) (by omega), hr, ha]

/-- A row of k goes through a place in a direction. -/
def Thru (W H : Int) (c : List Int) (k x y who d : Int) : Prop := ∃ i : Nat, (i : Int) < k ∧ ∀ j : Nat, (j : Int) < k → Same W H c x y (DX d) (DY d) who ((j : Int) - i)

theorem dirs {d : Int} (h : 0 ≤ d ∧ d < 4) : geti ([1, 0, 0, 1, 1, 1, 1, (-1)] : List Int) (d * 2) = DX d ∧ geti ([1, 0, 0, 1, 1, 1, 1, (-1)] : List Int) (d * 2 + 1) = DY d ∧ (DX d ≠ 0 ∨ DY d ≠ 0) := by
  obtain rfl | rfl | rfl | rfl : d = 0 ∨ d = 1 ∨ d = 2 ∨ d = 3 := by omega
  all_goals decide

theorem neg_same {x y p q who e : Int} : Same W H c x y (-p) (-q) who e ↔ Same W H c x y p q who (-e) := by
  unfold Same
  rw [Int.neg_mul, Int.neg_mul, Int.mul_neg, Int.mul_neg]

theorem dir_p (B : Bd W H c k) {at' d x y : Int} (hd : 0 ≤ d ∧ d < 4) (hx : 0 ≤ x ∧ x < W) (hy : 0 ≤ y ∧ y < H) (hat : at' = y * W + x) (ex : Int.tmod at' W = x) (ey : Int.tdiv at' W = y) :
    four_well_won_J2 W H c k at' d = some (.done (.ret true)) ∧ Thru W H c k x y (geti c at') d ∨ four_well_won_J2 W H c k at' d = some (.next (d + 1)) ∧ ¬ Thru W H c k x y (geti c at') d := by
  have hW := B.w
  have hH := B.h
  have hk := B.k
  obtain ⟨g1, g2, hne⟩ := dirs hd
  obtain ⟨hX, hY⟩ := dxy hd
  have hp0 : w64 ((geti ([1, (-1)] : List Int) 0) * (geti ([1, 0, 0, 1, 1, 1, 1, (-1)] : List Int) (d * 2))) = DX d := by
    rw [g1, show geti ([1, (-1)] : List Int) 0 = 1 from rfl, w64_of (by omega)]; omega
  have hq0 : w64 ((geti ([1, (-1)] : List Int) 0) * (geti ([1, 0, 0, 1, 1, 1, 1, (-1)] : List Int) (d * 2 + 1))) = DY d := by
    rw [g2, show geti ([1, (-1)] : List Int) 0 = 1 from rfl, w64_of (by omega)]; omega
  have hp1 : w64 ((geti ([1, (-1)] : List Int) 1) * (geti ([1, 0, 0, 1, 1, 1, 1, (-1)] : List Int) (d * 2))) = - DX d := by
    rw [g1, show geti ([1, (-1)] : List Int) 1 = -1 from rfl, w64_of (by omega)]; omega
  have hq1 : w64 ((geti ([1, (-1)] : List Int) 1) * (geti ([1, 0, 0, 1, 1, 1, 1, (-1)] : List Int) (d * 2 + 1))) = - DY d := by
    rw [g2, show geti ([1, (-1)] : List Int) 1 = -1 from rfl, w64_of (by omega)]; omega
  obtain ⟨a, ra, ha, sa, na⟩ := run_p B (at' := at') hp0 hq0 hX hY hne hx hy 1 (by omega)
  obtain ⟨b, rb, hb, sb, nb⟩ := run_p B (at' := at') hp1 hq1 (by omega) (by omega) (by omega) hx hy (1 + a) (by omega)
  have hs : Same W H c x y (DX d) (DY d) (geti c at') 0 := by
    unfold Same
    rw [Int.mul_zero, Int.mul_zero, Int.add_zero, Int.add_zero, ← hat]
    exact ⟨hx, hy, rfl⟩
  have l0 : four_well_won_L2 W H c at' d (1, 0) = some (.next (1 + (a : Int), 1)) := by
    simp only [four_well_won_L2]
    rw [if_pos (by decide)]
    unfold four_well_won_J5
    rw [asrt_pos (by omega), ex, ey, w64_of (x := y) (by omega), hp0, hq0, ra]
    rfl
  have l1 : four_well_won_L2 W H c at' d (1 + (a : Int), 1) = some (.next (1 + (a : Int) + b, 2)) := by
    simp only [four_well_won_L2]
    rw [if_pos (by decide)]
    unfold four_well_won_J5
    rw [asrt_pos (by omega), ex, ey, w64_of (x := y) (by omega), hp1, hq1, rb]
    rfl
  have l2 : four_well_won_L2 W H c at' d (1 + (a : Int) + b, 2) = some (.done (1 + (a : Int) + b)) := by
    simp only [four_well_won_L2]
    rw [if_neg (by decide)]
  have mid : ∀ e : Int, -(b : Int) ≤ e → e ≤ a → Same W H c x y (DX d) (DY d) (geti c at') e := by
    intro e h1 h2
    by_cases h0 : e = 0
    · rw [h0]; exact hs
    by_cases h3 : 0 < e
    · have := sa e.toNat (by omega) (by omega)
      rwa [show ((e.toNat : Nat) : Int) = e by omega] at this
    · have := sb (-e).toNat (by omega) (by omega)
      rw [show (((-e).toNat : Nat) : Int) = -e by omega, neg_same, Int.neg_neg] at this
      exact this
  unfold four_well_won_J2
  rw [asrt_pos hd, loop_next' l0 (loop_next' l1 (loop_done l2)), Option.bind_some]
  simp only [four_well_won_K2, four_well_won_J4, four_well_won_J3]
  by_cases h : k ≤ 1 + (a : Int) + b
  · left
    refine ⟨if_pos (decide_eq_true h), min b (k - 1).toNat, by omega, fun j hj => mid _ (by omega) (by omega)⟩
  · right
    refine ⟨by rw [if_neg (by simpa using h), w64_of (by omega)], ?_⟩
    rintro ⟨i, hi, hT⟩
    have h1 : (i : Int) ≤ b := by
      rcases Int.lt_or_le (b : Int) i with h1 | h1
      · have := hT (i - b - 1) (by omega)
        rw [show (((i - b - 1 : Nat) : Int) - (i : Int)) = - ((b : Int) + 1) by omega, ← neg_same] at this
        exact absurd this nb
      · exact h1
    have h2 : k - 1 - i ≤ a := by
      rcases Int.lt_or_le (a : Int) (k - 1 - i) with h1 | h1
      · have := hT (i + a + 1) (by omega)
        rw [show (((i + a + 1 : Nat) : Int) - (i : Int)) = (a : Int) + 1 by omega] at this
        exact absurd this na
      · exact h1
    omega

theorem inRow_iff (B : Bd W H c k) {x y : Int} {at' : Nat} (hx : 0 ≤ x ∧ x < W) (hy : 0 ≤ y ∧ y < H) (hat : (at' : Int) = y * W + x) (hpos : 0 < geti c at') :
    InRow W H c k at' ↔ ∃ d, (0 ≤ d ∧ d < 4) ∧ Thru W H c k x y (geti c at') d := by
  have hW := B.w
  have hk := B.k
  constructor
  · rintro ⟨y', x', d, i, ⟨hy', hx', hd⟩, hi, hr, he⟩
    obtain ⟨hl, hv⟩ := rv_pos hk.1 (show rv W H c k y' x' d ≠ 0 by omega)
    have hli := hl i hi
    unfold plc at he
    obtain ⟨e1, e2⟩ := yx_inj (W := W) hW hx ⟨hli.1, hli.2.1⟩ (by rw [← hat, he])
    have hval : geti c at' = rv W H c k y' x' d := by rw [he, hli.2.2.2.2]
    refine ⟨d, hd, i, hi, fun j hj => ?_⟩
    have := hl j hj
    unfold Same
    have f1 : x + DX d * ((j : Int) - i) = x' + DX d * j := by rw [Int.mul_sub]; omega
    have f2 : y + DY d * ((j : Int) - i) = y' + DY d * j := by rw [Int.mul_sub]; omega
    rw [f1, f2, hval]
    exact ⟨⟨this.1, this.2.1⟩, ⟨this.2.2.1, this.2.2.2.1⟩, this.2.2.2.2⟩
  · rintro ⟨d, hd, i, hi, hT⟩
    have h0 := hT 0 (by omega)
    obtain ⟨g1, g2, g3⟩ := h0
    refine ⟨y + DY d * (((0 : Nat) : Int) - i), x + DX d * (((0 : Nat) : Int) - i), d, i, ⟨g2, g1, hd⟩, hi, ?_, ?_⟩
    · unfold rv rowV
      rw [g3, if_pos]
      · exact hpos
      · intro j hj
        obtain ⟨q1, q2, q3⟩ := hT j hj
        have f1 : x + DX d * (((0 : Nat) : Int) - i) + DX d * j = x + DX d * ((j : Int) - i) := by rw [Int.mul_sub, Int.mul_sub]; omega
        have f2 : y + DY d * (((0 : Nat) : Int) - i) + DY d * j = y + DY d * ((j : Int) - i) := by rw [Int.mul_sub, Int.mul_sub]; omega
        rw [f1, f2]
        exact ⟨q1.1, q1.2, q2.1, q2.2, q3⟩
    · unfold plc
      have f1 : x + DX d * (((0 : Nat) : Int) - i) + DX d * i = x := by rw [Int.mul_sub]; omega
      have f2 : y + DY d * (((0 : Nat) : Int) - i) + DY d * i = y := by rw [Int.mul_sub]; omega
      rw [f1, f2, hat]

open Classical in
theorem won_p (B : Bd W H c k) {at' : Nat} (m : Int) (hat : at' < c.length) (hpos : 0 < geti c at') : four_well_won_m W H c k m at' = some (decide (InRow W H c k at')) := by
  have hW := B.w
  obtain ⟨hx, hy, hxy⟩ := B.dm.xy (p := (at' : Int)) (by omega)
  have ex : Int.tmod (at' : Int) W = (at' : Int) % W := Int.tmod_eq_emod_of_nonneg (by omega)
  have ey : Int.tdiv (at' : Int) W = (at' : Int) / W := Int.tdiv_eq_ediv_of_nonneg (by omega)
  unfold four_well_won_m
  rw [asrt_pos (by omega), asrt_pos (by omega), asrt_pos (by omega)]
  have key := count_loop (step := four_well_won_L1 W H c k at') (fun (_ : Unit) (i : Nat) => (i : Int))
    (fun n _ => ∀ d : Int, 0 ≤ d → d < n → ¬ Thru W H c k ((at' : Int) % W) ((at' : Int) / W) (geti c at') d)
    (fun r => r = (if InRow W H c k at' then .ret true else .go ())) 4 () (fun d h1 h2 => by omega) (by
      rintro i - hi hI
      have e : four_well_won_L1 W H c k at' (i : Int) = four_well_won_J2 W H c k at' i := if_pos (decide_eq_true (by omega))
      rcases dir_p B (d := (i : Int)) (by omega) hx hy hxy.symm ex ey with ⟨h1, h2⟩ | ⟨h1, h2⟩
      · right
        exact ⟨_, by rw [e, h1], by rw [if_pos ((inRow_iff B hx hy hxy.symm hpos).2 ⟨i, by omega, h2⟩)]⟩
      · left
        refine ⟨(), by rw [e, h1]; rfl, fun d g1 g2 => ?_⟩
        by_cases q : d = i
        · rw [q]; exact h2
        · exact hI d g1 (by omega)) (by
      rintro - hI
      refine ⟨.go (), by simp only [four_well_won_L1]; rw [if_neg (by decide)], ?_⟩
      rw [if_neg]
      intro h
      obtain ⟨d, h1, h2⟩ := (inRow_iff B hx hy hxy.symm hpos).1 h
      exact hI d h1.1 (by omega) h2)
  obtain ⟨r, hr, rfl⟩ := key
  have hr' : loop (four_well_won_L1 W H c k at') 0 = _ := hr
  rw [hr', Option.bind_some]
  by_cases h : InRow W H c k at'
  · rw [if_pos h, decide_eq_true h]; rfl
  · rw [if_neg h, decide_eq_false h]; rfl

/-- Where a sign falls, in so many rows from above. -/
def fallN (W : Int) (c : List Int) (col : Int) : Nat → Int
  | 0 => -1
  | n + 1 => if geti c ((n : Int) * W + col) = 0 then (n : Int) * W + col else fallN W c col n

theorem fallN_at (B : Dm W H c) {col : Int} (hc : 0 ≤ col ∧ col < W) : ∀ n : Nat, (n : Int) ≤ H → fallN W c col n = -1 ∨ (0 ≤ fallN W c col n ∧ fallN W c col n < c.length ∧ geti c (fallN W c col n) = 0)
  | 0, _ => Or.inl rfl
  | n + 1, h => by
    unfold fallN
    have hi := B.idx (x := col) (y := (n : Int)) hc (by omega)
    split
    · rename_i h2; exact Or.inr ⟨hi.1, hi.2, h2⟩
    · exact fallN_at B hc n (by omega)

theorem fall_p (B : Dm W H c) {col : Int} (hc : 0 ≤ col ∧ col < W) (m : Int) : four_well_fall_m W H c k m col = some (fallN W c col H.toNat) := by
  have hW := B.w
  have hH := B.h
  unfold four_well_fall_m
  have key : ∀ n : Nat, (n : Int) ≤ H → ∃ r, loop (four_well_fall_L1 W c col) ((n : Int) - 1) = some r ∧ four_well_fall_K1 r = some (fallN W c col n) := by
    intro n
    induction n with
    | zero =>
      intro _
      refine ⟨.go (), loop_done ?_, rfl⟩
      simp only [four_well_fall_L1]
      rw [if_neg (by simp)]
    | succ n ih =>
      intro hn
      obtain ⟨r, h1, h2⟩ := ih (by omega)
      have hi := B.idx (x := col) (y := (n : Int)) hc (by omega)
      have e : four_well_fall_L1 W c col (((n + 1 : Nat) : Int) - 1) = if geti c ((n : Int) * W + col) = 0 then some (.done (.ret ((n : Int) * W + col))) else some (.next ((n : Int) - 1)) := by
        rw [show ((n + 1 : Nat) : Int) - 1 = (n : Int) by omega]
        simp only [four_well_fall_L1]
        rw [if_pos (decide_eq_true (by omega))]
        unfold four_well_fall_J2 four_well_fall_J3
        rw [w64_ix' hW (by omega) (by omega), asrt_pos hi, w64_of (x := (n : Int) - 1) (by omega)]
        simp only [beq_iff_eq]
      unfold fallN
      by_cases h : geti c ((n : Int) * W + col) = 0
      · rw [if_pos h] at e ⊢
        exact ⟨_, loop_done e, rfl⟩
      · rw [if_neg h] at e ⊢
        exact ⟨r, loop_next' e h1, h2⟩
  obtain ⟨r, h1, h2⟩ := key H.toNat (by omega)
  rw [w64_of (x := H - 1) (by omega), show H - 1 = ((H.toNat : Nat) : Int) - 1 by omega, h1, Option.bind_some, h2]

theorem fallTo_r (B : Dm W H c) {col : Int} (hc : 0 ≤ col ∧ col < W) : gameroomref_fallTo_m W H c col = some (fallN W c col H.toNat) := by
  have hW := B.w
  have hH := B.h
  unfold gameroomref_fallTo_m
  have key := count_loop (step := gameroomref_fallTo_L1 W H c col) (fun (s : Int) (i : Nat) => (s, (i : Int))) (fun n s => s = fallN W c col n) (fun r => r = fallN W c col H.toNat) H.toNat (-1) rfl (by
    rintro i s hi rfl
    have hix := B.idx (x := col) (y := (i : Int)) hc (by omega)
    left
    refine ⟨fallN W c col (i + 1), ?_, rfl⟩
    simp only [gameroomref_fallTo_L1]
    rw [if_pos (decide_eq_true (by omega))]
    unfold gameroomref_fallTo_J2 gameroomref_fallTo_J3
    rw [w64_ix' hW (by omega) (by omega), asrt_pos hix, w64_of (x := (i : Int) + 1) (by omega)]
    rw [fallN]
    simp only [beq_iff_eq]
    split <;> rfl) (by
    rintro s rfl
    refine ⟨_, ?_, rfl⟩
    simp only [gameroomref_fallTo_L1]
    rw [if_neg (by simp; omega)])
  obtain ⟨r, hr, rfl⟩ := key
  have hr' : loop (gameroomref_fallTo_L1 W H c col) (-1, 0) = _ := hr
  rw [hr']
  rfl
end
end Go.Proofs.Ytnplejebgbdfpaa
