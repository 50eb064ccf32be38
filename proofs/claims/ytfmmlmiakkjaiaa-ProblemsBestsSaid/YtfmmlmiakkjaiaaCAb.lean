import Derived.Test.YtfmmlmiakkjaiaaCAa
namespace Go.Proofs.Ytfmmlmiakkjaiaa
open Go Go.GL
theorem sg_bd (x : Int) : -1 ≤ sg x ∧ sg x ≤ 1 := by unfold sg; split <;> (try split) <;> omega
def ivs : List Int := [-7, -6, -5, -4, -3, -2, -1, 0, 1, 2, 3, 4, 5, 6, 7]
theorem ivs_mem {x : Int} (h : -7 ≤ x ∧ x ≤ 7) : x ∈ ivs := by
 have : x = -7 ∨ x = -6 ∨ x = -5 ∨ x = -4 ∨ x = -3 ∨ x = -2 ∨ x = -1 ∨ x = 0 ∨ x = 1 ∨ x = 2 ∨ x = 3 ∨ x = 4 ∨ x = 5 ∨ x = 6 ∨ x = 7 := by omega
 rcases this with rfl | rfl | rfl | rfl | rfl | rfl | rfl | rfl | rfl | rfl | rfl | rfl | rfl | rfl | rfl <;> decide
theorem geo_tab : (ivs.all fun x => ivs.all fun y => (hops.any (fun s => decide (x = s.1 ∧ y = s.2)) == decide ((x * y).natAbs = 2)) && (dirs.any (fun s => decide (x = s.1 ∧ y = s.2)) == (!decide (x = 0 ∧ y = 0) && (decide (x.natAbs ≤ 1) && decide (y.natAbs ≤ 1)))) &&
  (decide ((x = 0 ∧ y = 0) ∨ ¬ (x.natAbs = y.natAbs ∨ x = 0 ∨ y = 0)) || dirs.contains (sg x, sg y)) && (decide ((x = 0 ∧ y = 0) ∨ ¬ x.natAbs = y.natAbs) == !((stepsL 3).contains (sg x, sg y) && decide (x.natAbs = y.natAbs))) && (decide ((x = 0 ∧ y = 0) ∨ ¬ (x = 0 ∨ y = 0)) == !((stepsL 4).contains (sg x, sg y) && decide (x = 0 ∨ y = 0))) && decide (-49 ≤ x * y ∧ x * y ≤ 49)
  && (decide (x.natAbs = y.natAbs) || !(stepsL 3).contains (sg x, sg y) || decide (¬ (x = 0 ∨ y = 0))) && (decide (x = 0 ∨ y = 0) || !(stepsL 4).contains (sg x, sg y))) = true := by decide +kernel
structure Geo (x y : Int) : Prop where
 hop : (∃ s ∈ hops, x = s.1 ∧ y = s.2) ↔ (x * y).natAbs = 2
 king : (∃ s ∈ dirs, x = s.1 ∧ y = s.2) ↔ ¬ (x = 0 ∧ y = 0) ∧ x.natAbs ≤ 1 ∧ y.natAbs ≤ 1
 dir : ¬ (x = 0 ∧ y = 0) → (x.natAbs = y.natAbs ∨ x = 0 ∨ y = 0) → (sg x, sg y) ∈ dirs
 s3 : ¬ (x = 0 ∧ y = 0) → x.natAbs = y.natAbs → (sg x, sg y) ∈ stepsL 3
 s4 : ¬ (x = 0 ∧ y = 0) → (x = 0 ∨ y = 0) → (sg x, sg y) ∈ stepsL 4
 n3 : (x = 0 ∨ y = 0) → ¬ x.natAbs = y.natAbs → (sg x, sg y) ∉ stepsL 3
 n4 : ¬ (x = 0 ∨ y = 0) → (sg x, sg y) ∉ stepsL 4
 bd : -49 ≤ x * y ∧ x * y ≤ 49
theorem geo {x y : Int} (hx : -7 ≤ x ∧ x ≤ 7) (hy : -7 ≤ y ∧ y ≤ 7) : Geo x y := by
 have h := List.all_eq_true.1 (List.all_eq_true.1 geo_tab x (ivs_mem hx)) y (ivs_mem hy)
 simp only [Bool.and_eq_true, Bool.or_eq_true, beq_iff_eq, decide_eq_true_eq] at h
 obtain ⟨⟨⟨⟨⟨⟨⟨h1, h2⟩, h3⟩, h4⟩, h5⟩, h6⟩, h7⟩, h8⟩ := h
 rw [Bool.eq_iff_iff] at h1 h2 h4 h5
 simp only [List.any_eq_true, decide_eq_true_eq, Bool.and_eq_true, Bool.not_eq_true', decide_eq_false_iff_not, List.contains_iff_mem, Bool.and_eq_false_iff] at h1 h2 h3 h4 h5 h7 h8
 refine ⟨h1, h2, fun a b => ?_, fun a b => ?_, fun a b => ?_, fun a b c => ?_, fun a b => ?_, h6⟩
 ·rcases h3 with h | h
  ·rcases h with h | h
   ·exact absurd h a
   ·exact absurd b h
  ·exact h
 ·refine Classical.byContradiction fun hc => ?_
  have := h4.2 (.inl (by simpa [List.contains_iff_mem] using hc))
  rcases this with h | h
  ·exact a h
  ·exact h b
 ·refine Classical.byContradiction fun hc => ?_
  have := h5.2 (.inl (by simpa [List.contains_iff_mem] using hc))
  rcases this with h | h
  ·exact a h
  ·exact h b
 ·rcases h7 with (h | h) | h
  ·exact b h
  ·rw [← Bool.not_eq_true, List.contains_iff_mem] at h
   exact h c
  ·exact h a
 ·rcases h8 with h | h
  ·exact a h
  ·rw [← Bool.not_eq_true, List.contains_iff_mem] at h
   exact h b
section
variable {p : List Int} {i t : Nat}
theorem scan_one {n : Nat} {sx sy : Int} : scan p true t (ray (n + 1) i sx sy) = (mvO i sx sy == some t) := by
 cases hm : mvO i sx sy with
 | none => rw [ray_none hm]; rfl
 | some q =>
  rw [ray_some hm, scan_cons]
  by_cases h : q = t
  ·subst h; simp
  ·simp [h]
theorem loop_r (hp : p.length = 64) {sx sy : Int} (hi : i < 64) (ht : t < 64) (hx : sg ((t : Int) % 8 - (i : Int) % 8) = sx) (hy : sg ((t : Int) / 8 - (i : Int) / 8) = sy) : ∀ (n j : Nat), t ∈ ray n j sx sy →
  loop (rf_Attacks_L1 p (i : Int) (t : Int)) ((j : Int) + sx + 8 * sy) = some (if scan p false t (ray n j sx sy) then .go () else .ret false)
 | 0, _, h => by cases h
 | n + 1, j, h => by
  have hsx := sg_bd ((t : Int) % 8 - (i : Int) % 8)
  have hsy := sg_bd ((t : Int) / 8 - (i : Int) / 8)
  rw [hx] at hsx
  rw [hy] at hsy
  cases hm : mvO j sx sy with
  | none => rw [ray_none hm] at h; cases h
  | some q =>
   rw [ray_some hm] at h ⊢
   have hq := mvO_bd hm
   rw [← hq.2.1, scan_cons]
   by_cases hqt : q = t
   ·subst hqt
    rw [if_pos rfl]
    refine loop_done ?_
    simp [rf_Attacks_L1]
   ·rw [if_neg hqt]
    have e0 : rf_Attacks_L1 p (i : Int) (t : Int) (q : Int) = rf_Attacks_J5 p i t q := by
     simp only [rf_Attacks_L1]
     exact if_pos (by simp; omega)
    unfold rf_Attacks_J5 at e0
    rw [asrt_pos (by omega)] at e0
    by_cases hz : geti p q = 0
    ·rw [if_neg (by simp [hz])] at e0
     unfold rf_Attacks_J6 at e0
     rw [Int.tmod_eq_emod_of_nonneg (by omega), Int.tmod_eq_emod_of_nonneg (by omega), Int.tdiv_eq_ediv_of_nonneg (by omega), Int.tdiv_eq_ediv_of_nonneg (by omega), w64_of (x := (t : Int) / 8) (by omega), w64_of (x := (i : Int) / 8) (by omega), w64_of (x := (t : Int) % 8 - (i : Int) % 8) (by omega), w64_of (x := (t : Int) / 8 - (i : Int) / 8) (by omega), sign_eq, sign_eq, Option.bind_some, Option.bind_some, hx, hy, w64_of (x := 8 * sy) (by omega), w64_of (x := sx + 8 * sy) (by omega), w64_of (by omega)] at e0
     have ih := loop_r hp hi ht hx hy n q (by
      rcases List.mem_cons.1 h with h | h
      ·exact absurd h.symm hqt
      ·exact h)
     rw [if_neg (show ¬ (geti p q ≠ 0 ∨ false = true) by simp [hz])]
     refine loop_next' e0 ?_
     rw [← ih]
     congr 1
     omega
    ·rw [if_pos (by simp [hz])] at e0
     rw [if_pos (show geti p q ≠ 0 ∨ false = true from .inl hz), loop_done e0]
     rfl
theorem attacks_r (hp : p.length = 64) (hi : i < 64) (ht : t < 64) (hx : (-6 ≤ geti p i ∧ geti p i ≤ 6) ∧ geti p i ≠ 0) : rf_Attacks_m p (i : Int) (t : Int) = some (attB p i t) := by
 have G := geo (x := (t : Int) % 8 - (i : Int) % 8) (y := (t : Int) / 8 - (i : Int) / 8) (by omega) (by omega)
 have hmv : ∀ (sx sy : Int), mvO i sx sy = some t ↔ (t : Int) % 8 - (i : Int) % 8 = sx ∧ (t : Int) / 8 - (i : Int) / 8 = sy := fun sx sy => mvO_iff ht
 have hray : ∀ s ∈ dirs, t ∈ ray 8 i s.1 s.2 ↔ (s.1 = sg ((t : Int) % 8 - (i : Int) % 8) ∧ s.2 = sg ((t : Int) / 8 - (i : Int) / 8)) ∧ (((t : Int) % 8 - (i : Int) % 8).natAbs = ((t : Int) / 8 - (i : Int) / 8).natAbs ∨ (t : Int) % 8 - (i : Int) % 8 = 0 ∨ (t : Int) / 8 - (i : Int) / 8 = 0) := fun s hs => ray_mem hi ht hs
 have hloop : ∀ n j, t ∈ ray n j (sg ((t : Int) % 8 - (i : Int) % 8)) (sg ((t : Int) / 8 - (i : Int) / 8)) → _ := loop_r hp hi ht rfl rfl
 have hbx : -7 ≤ (t : Int) % 8 - (i : Int) % 8 ∧ (t : Int) % 8 - (i : Int) % 8 ≤ 7 := by omega
 have hby : -7 ≤ (t : Int) / 8 - (i : Int) / 8 ∧ (t : Int) / 8 - (i : Int) / 8 ≤ 7 := by omega
 unfold rf_Attacks_m rf_Attacks_J1 rf_Attacks_J2 rf_Attacks_J3
 rw [asrt_pos (by omega), Int.tmod_eq_emod_of_nonneg (by omega), Int.tmod_eq_emod_of_nonneg (by omega), Int.tdiv_eq_ediv_of_nonneg (by omega), Int.tdiv_eq_ediv_of_nonneg (by omega), w64_of (x := (t : Int) / 8) (by omega), w64_of (x := (i : Int) / 8) (by omega), w64_of (x := (t : Int) % 8 - (i : Int) % 8) (by omega), w64_of (x := (t : Int) / 8 - (i : Int) / 8) (by omega)]
 generalize (t : Int) % 8 - (i : Int) % 8 = dx at *
 generalize (t : Int) / 8 - (i : Int) / 8 = dy at *
 have hsx := sg_bd dx
 have hsy := sg_bd dy
 have G6 := G.bd
 rw [size_small (x := geti p i) (by omega), size_small (x := dx) (by omega), size_small (x := dy) (by omega), w64_of (x := dx * dy) (by omega), size_small (x := dx * dy) (by omega), sign_eq, sign_eq]
 simp only [Option.bind_some]
 unfold attB
 have hk : (geti p i).natAbs = 1 ∨ (geti p i).natAbs = 2 ∨ (geti p i).natAbs = 3 ∨ (geti p i).natAbs = 4 ∨ (geti p i).natAbs = 5 ∨ (geti p i).natAbs = 6 := by omega
 have far : ∀ k : Int, (∀ s ∈ stepsL k, s ∈ dirs → ¬ t ∈ ray 8 i s.1 s.2) → stepsL k ⊆ dirs → ((stepsL k).any fun s => scan p false t (ray 8 i s.1 s.2)) = false := by
  intro k h1 h2
  rw [List.any_eq_false]
  intro s hs
  rw [scan_false (h1 s hs (h2 hs))]
  decide
 have near : ∀ k : Int, stepsL k ⊆ dirs → (sg dx, sg dy) ∈ stepsL k → (dx.natAbs = dy.natAbs ∨ dx = 0 ∨ dy = 0) → ((stepsL k).any fun s => scan p false t (ray 8 i s.1 s.2)) = scan p false t (ray 8 i (sg dx) (sg dy)) := by
  intro k h1 h2 h3
  rw [Bool.eq_iff_iff, List.any_eq_true]
  constructor
  ·rintro ⟨s, hs, h⟩
   by_cases hm : t ∈ ray 8 i s.1 s.2
   ·have := ((hray s (h1 hs)).1 hm).1
    rw [← this.1, ← this.2]
    exact h
   ·rw [scan_false hm] at h; cases h
  ·intro h
   exact ⟨_, h2, h⟩
 have d3 : stepsL 3 ⊆ dirs := by decide
 have d4 : stepsL 4 ⊆ dirs := by decide
 have d5 : stepsL 5 ⊆ dirs := by decide
 have fin : ∀ k : Int, stepsL k ⊆ dirs → (sg dx, sg dy) ∈ stepsL k → (dx.natAbs = dy.natAbs ∨ dx = 0 ∨ dy = 0) → (loop (rf_Attacks_L1 p (i : Int) (t : Int)) (w64 ((w64 ((i : Int) + sg dx)) + (w64 (8 * sg dy))))).bind rf_Attacks_K1 = some ((stepsL k).any fun s => scan p false t (ray 8 i s.1 s.2)) := by
  intro k h1 h2 h3
  rw [near k h1 h2 h3, w64_of (x := (i : Int) + sg dx) (by omega), w64_of (x := 8 * sg dy) (by omega), w64_of (by omega), hloop 8 i ((hray _ (h1 h2)).2 ⟨⟨rfl, rfl⟩, h3⟩), Option.bind_some]
  cases scan p false t (ray 8 i (sg dx) (sg dy)) <;> rfl
 have hsl : (((dx.natAbs : Nat) : Int) == ((dy.natAbs : Nat) : Int)) = decide (dx.natAbs = dy.natAbs) := by
  rw [Bool.eq_iff_iff, beq_iff_eq, decide_eq_true_eq]; omega
 have hst : ((dx == 0) || (dy == 0)) = decide (dx = 0 ∨ dy = 0) := by
  rw [Bool.eq_iff_iff, Bool.or_eq_true, beq_iff_eq, beq_iff_eq, decide_eq_true_eq]
 have hx0 : (geti p i == 0) = false := by simpa using hx.2
 have e33 : (((3 : Nat) : Int) == 3) = true := rfl
 have e34 : (((3 : Nat) : Int) == 4) = false := rfl
 have e43 : (((4 : Nat) : Int) == 3) = false := rfl
 have e44 : (((4 : Nat) : Int) == 4) = true := rfl
 have e53 : (((5 : Nat) : Int) == 3) = false := rfl
 have e54 : (((5 : Nat) : Int) == 4) = false := rfl
 have e03 : ((0 : Int) == 3) = false := rfl
 have e04 : ((0 : Int) == 4) = false := rfl
 by_cases h0 : dx = 0 ∧ dy = 0
 ·rw [if_pos (by rw [h0.1, h0.2]; rfl)]
  have hno : ∀ s ∈ dirs, ¬ t ∈ ray 8 i s.1 s.2 := by
   intro s hs hm
   have h := ((hray s hs).1 hm).1
   rw [h0.1, h0.2] at h
   have : s = (0, 0) := Prod.ext h.1 h.2
   rw [this] at hs
   exact absurd hs (by decide)
  rcases hk with h | h | h | h | h | h
  ·rw [if_pos h]
   have e1 : ¬ mvO i (-1) (geti p i) = some t := fun e => by have := (hmv _ _).1 e; omega
   have e2 : ¬ mvO i 1 (geti p i) = some t := fun e => by have := (hmv _ _).1 e; omega
   simp [e1, e2]
  ·rw [if_neg (by omega), h]
   congr 1
   symm
   rw [List.any_eq_false]
   intro s hs
   rw [show oneK ((2 : Nat) : Int) = true from rfl, scan_one]
   simp only [beq_iff_eq]
   intro e
   have := G.hop.1 ⟨s, hs, (hmv _ _).1 e⟩
   rw [h0.1, h0.2] at this
   exact absurd this (by decide)
  ·rw [if_neg (by omega), h]
   exact congrArg some (far 3 (fun s _ hd => hno s hd) d3).symm
  ·rw [if_neg (by omega), h]
   exact congrArg some (far 4 (fun s _ hd => hno s hd) d4).symm
  ·rw [if_neg (by omega), h]
   exact congrArg some (far 5 (fun s _ hd => hno s hd) d5).symm
  ·rw [if_neg (by omega), h]
   congr 1
   symm
   rw [List.any_eq_false]
   intro s hs
   rw [show oneK ((6 : Nat) : Int) = true from rfl, scan_one]
   simp only [beq_iff_eq]
   intro e
   exact (G.king.1 ⟨s, hs, (hmv _ _).1 e⟩).1 h0
 ·rw [if_neg (by
   simp only [Bool.and_eq_true, beq_iff_eq]
   exact h0)]
  rcases hk with h | h | h | h | h | h
  ·rw [if_pos (by rw [h]; rfl), if_pos h]
   congr 1
   rw [Bool.eq_iff_iff]
   simp only [Bool.and_eq_true, Bool.or_eq_true, beq_iff_eq, hmv]
   omega
  ·rw [if_neg (by rw [h]; decide), if_pos (by rw [h]; rfl), if_neg (by omega), h]
   congr 1
   rw [Bool.eq_iff_iff, List.any_eq_true]
   simp only [show oneK ((2 : Nat) : Int) = true from rfl, scan_one, beq_iff_eq, hmv]
   rw [show stepsL ((2 : Nat) : Int) = hops from rfl, G.hop]
   omega
  ·rw [if_neg (by rw [h]; decide), if_neg (by rw [h]; decide), if_neg (by rw [h]; decide), if_neg (show ¬ (geti p i).natAbs = 1 by omega), h, hsl, hst, hx0]
   by_cases a : dx.natAbs = dy.natAbs <;> by_cases b : dx = 0 ∨ dy = 0
   ·rw [decide_eq_true a, decide_eq_true b]
    simp only [Bool.not_true, Bool.not_false, Bool.or_false, Bool.and_false, if_true, if_false, Option.bind_some, Bool.false_eq_true]
    exact fin 3 d3 (G.s3 h0 a) (.inl a)
   ·rw [decide_eq_true a, decide_eq_false b]
    simp only [Bool.not_true, Bool.not_false, Bool.or_false, Bool.false_or, Bool.and_true, Bool.and_false, if_true, if_false, Option.bind_some, Bool.false_eq_true, e34]
    exact fin 3 d3 (G.s3 h0 a) (.inl a)
   ·rw [decide_eq_false a, decide_eq_true b]
    simp only [Bool.not_true, Bool.not_false, Bool.or_false, Bool.false_or, Bool.and_true, Bool.and_false, if_true, if_false, Option.bind_some, Bool.false_eq_true, e33]
    exact congrArg some (far 3 (fun s hs hd hm => by
     have q := ((hray s hd).1 hm).1
     have e : s = (sg dx, sg dy) := Prod.ext q.1 q.2
     exact G.n3 b a (e ▸ hs)) d3).symm
   ·rw [decide_eq_false a, decide_eq_false b]
    simp only [Bool.not_true, Bool.not_false, Bool.or_true, Bool.true_or, Bool.and_true, if_true, if_false, Option.bind_some, Bool.false_eq_true]
    exact congrArg some (far 3 (fun s hs hd hm => by
     rcases ((hray s hd).1 hm).2 with q | q
     ·exact a q
     ·exact b q) d3).symm
  ·rw [if_neg (by rw [h]; decide), if_neg (by rw [h]; decide), if_neg (by rw [h]; decide), if_neg (show ¬ (geti p i).natAbs = 1 by omega), h, hsl, hst, hx0]
   by_cases a : dx.natAbs = dy.natAbs <;> by_cases b : dx = 0 ∨ dy = 0
   ·rw [decide_eq_true a, decide_eq_true b]
    simp only [Bool.not_true, Bool.not_false, Bool.or_false, Bool.and_false, if_true, if_false, Option.bind_some, Bool.false_eq_true]
    exact fin 4 d4 (G.s4 h0 b) (.inl a)
   ·rw [decide_eq_true a, decide_eq_false b]
    simp only [Bool.not_true, Bool.not_false, Bool.or_false, Bool.false_or, Bool.and_true, Bool.and_false, if_true, Option.bind_some, e44]
    exact congrArg some (far 4 (fun s hs hd hm => by
     have q := ((hray s hd).1 hm).1
     have e : s = (sg dx, sg dy) := Prod.ext q.1 q.2
     exact G.n4 b (e ▸ hs)) d4).symm
   ·rw [decide_eq_false a, decide_eq_true b]
    simp only [Bool.not_true, Bool.not_false, Bool.or_false, Bool.false_or, Bool.and_true, Bool.and_false, if_true, if_false, Option.bind_some, Bool.false_eq_true, e43]
    exact fin 4 d4 (G.s4 h0 b) (.inr b)
   ·rw [decide_eq_false a, decide_eq_false b]
    simp only [Bool.not_true, Bool.not_false, Bool.or_true, Bool.true_or, Bool.and_true, if_true, if_false, Option.bind_some, Bool.false_eq_true]
    exact congrArg some (far 4 (fun s hs hd hm => by
     rcases ((hray s hd).1 hm).2 with q | q
     ·exact a q
     ·exact b q) d4).symm
  ·rw [if_neg (by rw [h]; decide), if_neg (by rw [h]; decide), if_neg (by rw [h]; decide), if_neg (show ¬ (geti p i).natAbs = 1 by omega), h, hsl, hst, hx0]
   by_cases a : dx.natAbs = dy.natAbs <;> by_cases b : dx = 0 ∨ dy = 0
   ·rw [decide_eq_true a, decide_eq_true b]
    simp only [Bool.not_true, Bool.not_false, Bool.or_false, Bool.and_false, if_true, if_false, Option.bind_some, Bool.false_eq_true]
    exact fin 5 d5 (G.dir h0 (.inl a)) (.inl a)
   ·rw [decide_eq_true a, decide_eq_false b]
    simp only [Bool.not_true, Bool.not_false, Bool.or_false, Bool.false_or, Bool.and_true, Bool.and_false, if_true, if_false, Option.bind_some, Bool.false_eq_true, e54]
    exact fin 5 d5 (G.dir h0 (.inl a)) (.inl a)
   ·rw [decide_eq_false a, decide_eq_true b]
    simp only [Bool.not_true, Bool.not_false, Bool.or_false, Bool.false_or, Bool.and_true, Bool.and_false, if_true, if_false, Option.bind_some, Bool.false_eq_true, e53]
    exact fin 5 d5 (G.dir h0 (.inr b)) (.inr b)
   ·rw [decide_eq_false a, decide_eq_false b]
    simp only [Bool.not_true, Bool.not_false, Bool.or_true, Bool.true_or, Bool.and_true, if_true, if_false, Option.bind_some, Bool.false_eq_true]
    exact congrArg some (far 5 (fun s hs hd hm => by
     rcases ((hray s hd).1 hm).2 with q | q
     ·exact a q
     ·exact b q) d5).symm
  ·rw [if_neg (by rw [h]; decide), if_neg (by rw [h]; decide), if_pos (by rw [h]; rfl), if_neg (show ¬ (geti p i).natAbs = 1 by omega), h]
   have e5 : (if decide (((dx.natAbs : Nat) : Int) ≤ 1) = true then some ((dy.natAbs : Nat) : Int) else some 0) = some (if decide (((dx.natAbs : Nat) : Int) ≤ 1) = true then ((dy.natAbs : Nat) : Int) else 0) := by split <;> rfl
   rw [e5, Option.bind_some]
   congr 1
   rw [Bool.eq_iff_iff, List.any_eq_true]
   simp only [show oneK ((6 : Nat) : Int) = true from rfl, scan_one, beq_iff_eq, hmv, Bool.and_eq_true, decide_eq_true_eq]
   rw [show stepsL ((6 : Nat) : Int) = dirs from rfl, G.king]
   constructor
   ·rintro ⟨q1, q2⟩
    rw [if_pos q1] at q2
    exact ⟨h0, by omega, by omega⟩
   ·rintro ⟨_, q1, q2⟩
    have q1' : ((dx.natAbs : Nat) : Int) ≤ 1 := by omega
    rw [if_pos q1']
    exact ⟨q1', by omega⟩
end
end Go.Proofs.Ytfmmlmiakkjaiaa
