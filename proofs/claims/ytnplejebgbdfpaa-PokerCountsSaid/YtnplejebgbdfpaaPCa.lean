/-
  The models with fuel: what can be reckoned by the kernel.
-/
import Derived.Test.YtnplejebgbdfpaaNPC
import Derived.Test.YtnplejebgbdfpaaLibY
namespace Go.Proofs.Ytnplejebgbdfpaa
open Go Go.GL

theorem _root_.Go.GL.Le.loopNq {S R : Type} {step step' : S → Option (St S R)} {s : S} {n : Nat} (h : ∀ s, Le (step s) (step' s)) : Le (GL.loopN step n s) (GL.loop step' s) := fun r hr => loop_of (Le.loopN2 h n s r hr)

def poker_over_J3n  (n1 : Int) (c1 : Int) (z1 : Int) : Option (St (Int × Int) Int) :=
  some (.next ((w64 (Int.tdiv (w64 (c1 * (w64 (n1 - z1)))) (w64 (z1 + 1)))), (w64 (z1 + 1))))

theorem poker_over_J3n_le  (n1 : Int) (c1 : Int) (z1 : Int) : Le (poker_over_J3n n1 c1 z1) (poker_over_J3 n1 c1 z1) := by
  unfold poker_over_J3n poker_over_J3
  repeat' (first | with_reducible exact Le.refl _ | with_reducible exact Le.refl _ | with_reducible refine Le.asrt ?_ | with_reducible refine Le.ite ?_ ?_ | refine Le.bind ?_ (fun _ => ?_) | refine Le.loopNq (fun _ => ?_))

def poker_over_J2n  (n1 : Int) (c1 : Int) (z1 : Int) : Option (St (Int × Int) Int) :=
  asrt ((w64 (z1 + 1)) ≠ (0 : Int)) <| (poker_over_J3n n1 c1 z1)

theorem poker_over_J2n_le  (n1 : Int) (c1 : Int) (z1 : Int) : Le (poker_over_J2n n1 c1 z1) (poker_over_J2 n1 c1 z1) := by
  unfold poker_over_J2n poker_over_J2
  repeat' (first | with_reducible exact Le.refl _ | with_reducible exact poker_over_J3n_le _ _ _ | with_reducible refine Le.asrt ?_ | with_reducible refine Le.ite ?_ ?_ | refine Le.bind ?_ (fun _ => ?_) | refine Le.loopNq (fun _ => ?_))

def poker_over_J1n  (c2 : Int) : Option Int :=
  some c2

theorem poker_over_J1n_le  (c2 : Int) : Le (poker_over_J1n c2) (poker_over_J1 c2) := by
  unfold poker_over_J1n poker_over_J1
  repeat' (first | with_reducible exact Le.refl _ | with_reducible exact Le.refl _ | with_reducible refine Le.asrt ?_ | with_reducible refine Le.ite ?_ ?_ | refine Le.bind ?_ (fun _ => ?_) | refine Le.loopNq (fun _ => ?_))

def poker_over_K1n  : Int → Option Int :=
  fun (x : Int) => match x with | c2 => poker_over_J1n c2

theorem poker_over_K1n_le  (x) : Le (poker_over_K1n x) (poker_over_K1 x) := by
  unfold poker_over_K1n poker_over_K1
  try dsimp only
  repeat' (first | with_reducible exact Le.refl _ | with_reducible exact poker_over_J1n_le _ | with_reducible refine Le.asrt ?_ | with_reducible refine Le.ite ?_ ?_ | refine Le.bind ?_ (fun _ => ?_) | refine Le.loopNq (fun _ => ?_))

def poker_over_L1n  (n1 : Int) (k1 : Int) : (Int × Int) → Option (St (Int × Int) Int) :=
  fun (x : (Int × Int)) => match x with | (c1, z1) => if (decide (z1 < k1)) then ((poker_over_J2n n1 c1 z1)) else (some (.done c1))

theorem poker_over_L1n_le  (n1 : Int) (k1 : Int) (x) : Le (poker_over_L1n n1 k1 x) (poker_over_L1 n1 k1 x) := by
  unfold poker_over_L1n poker_over_L1
  try dsimp only
  repeat' (first | with_reducible exact Le.refl _ | with_reducible exact poker_over_J2n_le _ _ _ | with_reducible refine Le.asrt ?_ | with_reducible refine Le.ite ?_ ?_ | refine Le.bind ?_ (fun _ => ?_) | refine Le.loopNq (fun _ => ?_))

def poker_over_mn  (n1 : Int) (k1 : Int) : Option Int :=
  (loopN (poker_over_L1n n1 k1) 20 (1, 0)).bind poker_over_K1n

theorem poker_over_mn_le  (n1 : Int) (k1 : Int) : Le (poker_over_mn n1 k1) (poker_over_m n1 k1) := by
  unfold poker_over_mn poker_over_m
  repeat' (first | with_reducible exact Le.refl _ | with_reducible exact poker_over_K1n_le _ | with_reducible exact poker_over_L1n_le _ _ _ | with_reducible refine Le.asrt ?_ | with_reducible refine Le.ite ?_ ?_ | refine Le.bind ?_ (fun _ => ?_) | refine Le.loopNq (fun _ => ?_))

def poker_Counts_J4n  (n2 : List Int) (z1 : Int) : Option (St (List Int × Int) (List Int)) :=
  some (.next ((n2.set (Int.toNat 0) (w64 ((geti n2 0) - (geti (List.drop 1 (pad 9 n2)) z1)))), (w64 (z1 + 1))))

theorem poker_Counts_J4n_le  (n2 : List Int) (z1 : Int) : Le (poker_Counts_J4n n2 z1) (poker_Counts_J4 n2 z1) := by
  unfold poker_Counts_J4n poker_Counts_J4
  repeat' (first | with_reducible exact Le.refl _ | with_reducible exact Le.refl _ | with_reducible refine Le.asrt ?_ | with_reducible refine Le.ite ?_ ?_ | refine Le.bind ?_ (fun _ => ?_) | refine Le.loopNq (fun _ => ?_))

def poker_Counts_J3n  (n2 : List Int) (z1 : Int) : Option (St (List Int × Int) (List Int)) :=
  asrt (0 ≤ z1 ∧ z1 < 8) <| asrt (0 ≤ (0 : Int) ∧ (0 : Int) < 9) <| asrt (0 ≤ (0 : Int) ∧ (0 : Int) < 9) <| asrt (0 < (n2.length : Int)) <| (poker_Counts_J4n n2 z1)

theorem poker_Counts_J3n_le  (n2 : List Int) (z1 : Int) : Le (poker_Counts_J3n n2 z1) (poker_Counts_J3 n2 z1) := by
  unfold poker_Counts_J3n poker_Counts_J3
  repeat' (first | with_reducible exact Le.refl _ | with_reducible exact poker_Counts_J4n_le _ _ | with_reducible refine Le.asrt ?_ | with_reducible refine Le.ite ?_ ?_ | refine Le.bind ?_ (fun _ => ?_) | refine Le.loopNq (fun _ => ?_))

def poker_Counts_J2n  (n3 : List Int) : Option (List Int) :=
  some n3

theorem poker_Counts_J2n_le  (n3 : List Int) : Le (poker_Counts_J2n n3) (poker_Counts_J2 n3) := by
  unfold poker_Counts_J2n poker_Counts_J2
  repeat' (first | with_reducible exact Le.refl _ | with_reducible exact Le.refl _ | with_reducible refine Le.asrt ?_ | with_reducible refine Le.ite ?_ ?_ | refine Le.bind ?_ (fun _ => ?_) | refine Le.loopNq (fun _ => ?_))

def poker_Counts_K1n  : (List Int) → Option (List Int) :=
  fun (x : (List Int)) => match x with | n3 => poker_Counts_J2n n3

theorem poker_Counts_K1n_le  (x) : Le (poker_Counts_K1n x) (poker_Counts_K1 x) := by
  unfold poker_Counts_K1n poker_Counts_K1
  try dsimp only
  repeat' (first | with_reducible exact Le.refl _ | with_reducible exact poker_Counts_J2n_le _ | with_reducible refine Le.asrt ?_ | with_reducible refine Le.ite ?_ ?_ | refine Le.bind ?_ (fun _ => ?_) | refine Le.loopNq (fun _ => ?_))

def poker_Counts_L1n  : (List Int × Int) → Option (St (List Int × Int) (List Int)) :=
  fun (x : (List Int × Int)) => match x with | (n2, z1) => if (decide (z1 < 8)) then ((poker_Counts_J3n n2 z1)) else (some (.done n2))

theorem poker_Counts_L1n_le  (x) : Le (poker_Counts_L1n x) (poker_Counts_L1 x) := by
  unfold poker_Counts_L1n poker_Counts_L1
  try dsimp only
  repeat' (first | with_reducible exact Le.refl _ | with_reducible exact poker_Counts_J3n_le _ _ | with_reducible refine Le.asrt ?_ | with_reducible refine Le.ite ?_ ?_ | refine Le.bind ?_ (fun _ => ?_) | refine Le.loopNq (fun _ => ?_))

def poker_Counts_J1n  (n1 : List Int) : Option (List Int) :=
  asrt (0 ≤ (8 : Int) ∧ (8 : Int) < 9) <| asrt (0 ≤ (4 : Int) ∧ (4 : Int) < 9) <| asrt (4 < (n1.length : Int)) <| (poker_over_mn 4 3).bind fun r4 => (poker_over_mn 12 2).bind fun r5 => asrt (0 ≤ (3 : Int) ∧ (3 : Int) < 9) <| asrt (3 < ((n1.set (Int.toNat 4) (w64 (10240 - (geti n1 8)))).length : Int)) <| (poker_over_mn 13 2).bind fun r6 => (poker_over_mn 4 2).bind fun r7 => (poker_over_mn 4 2).bind fun r8 => asrt (0 ≤ (2 : Int) ∧ (2 : Int) < 9) <| asrt (2 < (((n1.set (Int.toNat 4) (w64 (10240 - (geti n1 8)))).set (Int.toNat 3) (w64 ((w64 ((w64 (13 * r4)) * r5)) * 16))).length : Int)) <| (poker_over_mn 4 2).bind fun r9 => (poker_over_mn 12 3).bind fun r10 => asrt (0 ≤ (1 : Int) ∧ (1 : Int) < 9) <| asrt (1 < ((((n1.set (Int.toNat 4) (w64 (10240 - (geti n1 8)))).set (Int.toNat 3) (w64 ((w64 ((w64 (13 * r4)) * r5)) * 16))).set (Int.toNat 2) (w64 ((w64 ((w64 (r6 * r7)) * r8)) * 44))).length : Int)) <| (poker_over_mn 52 5).bind fun r11 => asrt (0 ≤ (0 : Int) ∧ (0 : Int) < 9) <| asrt (0 < (((((n1.set (Int.toNat 4) (w64 (10240 - (geti n1 8)))).set (Int.toNat 3) (w64 ((w64 ((w64 (13 * r4)) * r5)) * 16))).set (Int.toNat 2) (w64 ((w64 ((w64 (r6 * r7)) * r8)) * 44))).set (Int.toNat 1) (w64 ((w64 ((w64 (13 * r9)) * r10)) * 64))).length : Int)) <| (loopN poker_Counts_L1n 20 ((((((n1.set (Int.toNat 4) (w64 (10240 - (geti n1 8)))).set (Int.toNat 3) (w64 ((w64 ((w64 (13 * r4)) * r5)) * 16))).set (Int.toNat 2) (w64 ((w64 ((w64 (r6 * r7)) * r8)) * 44))).set (Int.toNat 1) (w64 ((w64 ((w64 (13 * r9)) * r10)) * 64))).set (Int.toNat 0) r11), 0)).bind poker_Counts_K1n

theorem poker_Counts_J1n_le  (n1 : List Int) : Le (poker_Counts_J1n n1) (poker_Counts_J1 n1) := by
  unfold poker_Counts_J1n poker_Counts_J1
  repeat' (first | with_reducible exact Le.refl _ | with_reducible exact poker_over_mn_le _ _ | with_reducible exact poker_Counts_K1n_le _ | with_reducible exact poker_Counts_L1n_le _ | with_reducible refine Le.asrt ?_ | with_reducible refine Le.ite ?_ ?_ | refine Le.bind ?_ (fun _ => ?_) | refine Le.loopNq (fun _ => ?_))

def poker_Counts_mn  : Option (List Int) :=
  asrt (0 ≤ (8 : Int) ∧ (8 : Int) < 9) <| asrt (8 < ((List.replicate 9 (0 : Int)).length : Int)) <| asrt (0 ≤ (7 : Int) ∧ (7 : Int) < 9) <| asrt (7 < (((List.replicate 9 (0 : Int)).set (Int.toNat 8) 40).length : Int)) <| (poker_over_mn 4 3).bind fun r1 => (poker_over_mn 4 2).bind fun r2 => asrt (0 ≤ (6 : Int) ∧ (6 : Int) < 9) <| asrt (6 < ((((List.replicate 9 (0 : Int)).set (Int.toNat 8) 40).set (Int.toNat 7) 624).length : Int)) <| asrt (0 ≤ (8 : Int) ∧ (8 : Int) < 9) <| (poker_over_mn 13 5).bind fun r3 => asrt (0 ≤ (5 : Int) ∧ (5 : Int) < 9) <| asrt (5 < (((((List.replicate 9 (0 : Int)).set (Int.toNat 8) 40).set (Int.toNat 7) 624).set (Int.toNat 6) (w64 ((w64 ((w64 (13 * r1)) * 12)) * r2))).length : Int)) <| poker_Counts_J1n (((((List.replicate 9 (0 : Int)).set (Int.toNat 8) 40).set (Int.toNat 7) 624).set (Int.toNat 6) (w64 ((w64 ((w64 (13 * r1)) * 12)) * r2))).set (Int.toNat 5) (w64 ((w64 (4 * r3)) - (geti ((((List.replicate 9 (0 : Int)).set (Int.toNat 8) 40).set (Int.toNat 7) 624).set (Int.toNat 6) (w64 ((w64 ((w64 (13 * r1)) * 12)) * r2))) 8))))

theorem poker_Counts_mn_le  : Le (poker_Counts_mn) (poker_Counts_m) := by
  unfold poker_Counts_mn poker_Counts_m
  repeat' (first | with_reducible exact Le.refl _ | with_reducible exact poker_over_mn_le _ _ | with_reducible exact poker_Counts_J1n_le _ | with_reducible refine Le.asrt ?_ | with_reducible refine Le.ite ?_ ?_ | refine Le.bind ?_ (fun _ => ?_) | refine Le.loopNq (fun _ => ?_))

def gameroomref_HandValue_J18n  (signs7 : List Int) : Option (St (List Int) (List Int)) :=
  asrt ((signs7.length : Int) + 1 ≤ bigN) <| some (.next (signs7 ++ ([0] : List Int)))

theorem gameroomref_HandValue_J18n_le  (signs7 : List Int) : Le (gameroomref_HandValue_J18n signs7) (gameroomref_HandValue_J18 signs7) := by
  unfold gameroomref_HandValue_J18n gameroomref_HandValue_J18
  repeat' (first | with_reducible exact Le.refl _ | with_reducible exact Le.refl _ | with_reducible refine Le.asrt ?_ | with_reducible refine Le.ite ?_ ?_ | refine Le.bind ?_ (fun _ => ?_) | refine Le.loopNq (fun _ => ?_))

def gameroomref_HandValue_L6n  : (List Int) → Option (St (List Int) (List Int)) :=
  fun (x : (List Int)) => match x with | signs7 => if (decide ((signs7.length : Int) < 5)) then ((gameroomref_HandValue_J18n signs7)) else (some (.done signs7))

theorem gameroomref_HandValue_L6n_le  (x) : Le (gameroomref_HandValue_L6n x) (gameroomref_HandValue_L6 x) := by
  unfold gameroomref_HandValue_L6n gameroomref_HandValue_L6
  try dsimp only
  repeat' (first | with_reducible exact Le.refl _ | with_reducible exact gameroomref_HandValue_J18n_le _ | with_reducible refine Le.asrt ?_ | with_reducible refine Le.ite ?_ ?_ | refine Le.bind ?_ (fun _ => ?_) | refine Le.loopNq (fun _ => ?_))

def gameroomref_HandValue_J21n  (signs8 : List Int) (v1 : Int) (i2 : Int) : Option (St (Int × Int) Int) :=
  some (.next ((w64 ((w64 (13 * v1)) + (geti signs8 i2))), (w64 (i2 + 1))))

theorem gameroomref_HandValue_J21n_le  (signs8 : List Int) (v1 : Int) (i2 : Int) : Le (gameroomref_HandValue_J21n signs8 v1 i2) (gameroomref_HandValue_J21 signs8 v1 i2) := by
  unfold gameroomref_HandValue_J21n gameroomref_HandValue_J21
  repeat' (first | with_reducible exact Le.refl _ | with_reducible exact Le.refl _ | with_reducible refine Le.asrt ?_ | with_reducible refine Le.ite ?_ ?_ | refine Le.bind ?_ (fun _ => ?_) | refine Le.loopNq (fun _ => ?_))

def gameroomref_HandValue_J20n  (signs8 : List Int) (v1 : Int) (i2 : Int) : Option (St (Int × Int) Int) :=
  asrt (0 ≤ i2 ∧ i2 < (signs8.length : Int)) <| (gameroomref_HandValue_J21n signs8 v1 i2)

theorem gameroomref_HandValue_J20n_le  (signs8 : List Int) (v1 : Int) (i2 : Int) : Le (gameroomref_HandValue_J20n signs8 v1 i2) (gameroomref_HandValue_J20 signs8 v1 i2) := by
  unfold gameroomref_HandValue_J20n gameroomref_HandValue_J20
  repeat' (first | with_reducible exact Le.refl _ | with_reducible exact gameroomref_HandValue_J21n_le _ _ _ | with_reducible refine Le.asrt ?_ | with_reducible refine Le.ite ?_ ?_ | refine Le.bind ?_ (fun _ => ?_) | refine Le.loopNq (fun _ => ?_))

def gameroomref_HandValue_L7n  (signs8 : List Int) : (Int × Int) → Option (St (Int × Int) Int) :=
  fun (x : (Int × Int)) => match x with | (v1, i2) => if (decide (i2 < 5)) then ((gameroomref_HandValue_J20n signs8 v1 i2)) else (some (.done v1))

theorem gameroomref_HandValue_L7n_le  (signs8 : List Int) (x) : Le (gameroomref_HandValue_L7n signs8 x) (gameroomref_HandValue_L7 signs8 x) := by
  unfold gameroomref_HandValue_L7n gameroomref_HandValue_L7
  try dsimp only
  repeat' (first | with_reducible exact Le.refl _ | with_reducible exact gameroomref_HandValue_J20n_le _ _ _ | with_reducible refine Le.asrt ?_ | with_reducible refine Le.ite ?_ ?_ | refine Le.bind ?_ (fun _ => ?_) | refine Le.loopNq (fun _ => ?_))

def gameroomref_HandValue_J19n  (v2 : Int) : Option Int :=
  some v2

theorem gameroomref_HandValue_J19n_le  (v2 : Int) : Le (gameroomref_HandValue_J19n v2) (gameroomref_HandValue_J19 v2) := by
  unfold gameroomref_HandValue_J19n gameroomref_HandValue_J19
  repeat' (first | with_reducible exact Le.refl _ | with_reducible exact Le.refl _ | with_reducible refine Le.asrt ?_ | with_reducible refine Le.ite ?_ ?_ | refine Le.bind ?_ (fun _ => ?_) | refine Le.loopNq (fun _ => ?_))

def gameroomref_HandValue_K7n  : Int → Option Int :=
  fun (x : Int) => match x with | v2 => gameroomref_HandValue_J19n v2

theorem gameroomref_HandValue_K7n_le  (x) : Le (gameroomref_HandValue_K7n x) (gameroomref_HandValue_K7 x) := by
  unfold gameroomref_HandValue_K7n gameroomref_HandValue_K7
  try dsimp only
  repeat' (first | with_reducible exact Le.refl _ | with_reducible exact gameroomref_HandValue_J19n_le _ | with_reducible refine Le.asrt ?_ | with_reducible refine Le.ite ?_ ?_ | refine Le.bind ?_ (fun _ => ?_) | refine Le.loopNq (fun _ => ?_))

def gameroomref_HandValue_J17n  (class1 : Int) (signs8 : List Int) : Option Int :=
  (loopN (gameroomref_HandValue_L7n signs8) 20 (class1, 0)).bind gameroomref_HandValue_K7n

theorem gameroomref_HandValue_J17n_le  (class1 : Int) (signs8 : List Int) : Le (gameroomref_HandValue_J17n class1 signs8) (gameroomref_HandValue_J17 class1 signs8) := by
  unfold gameroomref_HandValue_J17n gameroomref_HandValue_J17
  repeat' (first | with_reducible exact Le.refl _ | with_reducible exact gameroomref_HandValue_L7n_le _ _ | with_reducible exact gameroomref_HandValue_K7n_le _ | with_reducible refine Le.asrt ?_ | with_reducible refine Le.ite ?_ ?_ | refine Le.bind ?_ (fun _ => ?_) | refine Le.loopNq (fun _ => ?_))

def gameroomref_HandValue_K6n  (class1 : Int) : (List Int) → Option Int :=
  fun (x : (List Int)) => match x with | signs8 => (gameroomref_HandValue_J17n class1) signs8

theorem gameroomref_HandValue_K6n_le  (class1 : Int) (x) : Le (gameroomref_HandValue_K6n class1 x) (gameroomref_HandValue_K6 class1 x) := by
  unfold gameroomref_HandValue_K6n gameroomref_HandValue_K6
  try dsimp only
  repeat' (first | with_reducible exact Le.refl _ | with_reducible exact gameroomref_HandValue_J17n_le _ _ | with_reducible refine Le.asrt ?_ | with_reducible refine Le.ite ?_ ?_ | refine Le.bind ?_ (fun _ => ?_) | refine Le.loopNq (fun _ => ?_))

def gameroomref_HandValue_J16n  (class1 : Int) (signs6 : List Int) : Option Int :=
  (loopN gameroomref_HandValue_L6n 20 signs6).bind (gameroomref_HandValue_K6n class1)

theorem gameroomref_HandValue_J16n_le  (class1 : Int) (signs6 : List Int) : Le (gameroomref_HandValue_J16n class1 signs6) (gameroomref_HandValue_J16 class1 signs6) := by
  unfold gameroomref_HandValue_J16n gameroomref_HandValue_J16
  repeat' (first | with_reducible exact Le.refl _ | with_reducible exact gameroomref_HandValue_L6n_le _ | with_reducible exact gameroomref_HandValue_K6n_le _ _ | with_reducible refine Le.asrt ?_ | with_reducible refine Le.ite ?_ ?_ | refine Le.bind ?_ (fun _ => ?_) | refine Le.loopNq (fun _ => ?_))

def gameroomref_HandValue_J15n  (signs2 : List Int) (top2 : Int) (class1 : Int) : Option Int :=
  if (decide ((0 : Int) ≤ top2)) then ((gameroomref_HandValue_J16n class1) ([top2] : List Int)) else ((gameroomref_HandValue_J16n class1) signs2)

theorem gameroomref_HandValue_J15n_le  (signs2 : List Int) (top2 : Int) (class1 : Int) : Le (gameroomref_HandValue_J15n signs2 top2 class1) (gameroomref_HandValue_J15 signs2 top2 class1) := by
  unfold gameroomref_HandValue_J15n gameroomref_HandValue_J15
  repeat' (first | with_reducible exact Le.refl _ | with_reducible exact gameroomref_HandValue_J16n_le _ _ | with_reducible refine Le.asrt ?_ | with_reducible refine Le.ite ?_ ?_ | refine Le.bind ?_ (fun _ => ?_) | refine Le.loopNq (fun _ => ?_))

def gameroomref_HandValue_J9n  (many2 : List Int) (flush2 : Bool) (signs2 : List Int) (top2 : Int) : Option Int :=
  if ((decide ((0 : Int) ≤ top2)) && flush2) then ((gameroomref_HandValue_J15n signs2 top2) 8) else (asrt (0 ≤ (0 : Int) ∧ (0 : Int) < (signs2.length : Int)) <| asrt (0 ≤ (geti signs2 0) ∧ (geti signs2 0) < (((Int.toNat 13) : Nat) : Int)) <| if ((geti many2 (geti signs2 0)) == 4) then ((gameroomref_HandValue_J15n signs2 top2) 7) else (asrt (0 ≤ (0 : Int) ∧ (0 : Int) < (signs2.length : Int)) <| asrt (0 ≤ (geti signs2 0) ∧ (geti signs2 0) < (((Int.toNat 13) : Nat) : Int)) <| asrt (((geti many2 (geti signs2 0)) == 3) = true → 0 ≤ (1 : Int) ∧ (1 : Int) < (signs2.length : Int)) <| asrt (((geti many2 (geti signs2 0)) == 3) = true → 0 ≤ (geti signs2 1) ∧ (geti signs2 1) < (((Int.toNat 13) : Nat) : Int)) <| if (((geti many2 (geti signs2 0)) == 3) && ((geti many2 (geti signs2 1)) == 2)) then ((gameroomref_HandValue_J15n signs2 top2) 6) else (if flush2 then ((gameroomref_HandValue_J15n signs2 top2) 5) else (if (decide ((0 : Int) ≤ top2)) then ((gameroomref_HandValue_J15n signs2 top2) 4) else (asrt (0 ≤ (0 : Int) ∧ (0 : Int) < (signs2.length : Int)) <| asrt (0 ≤ (geti signs2 0) ∧ (geti signs2 0) < (((Int.toNat 13) : Nat) : Int)) <| if ((geti many2 (geti signs2 0)) == 3) then ((gameroomref_HandValue_J15n signs2 top2) 3) else (asrt (0 ≤ (0 : Int) ∧ (0 : Int) < (signs2.length : Int)) <| asrt (0 ≤ (geti signs2 0) ∧ (geti signs2 0) < (((Int.toNat 13) : Nat) : Int)) <| asrt (((geti many2 (geti signs2 0)) == 2) = true → 0 ≤ (1 : Int) ∧ (1 : Int) < (signs2.length : Int)) <| asrt (((geti many2 (geti signs2 0)) == 2) = true → 0 ≤ (geti signs2 1) ∧ (geti signs2 1) < (((Int.toNat 13) : Nat) : Int)) <| if (((geti many2 (geti signs2 0)) == 2) && ((geti many2 (geti signs2 1)) == 2)) then ((gameroomref_HandValue_J15n signs2 top2) 2) else (asrt (0 ≤ (0 : Int) ∧ (0 : Int) < (signs2.length : Int)) <| asrt (0 ≤ (geti signs2 0) ∧ (geti signs2 0) < (((Int.toNat 13) : Nat) : Int)) <| if ((geti many2 (geti signs2 0)) == 2) then ((gameroomref_HandValue_J15n signs2 top2) 1) else ((gameroomref_HandValue_J15n signs2 top2) 0))))))))

theorem gameroomref_HandValue_J9n_le  (many2 : List Int) (flush2 : Bool) (signs2 : List Int) (top2 : Int) : Le (gameroomref_HandValue_J9n many2 flush2 signs2 top2) (gameroomref_HandValue_J9 many2 flush2 signs2 top2) := by
  unfold gameroomref_HandValue_J9n gameroomref_HandValue_J9
  repeat' (first | with_reducible exact Le.refl _ | with_reducible exact gameroomref_HandValue_J15n_le _ _ _ | with_reducible refine Le.asrt ?_ | with_reducible refine Le.ite ?_ ?_ | refine Le.bind ?_ (fun _ => ?_) | refine Le.loopNq (fun _ => ?_))

end Go.Proofs.Ytnplejebgbdfpaa
