/-
  The models with fuel: what can be reckoned by the kernel.
-/
import Derived.Test.YtlpaklmfgldkoaaNMG
import Derived.Test.YtlpaklmfgldkoaaLibY
namespace Go.Proofs.Ytlpaklmfgldkoaa
open Go Go.GL

theorem _root_.Go.GL.Le.loopN' {S R : Type} {step step' : S → Option (St S R)} {s : S} {n : Nat} (h : ∀ s, Le (step s) (step' s)) : Le (GL.loopN step n s) (GL.loop step' s) := fun r hr => loop_of (Le.loopN2 h n s r hr)

def magic_odd_J3n  (n1 : Int) (l1 : List Int) (x1 : Int) (y1 : Int) (v1 : Int) (x2 : Int) (y2 : Int) : Option (St (List Int × Int × Int × Int) (List Int)) :=
  some (.next ((l1.set (Int.toNat (w64 ((w64 (y1 * n1)) + x1))) v1), x2, y2, (w64 (v1 + 1))))

theorem magic_odd_J3n_le  (n1 : Int) (l1 : List Int) (x1 : Int) (y1 : Int) (v1 : Int) (x2 : Int) (y2 : Int) : Le (magic_odd_J3n n1 l1 x1 y1 v1 x2 y2) (magic_odd_J3 n1 l1 x1 y1 v1 x2 y2) := by
  unfold magic_odd_J3n magic_odd_J3
  repeat' (first | with_reducible exact Le.refl _ | with_reducible exact Le.refl _ | with_reducible refine Le.asrt ?_ | with_reducible refine Le.ite ?_ ?_ | refine Le.bind ?_ (fun _ => ?_) | refine Le.loopN' (fun _ => ?_))

def magic_odd_J4n  (n1 : Int) (l1 : List Int) (x1 : Int) (y1 : Int) (v1 : Int) (a1 : Int) (b1 : Int) : Option (St (List Int × Int × Int × Int) (List Int)) :=
  (magic_odd_J3n n1 l1 x1 y1 v1) a1 b1

theorem magic_odd_J4n_le  (n1 : Int) (l1 : List Int) (x1 : Int) (y1 : Int) (v1 : Int) (a1 : Int) (b1 : Int) : Le (magic_odd_J4n n1 l1 x1 y1 v1 a1 b1) (magic_odd_J4 n1 l1 x1 y1 v1 a1 b1) := by
  unfold magic_odd_J4n magic_odd_J4
  repeat' (first | with_reducible exact Le.refl _ | with_reducible exact magic_odd_J3n_le _ _ _ _ _ _ _ | with_reducible refine Le.asrt ?_ | with_reducible refine Le.ite ?_ ?_ | refine Le.bind ?_ (fun _ => ?_) | refine Le.loopN' (fun _ => ?_))

def magic_odd_J2n  (n1 : Int) (l1 : List Int) (x1 : Int) (y1 : Int) (v1 : Int) : Option (St (List Int × Int × Int × Int) (List Int)) :=
  asrt (0 ≤ (w64 ((w64 (y1 * n1)) + x1)) ∧ (w64 ((w64 (y1 * n1)) + x1)) < (((Int.toNat (w64 (n1 * n1))) : Nat) : Int)) <| asrt (n1 ≠ (0 : Int)) <| asrt (n1 ≠ (0 : Int)) <| asrt (0 ≤ (w64 ((w64 ((Int.tmod (w64 ((w64 (y1 + n1)) - 1)) n1) * n1)) + (Int.tmod (w64 (x1 + 1)) n1))) ∧ (w64 ((w64 ((Int.tmod (w64 ((w64 (y1 + n1)) - 1)) n1) * n1)) + (Int.tmod (w64 (x1 + 1)) n1))) < (((Int.toNat (w64 (n1 * n1))) : Nat) : Int)) <| if ((geti (l1.set (Int.toNat (w64 ((w64 (y1 * n1)) + x1))) v1) (w64 ((w64 ((Int.tmod (w64 ((w64 (y1 + n1)) - 1)) n1) * n1)) + (Int.tmod (w64 (x1 + 1)) n1)))) != 0) then (asrt (n1 ≠ (0 : Int)) <| (magic_odd_J4n n1 l1 x1 y1 v1) x1 (Int.tmod (w64 (y1 + 1)) n1)) else ((magic_odd_J4n n1 l1 x1 y1 v1) (Int.tmod (w64 (x1 + 1)) n1) (Int.tmod (w64 ((w64 (y1 + n1)) - 1)) n1))

theorem magic_odd_J2n_le  (n1 : Int) (l1 : List Int) (x1 : Int) (y1 : Int) (v1 : Int) : Le (magic_odd_J2n n1 l1 x1 y1 v1) (magic_odd_J2 n1 l1 x1 y1 v1) := by
  unfold magic_odd_J2n magic_odd_J2
  repeat' (first | with_reducible exact Le.refl _ | with_reducible exact magic_odd_J4n_le _ _ _ _ _ _ _ | with_reducible refine Le.asrt ?_ | with_reducible refine Le.ite ?_ ?_ | refine Le.bind ?_ (fun _ => ?_) | refine Le.loopN' (fun _ => ?_))

def magic_odd_J1n  (l2 : List Int) : Option (List Int) :=
  some l2

theorem magic_odd_J1n_le  (l2 : List Int) : Le (magic_odd_J1n l2) (magic_odd_J1 l2) := by
  unfold magic_odd_J1n magic_odd_J1
  repeat' (first | with_reducible exact Le.refl _ | with_reducible exact Le.refl _ | with_reducible refine Le.asrt ?_ | with_reducible refine Le.ite ?_ ?_ | refine Le.bind ?_ (fun _ => ?_) | refine Le.loopN' (fun _ => ?_))

def magic_odd_K1n  : (List Int) → Option (List Int) :=
  fun (x : (List Int)) => match x with | l2 => magic_odd_J1n l2

theorem magic_odd_K1n_le  (x) : Le (magic_odd_K1n x) (magic_odd_K1 x) := by
  unfold magic_odd_K1n magic_odd_K1
  try dsimp only
  repeat' (first | with_reducible exact Le.refl _ | with_reducible exact magic_odd_J1n_le _ | with_reducible refine Le.asrt ?_ | with_reducible refine Le.ite ?_ ?_ | refine Le.bind ?_ (fun _ => ?_) | refine Le.loopN' (fun _ => ?_))

def magic_odd_L1n  (n1 : Int) : (List Int × Int × Int × Int) → Option (St (List Int × Int × Int × Int) (List Int)) :=
  fun (x : (List Int × Int × Int × Int)) => match x with | (l1, x1, y1, v1) => if (decide (v1 ≤ (w64 (n1 * n1)))) then ((magic_odd_J2n n1 l1 x1 y1 v1)) else (some (.done l1))

theorem magic_odd_L1n_le  (n1 : Int) (x) : Le (magic_odd_L1n n1 x) (magic_odd_L1 n1 x) := by
  unfold magic_odd_L1n magic_odd_L1
  try dsimp only
  repeat' (first | with_reducible exact Le.refl _ | with_reducible exact magic_odd_J2n_le _ _ _ _ _ | with_reducible refine Le.asrt ?_ | with_reducible refine Le.ite ?_ ?_ | refine Le.bind ?_ (fun _ => ?_) | refine Le.loopN' (fun _ => ?_))

def magic_odd_mn  (n1 : Int) : Option (List Int) :=
  asrt ((0 : Int) ≤ (w64 (n1 * n1)) ∧ (w64 (n1 * n1)) ≤ bigN) <| (loopN (magic_odd_L1n n1) 150 ((List.replicate (Int.toNat (w64 (n1 * n1))) (0 : Int)), (w64 (Int.tdiv n1 2)), 0, 1)).bind magic_odd_K1n

theorem magic_odd_mn_le  (n1 : Int) : Le (magic_odd_mn n1) (magic_odd_m n1) := by
  unfold magic_odd_mn magic_odd_m
  repeat' (first | with_reducible exact Le.refl _ | with_reducible exact magic_odd_K1n_le _ | with_reducible exact magic_odd_L1n_le _ _ | with_reducible refine Le.asrt ?_ | with_reducible refine Le.ite ?_ ?_ | refine Le.bind ?_ (fun _ => ?_) | refine Le.loopN' (fun _ => ?_))

def magic_double_J3n  (z1 : Int) (l3 : List Int) : Option (St (List Int × Int) (List Int)) :=
  some (.next (l3, (w64 (z1 + 1))))

theorem magic_double_J3n_le  (z1 : Int) (l3 : List Int) : Le (magic_double_J3n z1 l3) (magic_double_J3 z1 l3) := by
  unfold magic_double_J3n magic_double_J3
  repeat' (first | with_reducible exact Le.refl _ | with_reducible exact Le.refl _ | with_reducible refine Le.asrt ?_ | with_reducible refine Le.ite ?_ ?_ | refine Le.bind ?_ (fun _ => ?_) | refine Le.loopN' (fun _ => ?_))

def magic_double_J2n  (n1 : Int) (l1 : List Int) (z1 : Int) : Option (St (List Int × Int) (List Int)) :=
  asrt (n1 ≠ (0 : Int)) <| asrt (n1 ≠ (0 : Int)) <| asrt (0 ≤ z1 ∧ z1 < (((Int.toNat (w64 (n1 * n1))) : Nat) : Int)) <| if (((Int.tmod (Int.tmod z1 n1) 4) == (Int.tmod (w64 (Int.tdiv z1 n1)) 4)) || ((w64 ((Int.tmod (Int.tmod z1 n1) 4) + (Int.tmod (w64 (Int.tdiv z1 n1)) 4))) == 3)) then (asrt (0 ≤ z1 ∧ z1 < (((Int.toNat (w64 (n1 * n1))) : Nat) : Int)) <| (magic_double_J3n z1) ((l1.set (Int.toNat z1) (w64 (z1 + 1))).set (Int.toNat z1) (w64 ((w64 (n1 * n1)) - z1)))) else ((magic_double_J3n z1) (l1.set (Int.toNat z1) (w64 (z1 + 1))))

theorem magic_double_J2n_le  (n1 : Int) (l1 : List Int) (z1 : Int) : Le (magic_double_J2n n1 l1 z1) (magic_double_J2 n1 l1 z1) := by
  unfold magic_double_J2n magic_double_J2
  repeat' (first | with_reducible exact Le.refl _ | with_reducible exact magic_double_J3n_le _ _ | with_reducible refine Le.asrt ?_ | with_reducible refine Le.ite ?_ ?_ | refine Le.bind ?_ (fun _ => ?_) | refine Le.loopN' (fun _ => ?_))

def magic_double_J1n  (l2 : List Int) : Option (List Int) :=
  some l2

theorem magic_double_J1n_le  (l2 : List Int) : Le (magic_double_J1n l2) (magic_double_J1 l2) := by
  unfold magic_double_J1n magic_double_J1
  repeat' (first | with_reducible exact Le.refl _ | with_reducible exact Le.refl _ | with_reducible refine Le.asrt ?_ | with_reducible refine Le.ite ?_ ?_ | refine Le.bind ?_ (fun _ => ?_) | refine Le.loopN' (fun _ => ?_))

def magic_double_K1n  : (List Int) → Option (List Int) :=
  fun (x : (List Int)) => match x with | l2 => magic_double_J1n l2

theorem magic_double_K1n_le  (x) : Le (magic_double_K1n x) (magic_double_K1 x) := by
  unfold magic_double_K1n magic_double_K1
  try dsimp only
  repeat' (first | with_reducible exact Le.refl _ | with_reducible exact magic_double_J1n_le _ | with_reducible refine Le.asrt ?_ | with_reducible refine Le.ite ?_ ?_ | refine Le.bind ?_ (fun _ => ?_) | refine Le.loopN' (fun _ => ?_))

def magic_double_L1n  (n1 : Int) : (List Int × Int) → Option (St (List Int × Int) (List Int)) :=
  fun (x : (List Int × Int)) => match x with | (l1, z1) => if (decide (z1 < (((Int.toNat (w64 (n1 * n1))) : Nat) : Int))) then ((magic_double_J2n n1 l1 z1)) else (some (.done l1))

theorem magic_double_L1n_le  (n1 : Int) (x) : Le (magic_double_L1n n1 x) (magic_double_L1 n1 x) := by
  unfold magic_double_L1n magic_double_L1
  try dsimp only
  repeat' (first | with_reducible exact Le.refl _ | with_reducible exact magic_double_J2n_le _ _ _ | with_reducible refine Le.asrt ?_ | with_reducible refine Le.ite ?_ ?_ | refine Le.bind ?_ (fun _ => ?_) | refine Le.loopN' (fun _ => ?_))

def magic_double_mn  (n1 : Int) : Option (List Int) :=
  asrt ((0 : Int) ≤ (w64 (n1 * n1)) ∧ (w64 (n1 * n1)) ≤ bigN) <| (loopN (magic_double_L1n n1) 150 ((List.replicate (Int.toNat (w64 (n1 * n1))) (0 : Int)), 0)).bind magic_double_K1n

theorem magic_double_mn_le  (n1 : Int) : Le (magic_double_mn n1) (magic_double_m n1) := by
  unfold magic_double_mn magic_double_m
  repeat' (first | with_reducible exact Le.refl _ | with_reducible exact magic_double_K1n_le _ | with_reducible exact magic_double_L1n_le _ _ | with_reducible refine Le.asrt ?_ | with_reducible refine Le.ite ?_ ?_ | refine Le.bind ?_ (fun _ => ?_) | refine Le.loopN' (fun _ => ?_))

def magic_single_J8n  (n1 : Int) (r1 : (List Int)) (z1 : Int) (z2 : Int) (lux1 : List Int) (l5 : List Int) (z3 : Int) : Option (St (List Int × Int) (List Int)) :=
  some (.next ((l5.set (Int.toNat (w64 ((w64 ((w64 ((w64 ((w64 (2 * z1)) + (w64 (Int.tdiv z3 2)))) * n1)) + (w64 (2 * z2)))) + (Int.tmod z3 2)))) (w64 ((w64 (4 * (w64 ((geti r1 (w64 ((w64 (z1 * (w64 (Int.tdiv n1 2)))) + z2))) - 1)))) + (geti lux1 z3)))), (w64 (z3 + 1))))

theorem magic_single_J8n_le  (n1 : Int) (r1 : (List Int)) (z1 : Int) (z2 : Int) (lux1 : List Int) (l5 : List Int) (z3 : Int) : Le (magic_single_J8n n1 r1 z1 z2 lux1 l5 z3) (magic_single_J8 n1 r1 z1 z2 lux1 l5 z3) := by
  unfold magic_single_J8n magic_single_J8
  repeat' (first | with_reducible exact Le.refl _ | with_reducible exact Le.refl _ | with_reducible refine Le.asrt ?_ | with_reducible refine Le.ite ?_ ?_ | refine Le.bind ?_ (fun _ => ?_) | refine Le.loopN' (fun _ => ?_))

def magic_single_J7n  (n1 : Int) (r1 : (List Int)) (z1 : Int) (z2 : Int) (lux1 : List Int) (l5 : List Int) (z3 : Int) : Option (St (List Int × Int) (List Int)) :=
  asrt (0 ≤ z3 ∧ z3 < 4) <| asrt (0 ≤ (w64 ((w64 (z1 * (w64 (Int.tdiv n1 2)))) + z2)) ∧ (w64 ((w64 (z1 * (w64 (Int.tdiv n1 2)))) + z2)) < (r1.length : Int)) <| asrt (0 ≤ (w64 ((w64 ((w64 ((w64 ((w64 (2 * z1)) + (w64 (Int.tdiv z3 2)))) * n1)) + (w64 (2 * z2)))) + (Int.tmod z3 2))) ∧ (w64 ((w64 ((w64 ((w64 ((w64 (2 * z1)) + (w64 (Int.tdiv z3 2)))) * n1)) + (w64 (2 * z2)))) + (Int.tmod z3 2))) < (((Int.toNat (w64 (n1 * n1))) : Nat) : Int)) <| (magic_single_J8n n1 r1 z1 z2 lux1 l5 z3)

theorem magic_single_J7n_le  (n1 : Int) (r1 : (List Int)) (z1 : Int) (z2 : Int) (lux1 : List Int) (l5 : List Int) (z3 : Int) : Le (magic_single_J7n n1 r1 z1 z2 lux1 l5 z3) (magic_single_J7 n1 r1 z1 z2 lux1 l5 z3) := by
  unfold magic_single_J7n magic_single_J7
  repeat' (first | with_reducible exact Le.refl _ | with_reducible exact magic_single_J8n_le _ _ _ _ _ _ _ | with_reducible refine Le.asrt ?_ | with_reducible refine Le.ite ?_ ?_ | refine Le.bind ?_ (fun _ => ?_) | refine Le.loopN' (fun _ => ?_))

def magic_single_J5n  (z2 : Int) (l6 : List Int) : Option (St (List Int × Int) (List Int)) :=
  some (.next (l6, (w64 (z2 + 1))))

theorem magic_single_J5n_le  (z2 : Int) (l6 : List Int) : Le (magic_single_J5n z2 l6) (magic_single_J5 z2 l6) := by
  unfold magic_single_J5n magic_single_J5
  repeat' (first | with_reducible exact Le.refl _ | with_reducible exact Le.refl _ | with_reducible refine Le.asrt ?_ | with_reducible refine Le.ite ?_ ?_ | refine Le.bind ?_ (fun _ => ?_) | refine Le.loopN' (fun _ => ?_))

def magic_single_K3n  (z2 : Int) : (List Int) → Option (St (List Int × Int) (List Int)) :=
  fun (x : (List Int)) => match x with | l6 => (magic_single_J5n z2) l6

theorem magic_single_K3n_le  (z2 : Int) (x) : Le (magic_single_K3n z2 x) (magic_single_K3 z2 x) := by
  unfold magic_single_K3n magic_single_K3
  try dsimp only
  repeat' (first | with_reducible exact Le.refl _ | with_reducible exact magic_single_J5n_le _ _ | with_reducible refine Le.asrt ?_ | with_reducible refine Le.ite ?_ ?_ | refine Le.bind ?_ (fun _ => ?_) | refine Le.loopN' (fun _ => ?_))

def magic_single_L3n  (n1 : Int) (r1 : (List Int)) (z1 : Int) (z2 : Int) (lux1 : List Int) : (List Int × Int) → Option (St (List Int × Int) (List Int)) :=
  fun (x : (List Int × Int)) => match x with | (l5, z3) => if (decide (z3 < 4)) then ((magic_single_J7n n1 r1 z1 z2 lux1 l5 z3)) else (some (.done l5))

theorem magic_single_L3n_le  (n1 : Int) (r1 : (List Int)) (z1 : Int) (z2 : Int) (lux1 : List Int) (x) : Le (magic_single_L3n n1 r1 z1 z2 lux1 x) (magic_single_L3 n1 r1 z1 z2 lux1 x) := by
  unfold magic_single_L3n magic_single_L3
  try dsimp only
  repeat' (first | with_reducible exact Le.refl _ | with_reducible exact magic_single_J7n_le _ _ _ _ _ _ _ | with_reducible refine Le.asrt ?_ | with_reducible refine Le.ite ?_ ?_ | refine Le.bind ?_ (fun _ => ?_) | refine Le.loopN' (fun _ => ?_))

def magic_single_J6n  (n1 : Int) (r1 : (List Int)) (z1 : Int) (l3 : List Int) (z2 : Int) (lux1 : List Int) : Option (St (List Int × Int) (List Int)) :=
  (loopN (magic_single_L3n n1 r1 z1 z2 lux1) 150 (l3, 0)).bind (magic_single_K3n z2)

theorem magic_single_J6n_le  (n1 : Int) (r1 : (List Int)) (z1 : Int) (l3 : List Int) (z2 : Int) (lux1 : List Int) : Le (magic_single_J6n n1 r1 z1 l3 z2 lux1) (magic_single_J6 n1 r1 z1 l3 z2 lux1) := by
  unfold magic_single_J6n magic_single_J6
  repeat' (first | with_reducible exact Le.refl _ | with_reducible exact magic_single_K3n_le _ _ | with_reducible exact magic_single_L3n_le _ _ _ _ _ _ | with_reducible refine Le.asrt ?_ | with_reducible refine Le.ite ?_ ?_ | refine Le.bind ?_ (fun _ => ?_) | refine Le.loopN' (fun _ => ?_))

def magic_single_J4n  (n1 : Int) (r1 : (List Int)) (z1 : Int) (l3 : List Int) (z2 : Int) : Option (St (List Int × Int) (List Int)) :=
  if (((z1 == (w64 ((w64 (Int.tdiv (w64 (Int.tdiv n1 2)) 2)) + 1))) && (z2 != (w64 (Int.tdiv (w64 (Int.tdiv n1 2)) 2)))) || ((z1 == (w64 (Int.tdiv (w64 (Int.tdiv n1 2)) 2))) && (z2 == (w64 (Int.tdiv (w64 (Int.tdiv n1 2)) 2))))) then ((magic_single_J6n n1 r1 z1 l3 z2) ([1, 4, 2, 3] : List Int)) else (if (decide ((w64 ((w64 (Int.tdiv (w64 (Int.tdiv n1 2)) 2)) + 1)) < z1)) then ((magic_single_J6n n1 r1 z1 l3 z2) ([1, 4, 3, 2] : List Int)) else (if ((z1 == (w64 ((w64 (Int.tdiv (w64 (Int.tdiv n1 2)) 2)) + 1))) && (z2 == (w64 (Int.tdiv (w64 (Int.tdiv n1 2)) 2)))) then ((magic_single_J6n n1 r1 z1 l3 z2) ([4, 1, 2, 3] : List Int)) else ((magic_single_J6n n1 r1 z1 l3 z2) ([4, 1, 2, 3] : List Int))))

theorem magic_single_J4n_le  (n1 : Int) (r1 : (List Int)) (z1 : Int) (l3 : List Int) (z2 : Int) : Le (magic_single_J4n n1 r1 z1 l3 z2) (magic_single_J4 n1 r1 z1 l3 z2) := by
  unfold magic_single_J4n magic_single_J4
  repeat' (first | with_reducible exact Le.refl _ | with_reducible exact magic_single_J6n_le _ _ _ _ _ _ | with_reducible refine Le.asrt ?_ | with_reducible refine Le.ite ?_ ?_ | refine Le.bind ?_ (fun _ => ?_) | refine Le.loopN' (fun _ => ?_))

def magic_single_J3n  (z1 : Int) (l4 : List Int) : Option (St (List Int × Int) (List Int)) :=
  some (.next (l4, (w64 (z1 + 1))))

theorem magic_single_J3n_le  (z1 : Int) (l4 : List Int) : Le (magic_single_J3n z1 l4) (magic_single_J3 z1 l4) := by
  unfold magic_single_J3n magic_single_J3
  repeat' (first | with_reducible exact Le.refl _ | with_reducible exact Le.refl _ | with_reducible refine Le.asrt ?_ | with_reducible refine Le.ite ?_ ?_ | refine Le.bind ?_ (fun _ => ?_) | refine Le.loopN' (fun _ => ?_))

def magic_single_K2n  (z1 : Int) : (List Int) → Option (St (List Int × Int) (List Int)) :=
  fun (x : (List Int)) => match x with | l4 => (magic_single_J3n z1) l4

theorem magic_single_K2n_le  (z1 : Int) (x) : Le (magic_single_K2n z1 x) (magic_single_K2 z1 x) := by
  unfold magic_single_K2n magic_single_K2
  try dsimp only
  repeat' (first | with_reducible exact Le.refl _ | with_reducible exact magic_single_J3n_le _ _ | with_reducible refine Le.asrt ?_ | with_reducible refine Le.ite ?_ ?_ | refine Le.bind ?_ (fun _ => ?_) | refine Le.loopN' (fun _ => ?_))

def magic_single_L2n  (n1 : Int) (r1 : (List Int)) (z1 : Int) : (List Int × Int) → Option (St (List Int × Int) (List Int)) :=
  fun (x : (List Int × Int)) => match x with | (l3, z2) => if (decide (z2 < (w64 (Int.tdiv n1 2)))) then ((magic_single_J4n n1 r1 z1 l3 z2)) else (some (.done l3))

theorem magic_single_L2n_le  (n1 : Int) (r1 : (List Int)) (z1 : Int) (x) : Le (magic_single_L2n n1 r1 z1 x) (magic_single_L2 n1 r1 z1 x) := by
  unfold magic_single_L2n magic_single_L2
  try dsimp only
  repeat' (first | with_reducible exact Le.refl _ | with_reducible exact magic_single_J4n_le _ _ _ _ _ | with_reducible refine Le.asrt ?_ | with_reducible refine Le.ite ?_ ?_ | refine Le.bind ?_ (fun _ => ?_) | refine Le.loopN' (fun _ => ?_))

def magic_single_J2n  (n1 : Int) (r1 : (List Int)) (l1 : List Int) (z1 : Int) : Option (St (List Int × Int) (List Int)) :=
  (loopN (magic_single_L2n n1 r1 z1) 150 (l1, 0)).bind (magic_single_K2n z1)

theorem magic_single_J2n_le  (n1 : Int) (r1 : (List Int)) (l1 : List Int) (z1 : Int) : Le (magic_single_J2n n1 r1 l1 z1) (magic_single_J2 n1 r1 l1 z1) := by
  unfold magic_single_J2n magic_single_J2
  repeat' (first | with_reducible exact Le.refl _ | with_reducible exact magic_single_K2n_le _ _ | with_reducible exact magic_single_L2n_le _ _ _ _ | with_reducible refine Le.asrt ?_ | with_reducible refine Le.ite ?_ ?_ | refine Le.bind ?_ (fun _ => ?_) | refine Le.loopN' (fun _ => ?_))

def magic_single_J1n  (l2 : List Int) : Option (List Int) :=
  some l2

theorem magic_single_J1n_le  (l2 : List Int) : Le (magic_single_J1n l2) (magic_single_J1 l2) := by
  unfold magic_single_J1n magic_single_J1
  repeat' (first | with_reducible exact Le.refl _ | with_reducible exact Le.refl _ | with_reducible refine Le.asrt ?_ | with_reducible refine Le.ite ?_ ?_ | refine Le.bind ?_ (fun _ => ?_) | refine Le.loopN' (fun _ => ?_))

def magic_single_K1n  : (List Int) → Option (List Int) :=
  fun (x : (List Int)) => match x with | l2 => magic_single_J1n l2

theorem magic_single_K1n_le  (x) : Le (magic_single_K1n x) (magic_single_K1 x) := by
  unfold magic_single_K1n magic_single_K1
  try dsimp only
  repeat' (first | with_reducible exact Le.refl _ | with_reducible exact magic_single_J1n_le _ | with_reducible refine Le.asrt ?_ | with_reducible refine Le.ite ?_ ?_ | refine Le.bind ?_ (fun _ => ?_) | refine Le.loopN' (fun _ => ?_))

def magic_single_L1n  (n1 : Int) (r1 : (List Int)) : (List Int × Int) → Option (St (List Int × Int) (List Int)) :=
  fun (x : (List Int × Int)) => match x with | (l1, z1) => if (decide (z1 < (w64 (Int.tdiv n1 2)))) then ((magic_single_J2n n1 r1 l1 z1)) else (some (.done l1))

theorem magic_single_L1n_le  (n1 : Int) (r1 : (List Int)) (x) : Le (magic_single_L1n n1 r1 x) (magic_single_L1 n1 r1 x) := by
  unfold magic_single_L1n magic_single_L1
  try dsimp only
  repeat' (first | with_reducible exact Le.refl _ | with_reducible exact magic_single_J2n_le _ _ _ _ | with_reducible refine Le.asrt ?_ | with_reducible refine Le.ite ?_ ?_ | refine Le.bind ?_ (fun _ => ?_) | refine Le.loopN' (fun _ => ?_))

def magic_single_mn  (n1 : Int) : Option (List Int) :=
  (magic_odd_mn (w64 (Int.tdiv n1 2))).bind fun r1 => asrt ((0 : Int) ≤ (w64 (n1 * n1)) ∧ (w64 (n1 * n1)) ≤ bigN) <| (loopN (magic_single_L1n n1 r1) 150 ((List.replicate (Int.toNat (w64 (n1 * n1))) (0 : Int)), 0)).bind magic_single_K1n

theorem magic_single_mn_le  (n1 : Int) : Le (magic_single_mn n1) (magic_single_m n1) := by
  unfold magic_single_mn magic_single_m
  repeat' (first | with_reducible exact Le.refl _ | with_reducible exact magic_odd_mn_le _ | with_reducible exact magic_single_K1n_le _ | with_reducible exact magic_single_L1n_le _ _ _ | with_reducible refine Le.asrt ?_ | with_reducible refine Le.ite ?_ ?_ | refine Le.bind ?_ (fun _ => ?_) | refine Le.loopN' (fun _ => ?_))

def magic_Make_J1n  (n1 : Int) : Option (List Int × Int) :=
  (magic_single_mn n1).bind fun r3 => some (r3, 0)

theorem magic_Make_J1n_le  (n1 : Int) : Le (magic_Make_J1n n1) (magic_Make_J1 n1) := by
  unfold magic_Make_J1n magic_Make_J1
  repeat' (first | with_reducible exact Le.refl _ | with_reducible exact magic_single_mn_le _ | with_reducible refine Le.asrt ?_ | with_reducible refine Le.ite ?_ ?_ | refine Le.bind ?_ (fun _ => ?_) | refine Le.loopN' (fun _ => ?_))

def magic_Make_mn  (n1 : Int) : Option (List Int × Int) :=
  if ((decide (n1 < 1)) || (decide ((12 : Int) < n1))) then (some (([] : List Int), 3)) else (if (n1 == 2) then (some (([] : List Int), 10)) else (if ((bAnd n1 1) == 1) then ((magic_odd_mn n1).bind fun r1 => some (r1, 0)) else (if ((bAnd n1 3) == 0) then ((magic_double_mn n1).bind fun r2 => some (r2, 0)) else ((magic_Make_J1n n1)))))

theorem magic_Make_mn_le  (n1 : Int) : Le (magic_Make_mn n1) (magic_Make_m n1) := by
  unfold magic_Make_mn magic_Make_m
  repeat' (first | with_reducible exact Le.refl _ | with_reducible exact magic_odd_mn_le _ | with_reducible exact magic_double_mn_le _ | with_reducible exact magic_Make_J1n_le _ | with_reducible refine Le.asrt ?_ | with_reducible refine Le.ite ?_ ?_ | refine Le.bind ?_ (fun _ => ?_) | refine Le.loopN' (fun _ => ?_))

def gameroomref_MagicSide_J2n  (n2 : Int) : Option (St Int Int) :=
  some (.next (w64 (n2 + 1)))

theorem gameroomref_MagicSide_J2n_le  (n2 : Int) : Le (gameroomref_MagicSide_J2n n2) (gameroomref_MagicSide_J2 n2) := by
  unfold gameroomref_MagicSide_J2n gameroomref_MagicSide_J2
  repeat' (first | with_reducible exact Le.refl _ | with_reducible exact Le.refl _ | with_reducible refine Le.asrt ?_ | with_reducible refine Le.ite ?_ ?_ | refine Le.bind ?_ (fun _ => ?_) | refine Le.loopN' (fun _ => ?_))

def gameroomref_MagicSide_J3n  (n3 : Int) : Option Int :=
  some n3

theorem gameroomref_MagicSide_J3n_le  (n3 : Int) : Le (gameroomref_MagicSide_J3n n3) (gameroomref_MagicSide_J3 n3) := by
  unfold gameroomref_MagicSide_J3n gameroomref_MagicSide_J3
  repeat' (first | with_reducible exact Le.refl _ | with_reducible exact Le.refl _ | with_reducible refine Le.asrt ?_ | with_reducible refine Le.ite ?_ ?_ | refine Le.bind ?_ (fun _ => ?_) | refine Le.loopN' (fun _ => ?_))

def gameroomref_MagicSide_J1n  (l1 : List Int) (n3 : Int) : Option Int :=
  if (((w64 (n3 * n3)) != (l1.length : Int)) || (decide ((12 : Int) < n3))) then (some 0) else ((gameroomref_MagicSide_J3n n3))

theorem gameroomref_MagicSide_J1n_le  (l1 : List Int) (n3 : Int) : Le (gameroomref_MagicSide_J1n l1 n3) (gameroomref_MagicSide_J1 l1 n3) := by
  unfold gameroomref_MagicSide_J1n gameroomref_MagicSide_J1
  repeat' (first | with_reducible exact Le.refl _ | with_reducible exact gameroomref_MagicSide_J3n_le _ | with_reducible refine Le.asrt ?_ | with_reducible refine Le.ite ?_ ?_ | refine Le.bind ?_ (fun _ => ?_) | refine Le.loopN' (fun _ => ?_))

def gameroomref_MagicSide_K1n  (l1 : List Int) : Int → Option Int :=
  fun (x : Int) => match x with | n3 => (gameroomref_MagicSide_J1n l1) n3

theorem gameroomref_MagicSide_K1n_le  (l1 : List Int) (x) : Le (gameroomref_MagicSide_K1n l1 x) (gameroomref_MagicSide_K1 l1 x) := by
  unfold gameroomref_MagicSide_K1n gameroomref_MagicSide_K1
  try dsimp only
  repeat' (first | with_reducible exact Le.refl _ | with_reducible exact gameroomref_MagicSide_J1n_le _ _ | with_reducible refine Le.asrt ?_ | with_reducible refine Le.ite ?_ ?_ | refine Le.bind ?_ (fun _ => ?_) | refine Le.loopN' (fun _ => ?_))

def gameroomref_MagicSide_L1n  (l1 : List Int) : Int → Option (St Int Int) :=
  fun (x : Int) => match x with | n2 => if (decide ((w64 (n2 * n2)) < (l1.length : Int))) then ((gameroomref_MagicSide_J2n n2)) else (some (.done n2))

theorem gameroomref_MagicSide_L1n_le  (l1 : List Int) (x) : Le (gameroomref_MagicSide_L1n l1 x) (gameroomref_MagicSide_L1 l1 x) := by
  unfold gameroomref_MagicSide_L1n gameroomref_MagicSide_L1
  try dsimp only
  repeat' (first | with_reducible exact Le.refl _ | with_reducible exact gameroomref_MagicSide_J2n_le _ | with_reducible refine Le.asrt ?_ | with_reducible refine Le.ite ?_ ?_ | refine Le.bind ?_ (fun _ => ?_) | refine Le.loopN' (fun _ => ?_))

def gameroomref_MagicSide_mn  (l1 : List Int) : Option Int :=
  (loopN (gameroomref_MagicSide_L1n l1) 150 1).bind (gameroomref_MagicSide_K1n l1)

theorem gameroomref_MagicSide_mn_le  (l1 : List Int) : Le (gameroomref_MagicSide_mn l1) (gameroomref_MagicSide_m l1) := by
  unfold gameroomref_MagicSide_mn gameroomref_MagicSide_m
  repeat' (first | with_reducible exact Le.refl _ | with_reducible exact gameroomref_MagicSide_K1n_le _ _ | with_reducible exact gameroomref_MagicSide_L1n_le _ _ | with_reducible refine Le.asrt ?_ | with_reducible refine Le.ite ?_ ?_ | refine Le.bind ?_ (fun _ => ?_) | refine Le.loopN' (fun _ => ?_))

def gameroomref_MagicKind_J3n  (l1 : List Int) (want1 : Int) (x1 : Int) : Option (St (Int × Int) Int) :=
  some (.next ((w64 (want1 + (geti l1 x1))), (w64 (x1 + 1))))

theorem gameroomref_MagicKind_J3n_le  (l1 : List Int) (want1 : Int) (x1 : Int) : Le (gameroomref_MagicKind_J3n l1 want1 x1) (gameroomref_MagicKind_J3 l1 want1 x1) := by
  unfold gameroomref_MagicKind_J3n gameroomref_MagicKind_J3
  repeat' (first | with_reducible exact Le.refl _ | with_reducible exact Le.refl _ | with_reducible refine Le.asrt ?_ | with_reducible refine Le.ite ?_ ?_ | refine Le.bind ?_ (fun _ => ?_) | refine Le.loopN' (fun _ => ?_))

def gameroomref_MagicKind_J2n  (l1 : List Int) (want1 : Int) (x1 : Int) : Option (St (Int × Int) Int) :=
  asrt (0 ≤ x1 ∧ x1 < (l1.length : Int)) <| (gameroomref_MagicKind_J3n l1 want1 x1)

theorem gameroomref_MagicKind_J2n_le  (l1 : List Int) (want1 : Int) (x1 : Int) : Le (gameroomref_MagicKind_J2n l1 want1 x1) (gameroomref_MagicKind_J2 l1 want1 x1) := by
  unfold gameroomref_MagicKind_J2n gameroomref_MagicKind_J2
  repeat' (first | with_reducible exact Le.refl _ | with_reducible exact gameroomref_MagicKind_J3n_le _ _ _ | with_reducible refine Le.asrt ?_ | with_reducible refine Le.ite ?_ ?_ | refine Le.bind ?_ (fun _ => ?_) | refine Le.loopN' (fun _ => ?_))

def gameroomref_MagicKind_J9n  (l1 : List Int) (r1 : Int) (k1 : Int) (row1 : Int) (column1 : Int) (i1 : Int) : Option (St (Int × Int × Int) (Int × Int)) :=
  some (.next ((w64 (row1 + (geti l1 (w64 ((w64 (k1 * r1)) + i1))))), (w64 (column1 + (geti l1 (w64 ((w64 (i1 * r1)) + k1))))), (w64 (i1 + 1))))

theorem gameroomref_MagicKind_J9n_le  (l1 : List Int) (r1 : Int) (k1 : Int) (row1 : Int) (column1 : Int) (i1 : Int) : Le (gameroomref_MagicKind_J9n l1 r1 k1 row1 column1 i1) (gameroomref_MagicKind_J9 l1 r1 k1 row1 column1 i1) := by
  unfold gameroomref_MagicKind_J9n gameroomref_MagicKind_J9
  repeat' (first | with_reducible exact Le.refl _ | with_reducible exact Le.refl _ | with_reducible refine Le.asrt ?_ | with_reducible refine Le.ite ?_ ?_ | refine Le.bind ?_ (fun _ => ?_) | refine Le.loopN' (fun _ => ?_))

def gameroomref_MagicKind_J8n  (l1 : List Int) (r1 : Int) (k1 : Int) (row1 : Int) (column1 : Int) (i1 : Int) : Option (St (Int × Int × Int) (Int × Int)) :=
  asrt (0 ≤ (w64 ((w64 (k1 * r1)) + i1)) ∧ (w64 ((w64 (k1 * r1)) + i1)) < (l1.length : Int)) <| asrt (0 ≤ (w64 ((w64 (i1 * r1)) + k1)) ∧ (w64 ((w64 (i1 * r1)) + k1)) < (l1.length : Int)) <| (gameroomref_MagicKind_J9n l1 r1 k1 row1 column1 i1)

theorem gameroomref_MagicKind_J8n_le  (l1 : List Int) (r1 : Int) (k1 : Int) (row1 : Int) (column1 : Int) (i1 : Int) : Le (gameroomref_MagicKind_J8n l1 r1 k1 row1 column1 i1) (gameroomref_MagicKind_J8 l1 r1 k1 row1 column1 i1) := by
  unfold gameroomref_MagicKind_J8n gameroomref_MagicKind_J8
  repeat' (first | with_reducible exact Le.refl _ | with_reducible exact gameroomref_MagicKind_J9n_le _ _ _ _ _ _ | with_reducible refine Le.asrt ?_ | with_reducible refine Le.ite ?_ ?_ | refine Le.bind ?_ (fun _ => ?_) | refine Le.loopN' (fun _ => ?_))

def gameroomref_MagicKind_L3n  (l1 : List Int) (r1 : Int) (k1 : Int) : (Int × Int × Int) → Option (St (Int × Int × Int) (Int × Int)) :=
  fun (x : (Int × Int × Int)) => match x with | (row1, column1, i1) => if (decide (i1 < r1)) then ((gameroomref_MagicKind_J8n l1 r1 k1 row1 column1 i1)) else (some (.done (row1, column1)))

theorem gameroomref_MagicKind_L3n_le  (l1 : List Int) (r1 : Int) (k1 : Int) (x) : Le (gameroomref_MagicKind_L3n l1 r1 k1 x) (gameroomref_MagicKind_L3 l1 r1 k1 x) := by
  unfold gameroomref_MagicKind_L3n gameroomref_MagicKind_L3
  try dsimp only
  repeat' (first | with_reducible exact Le.refl _ | with_reducible exact gameroomref_MagicKind_J8n_le _ _ _ _ _ _ | with_reducible refine Le.asrt ?_ | with_reducible refine Le.ite ?_ ?_ | refine Le.bind ?_ (fun _ => ?_) | refine Le.loopN' (fun _ => ?_))

def gameroomref_MagicKind_J6n  (k1 : Int) : Option (St Int (Fl Unit (Int × Int))) :=
  some (.next (w64 (k1 + 1)))

theorem gameroomref_MagicKind_J6n_le  (k1 : Int) : Le (gameroomref_MagicKind_J6n k1) (gameroomref_MagicKind_J6 k1) := by
  unfold gameroomref_MagicKind_J6n gameroomref_MagicKind_J6
  repeat' (first | with_reducible exact Le.refl _ | with_reducible exact Le.refl _ | with_reducible refine Le.asrt ?_ | with_reducible refine Le.ite ?_ ?_ | refine Le.bind ?_ (fun _ => ?_) | refine Le.loopN' (fun _ => ?_))

def gameroomref_MagicKind_J7n  (want2 : Int) (k1 : Int) (row2 : Int) (column2 : Int) : Option (St Int (Fl Unit (Int × Int))) :=
  if ((row2 != want2) || (column2 != want2)) then (some (.done (.ret (0, 0)))) else ((gameroomref_MagicKind_J6n k1))

theorem gameroomref_MagicKind_J7n_le  (want2 : Int) (k1 : Int) (row2 : Int) (column2 : Int) : Le (gameroomref_MagicKind_J7n want2 k1 row2 column2) (gameroomref_MagicKind_J7 want2 k1 row2 column2) := by
  unfold gameroomref_MagicKind_J7n gameroomref_MagicKind_J7
  repeat' (first | with_reducible exact Le.refl _ | with_reducible exact gameroomref_MagicKind_J6n_le _ | with_reducible refine Le.asrt ?_ | with_reducible refine Le.ite ?_ ?_ | refine Le.bind ?_ (fun _ => ?_) | refine Le.loopN' (fun _ => ?_))

def gameroomref_MagicKind_K3n  (want2 : Int) (k1 : Int) : (Int × Int) → Option (St Int (Fl Unit (Int × Int))) :=
  fun (x : (Int × Int)) => match x with | (row2, column2) => (gameroomref_MagicKind_J7n want2 k1) row2 column2

theorem gameroomref_MagicKind_K3n_le  (want2 : Int) (k1 : Int) (x) : Le (gameroomref_MagicKind_K3n want2 k1 x) (gameroomref_MagicKind_K3 want2 k1 x) := by
  unfold gameroomref_MagicKind_K3n gameroomref_MagicKind_K3
  try dsimp only
  repeat' (first | with_reducible exact Le.refl _ | with_reducible exact gameroomref_MagicKind_J7n_le _ _ _ _ | with_reducible refine Le.asrt ?_ | with_reducible refine Le.ite ?_ ?_ | refine Le.bind ?_ (fun _ => ?_) | refine Le.loopN' (fun _ => ?_))

def gameroomref_MagicKind_J5n  (l1 : List Int) (r1 : Int) (want2 : Int) (k1 : Int) : Option (St Int (Fl Unit (Int × Int))) :=
  (loopN (gameroomref_MagicKind_L3n l1 r1 k1) 150 (0, 0, 0)).bind (gameroomref_MagicKind_K3n want2 k1)

theorem gameroomref_MagicKind_J5n_le  (l1 : List Int) (r1 : Int) (want2 : Int) (k1 : Int) : Le (gameroomref_MagicKind_J5n l1 r1 want2 k1) (gameroomref_MagicKind_J5 l1 r1 want2 k1) := by
  unfold gameroomref_MagicKind_J5n gameroomref_MagicKind_J5
  repeat' (first | with_reducible exact Le.refl _ | with_reducible exact gameroomref_MagicKind_L3n_le _ _ _ _ | with_reducible exact gameroomref_MagicKind_K3n_le _ _ _ | with_reducible refine Le.asrt ?_ | with_reducible refine Le.ite ?_ ?_ | refine Le.bind ?_ (fun _ => ?_) | refine Le.loopN' (fun _ => ?_))

def gameroomref_MagicKind_L2n  (l1 : List Int) (r1 : Int) (want2 : Int) : Int → Option (St Int (Fl Unit (Int × Int))) :=
  fun (x : Int) => match x with | k1 => if (decide (k1 < r1)) then ((gameroomref_MagicKind_J5n l1 r1 want2 k1)) else (some (.done (.go ())))

theorem gameroomref_MagicKind_L2n_le  (l1 : List Int) (r1 : Int) (want2 : Int) (x) : Le (gameroomref_MagicKind_L2n l1 r1 want2 x) (gameroomref_MagicKind_L2 l1 r1 want2 x) := by
  unfold gameroomref_MagicKind_L2n gameroomref_MagicKind_L2
  try dsimp only
  repeat' (first | with_reducible exact Le.refl _ | with_reducible exact gameroomref_MagicKind_J5n_le _ _ _ _ | with_reducible refine Le.asrt ?_ | with_reducible refine Le.ite ?_ ?_ | refine Le.bind ?_ (fun _ => ?_) | refine Le.loopN' (fun _ => ?_))

def gameroomref_MagicKind_J15n  (l1 : List Int) (r1 : Int) (k2 : Int) (one1 : Int) (two1 : Int) (i2 : Int) : Option (St (Int × Int × Int) (Int × Int)) :=
  some (.next ((w64 (one1 + (geti l1 (w64 ((w64 (i2 * r1)) + (Int.tmod (w64 (i2 + k2)) r1)))))), (w64 (two1 + (geti l1 (w64 ((w64 (i2 * r1)) + (Int.tmod (w64 ((w64 ((w64 (r1 - 1)) - i2)) + k2)) r1)))))), (w64 (i2 + 1))))

theorem gameroomref_MagicKind_J15n_le  (l1 : List Int) (r1 : Int) (k2 : Int) (one1 : Int) (two1 : Int) (i2 : Int) : Le (gameroomref_MagicKind_J15n l1 r1 k2 one1 two1 i2) (gameroomref_MagicKind_J15 l1 r1 k2 one1 two1 i2) := by
  unfold gameroomref_MagicKind_J15n gameroomref_MagicKind_J15
  repeat' (first | with_reducible exact Le.refl _ | with_reducible exact Le.refl _ | with_reducible refine Le.asrt ?_ | with_reducible refine Le.ite ?_ ?_ | refine Le.bind ?_ (fun _ => ?_) | refine Le.loopN' (fun _ => ?_))

def gameroomref_MagicKind_J14n  (l1 : List Int) (r1 : Int) (k2 : Int) (one1 : Int) (two1 : Int) (i2 : Int) : Option (St (Int × Int × Int) (Int × Int)) :=
  asrt (r1 ≠ (0 : Int)) <| asrt (0 ≤ (w64 ((w64 (i2 * r1)) + (Int.tmod (w64 (i2 + k2)) r1))) ∧ (w64 ((w64 (i2 * r1)) + (Int.tmod (w64 (i2 + k2)) r1))) < (l1.length : Int)) <| asrt (r1 ≠ (0 : Int)) <| asrt (0 ≤ (w64 ((w64 (i2 * r1)) + (Int.tmod (w64 ((w64 ((w64 (r1 - 1)) - i2)) + k2)) r1))) ∧ (w64 ((w64 (i2 * r1)) + (Int.tmod (w64 ((w64 ((w64 (r1 - 1)) - i2)) + k2)) r1))) < (l1.length : Int)) <| (gameroomref_MagicKind_J15n l1 r1 k2 one1 two1 i2)

theorem gameroomref_MagicKind_J14n_le  (l1 : List Int) (r1 : Int) (k2 : Int) (one1 : Int) (two1 : Int) (i2 : Int) : Le (gameroomref_MagicKind_J14n l1 r1 k2 one1 two1 i2) (gameroomref_MagicKind_J14 l1 r1 k2 one1 two1 i2) := by
  unfold gameroomref_MagicKind_J14n gameroomref_MagicKind_J14
  repeat' (first | with_reducible exact Le.refl _ | with_reducible exact gameroomref_MagicKind_J15n_le _ _ _ _ _ _ | with_reducible refine Le.asrt ?_ | with_reducible refine Le.ite ?_ ?_ | refine Le.bind ?_ (fun _ => ?_) | refine Le.loopN' (fun _ => ?_))

def gameroomref_MagicKind_L5n  (l1 : List Int) (r1 : Int) (k2 : Int) : (Int × Int × Int) → Option (St (Int × Int × Int) (Int × Int)) :=
  fun (x : (Int × Int × Int)) => match x with | (one1, two1, i2) => if (decide (i2 < r1)) then ((gameroomref_MagicKind_J14n l1 r1 k2 one1 two1 i2)) else (some (.done (one1, two1)))

theorem gameroomref_MagicKind_L5n_le  (l1 : List Int) (r1 : Int) (k2 : Int) (x) : Le (gameroomref_MagicKind_L5n l1 r1 k2 x) (gameroomref_MagicKind_L5 l1 r1 k2 x) := by
  unfold gameroomref_MagicKind_L5n gameroomref_MagicKind_L5
  try dsimp only
  repeat' (first | with_reducible exact Le.refl _ | with_reducible exact gameroomref_MagicKind_J14n_le _ _ _ _ _ _ | with_reducible refine Le.asrt ?_ | with_reducible refine Le.ite ?_ ?_ | refine Le.bind ?_ (fun _ => ?_) | refine Le.loopN' (fun _ => ?_))

def gameroomref_MagicKind_J12n  (k2 : Int) (kind3 : Int) : Option (St (Int × Int) Int) :=
  some (.next (kind3, (w64 (k2 - 1))))

theorem gameroomref_MagicKind_J12n_le  (k2 : Int) (kind3 : Int) : Le (gameroomref_MagicKind_J12n k2 kind3) (gameroomref_MagicKind_J12 k2 kind3) := by
  unfold gameroomref_MagicKind_J12n gameroomref_MagicKind_J12
  repeat' (first | with_reducible exact Le.refl _ | with_reducible exact Le.refl _ | with_reducible refine Le.asrt ?_ | with_reducible refine Le.ite ?_ ?_ | refine Le.bind ?_ (fun _ => ?_) | refine Le.loopN' (fun _ => ?_))

def gameroomref_MagicKind_J13n  (want2 : Int) (kind1 : Int) (k2 : Int) (one2 : Int) (two2 : Int) : Option (St (Int × Int) Int) :=
  if ((one2 != want2) || (two2 != want2)) then (if (k2 == 0) then ((gameroomref_MagicKind_J12n k2) 1) else ((gameroomref_MagicKind_J12n k2) 2)) else ((gameroomref_MagicKind_J12n k2) kind1)

theorem gameroomref_MagicKind_J13n_le  (want2 : Int) (kind1 : Int) (k2 : Int) (one2 : Int) (two2 : Int) : Le (gameroomref_MagicKind_J13n want2 kind1 k2 one2 two2) (gameroomref_MagicKind_J13 want2 kind1 k2 one2 two2) := by
  unfold gameroomref_MagicKind_J13n gameroomref_MagicKind_J13
  repeat' (first | with_reducible exact Le.refl _ | with_reducible exact gameroomref_MagicKind_J12n_le _ _ | with_reducible refine Le.asrt ?_ | with_reducible refine Le.ite ?_ ?_ | refine Le.bind ?_ (fun _ => ?_) | refine Le.loopN' (fun _ => ?_))

def gameroomref_MagicKind_K5n  (want2 : Int) (kind1 : Int) (k2 : Int) : (Int × Int) → Option (St (Int × Int) Int) :=
  fun (x : (Int × Int)) => match x with | (one2, two2) => (gameroomref_MagicKind_J13n want2 kind1 k2) one2 two2

theorem gameroomref_MagicKind_K5n_le  (want2 : Int) (kind1 : Int) (k2 : Int) (x) : Le (gameroomref_MagicKind_K5n want2 kind1 k2 x) (gameroomref_MagicKind_K5 want2 kind1 k2 x) := by
  unfold gameroomref_MagicKind_K5n gameroomref_MagicKind_K5
  try dsimp only
  repeat' (first | with_reducible exact Le.refl _ | with_reducible exact gameroomref_MagicKind_J13n_le _ _ _ _ _ | with_reducible refine Le.asrt ?_ | with_reducible refine Le.ite ?_ ?_ | refine Le.bind ?_ (fun _ => ?_) | refine Le.loopN' (fun _ => ?_))

def gameroomref_MagicKind_J11n  (l1 : List Int) (r1 : Int) (want2 : Int) (kind1 : Int) (k2 : Int) : Option (St (Int × Int) Int) :=
  (loopN (gameroomref_MagicKind_L5n l1 r1 k2) 150 (0, 0, 0)).bind (gameroomref_MagicKind_K5n want2 kind1 k2)

theorem gameroomref_MagicKind_J11n_le  (l1 : List Int) (r1 : Int) (want2 : Int) (kind1 : Int) (k2 : Int) : Le (gameroomref_MagicKind_J11n l1 r1 want2 kind1 k2) (gameroomref_MagicKind_J11 l1 r1 want2 kind1 k2) := by
  unfold gameroomref_MagicKind_J11n gameroomref_MagicKind_J11
  repeat' (first | with_reducible exact Le.refl _ | with_reducible exact gameroomref_MagicKind_L5n_le _ _ _ _ | with_reducible exact gameroomref_MagicKind_K5n_le _ _ _ _ | with_reducible refine Le.asrt ?_ | with_reducible refine Le.ite ?_ ?_ | refine Le.bind ?_ (fun _ => ?_) | refine Le.loopN' (fun _ => ?_))

def gameroomref_MagicKind_L4n  (l1 : List Int) (r1 : Int) (want2 : Int) : (Int × Int) → Option (St (Int × Int) Int) :=
  fun (x : (Int × Int)) => match x with | (kind1, k2) => if (decide ((0 : Int) ≤ k2)) then ((gameroomref_MagicKind_J11n l1 r1 want2 kind1 k2)) else (some (.done kind1))

theorem gameroomref_MagicKind_L4n_le  (l1 : List Int) (r1 : Int) (want2 : Int) (x) : Le (gameroomref_MagicKind_L4n l1 r1 want2 x) (gameroomref_MagicKind_L4 l1 r1 want2 x) := by
  unfold gameroomref_MagicKind_L4n gameroomref_MagicKind_L4
  try dsimp only
  repeat' (first | with_reducible exact Le.refl _ | with_reducible exact gameroomref_MagicKind_J11n_le _ _ _ _ _ | with_reducible refine Le.asrt ?_ | with_reducible refine Le.ite ?_ ?_ | refine Le.bind ?_ (fun _ => ?_) | refine Le.loopN' (fun _ => ?_))

def gameroomref_MagicKind_J10n  (want2 : Int) (kind2 : Int) : Option (Int × Int) :=
  some (kind2, want2)

theorem gameroomref_MagicKind_J10n_le  (want2 : Int) (kind2 : Int) : Le (gameroomref_MagicKind_J10n want2 kind2) (gameroomref_MagicKind_J10 want2 kind2) := by
  unfold gameroomref_MagicKind_J10n gameroomref_MagicKind_J10
  repeat' (first | with_reducible exact Le.refl _ | with_reducible exact Le.refl _ | with_reducible refine Le.asrt ?_ | with_reducible refine Le.ite ?_ ?_ | refine Le.bind ?_ (fun _ => ?_) | refine Le.loopN' (fun _ => ?_))

def gameroomref_MagicKind_K4n  (want2 : Int) : Int → Option (Int × Int) :=
  fun (x : Int) => match x with | kind2 => (gameroomref_MagicKind_J10n want2) kind2

theorem gameroomref_MagicKind_K4n_le  (want2 : Int) (x) : Le (gameroomref_MagicKind_K4n want2 x) (gameroomref_MagicKind_K4 want2 x) := by
  unfold gameroomref_MagicKind_K4n gameroomref_MagicKind_K4
  try dsimp only
  repeat' (first | with_reducible exact Le.refl _ | with_reducible exact gameroomref_MagicKind_J10n_le _ _ | with_reducible refine Le.asrt ?_ | with_reducible refine Le.ite ?_ ?_ | refine Le.bind ?_ (fun _ => ?_) | refine Le.loopN' (fun _ => ?_))

def gameroomref_MagicKind_J4n  (l1 : List Int) (r1 : Int) (want2 : Int) : Option (Int × Int) :=
  (loopN (gameroomref_MagicKind_L4n l1 r1 want2) 150 (3, (w64 (r1 - 1)))).bind (gameroomref_MagicKind_K4n want2)

theorem gameroomref_MagicKind_J4n_le  (l1 : List Int) (r1 : Int) (want2 : Int) : Le (gameroomref_MagicKind_J4n l1 r1 want2) (gameroomref_MagicKind_J4 l1 r1 want2) := by
  unfold gameroomref_MagicKind_J4n gameroomref_MagicKind_J4
  repeat' (first | with_reducible exact Le.refl _ | with_reducible exact gameroomref_MagicKind_L4n_le _ _ _ _ | with_reducible exact gameroomref_MagicKind_K4n_le _ _ | with_reducible refine Le.asrt ?_ | with_reducible refine Le.ite ?_ ?_ | refine Le.bind ?_ (fun _ => ?_) | refine Le.loopN' (fun _ => ?_))

def gameroomref_MagicKind_K2n  (l1 : List Int) (r1 : Int) (want2 : Int) : (Fl Unit (Int × Int)) → Option (Int × Int) :=
  fun (x : (Fl Unit (Int × Int))) => match x with | .go _ => (gameroomref_MagicKind_J4n l1 r1 want2) | .ret x => some x

theorem gameroomref_MagicKind_K2n_le  (l1 : List Int) (r1 : Int) (want2 : Int) (x) : Le (gameroomref_MagicKind_K2n l1 r1 want2 x) (gameroomref_MagicKind_K2 l1 r1 want2 x) := by
  rcases x with x | x
  all_goals
    unfold gameroomref_MagicKind_K2n gameroomref_MagicKind_K2
    try dsimp only
    repeat' (first | with_reducible exact Le.refl _ | with_reducible exact gameroomref_MagicKind_J4n_le _ _ _ | with_reducible refine Le.asrt ?_ | with_reducible refine Le.ite ?_ ?_ | refine Le.bind ?_ (fun _ => ?_) | refine Le.loopN' (fun _ => ?_))

def gameroomref_MagicKind_J1n  (l1 : List Int) (r1 : Int) (want2 : Int) : Option (Int × Int) :=
  (loopN (gameroomref_MagicKind_L2n l1 r1 want2) 150 0).bind (gameroomref_MagicKind_K2n l1 r1 want2)

theorem gameroomref_MagicKind_J1n_le  (l1 : List Int) (r1 : Int) (want2 : Int) : Le (gameroomref_MagicKind_J1n l1 r1 want2) (gameroomref_MagicKind_J1 l1 r1 want2) := by
  unfold gameroomref_MagicKind_J1n gameroomref_MagicKind_J1
  repeat' (first | with_reducible exact Le.refl _ | with_reducible exact gameroomref_MagicKind_L2n_le _ _ _ _ | with_reducible exact gameroomref_MagicKind_K2n_le _ _ _ _ | with_reducible refine Le.asrt ?_ | with_reducible refine Le.ite ?_ ?_ | refine Le.bind ?_ (fun _ => ?_) | refine Le.loopN' (fun _ => ?_))

def gameroomref_MagicKind_K1n  (l1 : List Int) (r1 : Int) : Int → Option (Int × Int) :=
  fun (x : Int) => match x with | want2 => (gameroomref_MagicKind_J1n l1 r1) want2

theorem gameroomref_MagicKind_K1n_le  (l1 : List Int) (r1 : Int) (x) : Le (gameroomref_MagicKind_K1n l1 r1 x) (gameroomref_MagicKind_K1 l1 r1 x) := by
  unfold gameroomref_MagicKind_K1n gameroomref_MagicKind_K1
  try dsimp only
  repeat' (first | with_reducible exact Le.refl _ | with_reducible exact gameroomref_MagicKind_J1n_le _ _ _ | with_reducible refine Le.asrt ?_ | with_reducible refine Le.ite ?_ ?_ | refine Le.bind ?_ (fun _ => ?_) | refine Le.loopN' (fun _ => ?_))

def gameroomref_MagicKind_L1n  (l1 : List Int) (r1 : Int) : (Int × Int) → Option (St (Int × Int) Int) :=
  fun (x : (Int × Int)) => match x with | (want1, x1) => if (decide (x1 < r1)) then ((gameroomref_MagicKind_J2n l1 want1 x1)) else (some (.done want1))

theorem gameroomref_MagicKind_L1n_le  (l1 : List Int) (r1 : Int) (x) : Le (gameroomref_MagicKind_L1n l1 r1 x) (gameroomref_MagicKind_L1 l1 r1 x) := by
  unfold gameroomref_MagicKind_L1n gameroomref_MagicKind_L1
  try dsimp only
  repeat' (first | with_reducible exact Le.refl _ | with_reducible exact gameroomref_MagicKind_J2n_le _ _ _ | with_reducible refine Le.asrt ?_ | with_reducible refine Le.ite ?_ ?_ | refine Le.bind ?_ (fun _ => ?_) | refine Le.loopN' (fun _ => ?_))

def gameroomref_MagicKind_mn  (l1 : List Int) : Option (Int × Int) :=
  (gameroomref_MagicSide_mn l1).bind fun r1 => (loopN (gameroomref_MagicKind_L1n l1 r1) 150 (0, 0)).bind (gameroomref_MagicKind_K1n l1 r1)

theorem gameroomref_MagicKind_mn_le  (l1 : List Int) : Le (gameroomref_MagicKind_mn l1) (gameroomref_MagicKind_m l1) := by
  unfold gameroomref_MagicKind_mn gameroomref_MagicKind_m
  repeat' (first | with_reducible exact Le.refl _ | with_reducible exact gameroomref_MagicSide_mn_le _ | with_reducible exact gameroomref_MagicKind_K1n_le _ _ _ | with_reducible exact gameroomref_MagicKind_L1n_le _ _ _ | with_reducible refine Le.asrt ?_ | with_reducible refine Le.ite ?_ ?_ | refine Le.bind ?_ (fun _ => ?_) | refine Le.loopN' (fun _ => ?_))

def gameroomref_at_J3n  (i1 : Int) : Option (St Int (Fl Unit Int)) :=
  some (.next (w64 (i1 + 1)))

theorem gameroomref_at_J3n_le  (i1 : Int) : Le (gameroomref_at_J3n i1) (gameroomref_at_J3 i1) := by
  unfold gameroomref_at_J3n gameroomref_at_J3
  repeat' (first | with_reducible exact Le.refl _ | with_reducible exact Le.refl _ | with_reducible refine Le.asrt ?_ | with_reducible refine Le.ite ?_ ?_ | refine Le.bind ?_ (fun _ => ?_) | refine Le.loopN' (fun _ => ?_))

def gameroomref_at_J2n  (l1 : List Int) (n2 : Int) (i1 : Int) : Option (St Int (Fl Unit Int)) :=
  asrt (0 ≤ i1 ∧ i1 < (l1.length : Int)) <| if ((geti l1 i1) == n2) then (some (.done (.ret i1))) else ((gameroomref_at_J3n i1))

theorem gameroomref_at_J2n_le  (l1 : List Int) (n2 : Int) (i1 : Int) : Le (gameroomref_at_J2n l1 n2 i1) (gameroomref_at_J2 l1 n2 i1) := by
  unfold gameroomref_at_J2n gameroomref_at_J2
  repeat' (first | with_reducible exact Le.refl _ | with_reducible exact gameroomref_at_J3n_le _ | with_reducible refine Le.asrt ?_ | with_reducible refine Le.ite ?_ ?_ | refine Le.bind ?_ (fun _ => ?_) | refine Le.loopN' (fun _ => ?_))

def gameroomref_at_J1n  : Option Int :=
  some (-1)

theorem gameroomref_at_J1n_le  : Le (gameroomref_at_J1n) (gameroomref_at_J1) := by
  unfold gameroomref_at_J1n gameroomref_at_J1
  repeat' (first | with_reducible exact Le.refl _ | with_reducible exact Le.refl _ | with_reducible refine Le.asrt ?_ | with_reducible refine Le.ite ?_ ?_ | refine Le.bind ?_ (fun _ => ?_) | refine Le.loopN' (fun _ => ?_))

def gameroomref_at_K1n  : (Fl Unit Int) → Option Int :=
  fun (x : (Fl Unit Int)) => match x with | .go _ => gameroomref_at_J1n | .ret x => some x

theorem gameroomref_at_K1n_le  (x) : Le (gameroomref_at_K1n x) (gameroomref_at_K1 x) := by
  rcases x with x | x
  all_goals
    unfold gameroomref_at_K1n gameroomref_at_K1
    try dsimp only
    repeat' (first | with_reducible exact Le.refl _ | with_reducible exact gameroomref_at_J1n_le | with_reducible refine Le.asrt ?_ | with_reducible refine Le.ite ?_ ?_ | refine Le.bind ?_ (fun _ => ?_) | refine Le.loopN' (fun _ => ?_))

def gameroomref_at_L1n  (l1 : List Int) (n2 : Int) : Int → Option (St Int (Fl Unit Int)) :=
  fun (x : Int) => match x with | i1 => if (decide (i1 < (l1.length : Int))) then ((gameroomref_at_J2n l1 n2 i1)) else (some (.done (.go ())))

theorem gameroomref_at_L1n_le  (l1 : List Int) (n2 : Int) (x) : Le (gameroomref_at_L1n l1 n2 x) (gameroomref_at_L1 l1 n2 x) := by
  unfold gameroomref_at_L1n gameroomref_at_L1
  try dsimp only
  repeat' (first | with_reducible exact Le.refl _ | with_reducible exact gameroomref_at_J2n_le _ _ _ | with_reducible refine Le.asrt ?_ | with_reducible refine Le.ite ?_ ?_ | refine Le.bind ?_ (fun _ => ?_) | refine Le.loopN' (fun _ => ?_))

def gameroomref_at_mn  (l1 : List Int) (n2 : Int) : Option Int :=
  (loopN (gameroomref_at_L1n l1 n2) 150 0).bind gameroomref_at_K1n

theorem gameroomref_at_mn_le  (l1 : List Int) (n2 : Int) : Le (gameroomref_at_mn l1 n2) (gameroomref_at_m l1 n2) := by
  unfold gameroomref_at_mn gameroomref_at_m
  repeat' (first | with_reducible exact Le.refl _ | with_reducible exact gameroomref_at_K1n_le _ | with_reducible exact gameroomref_at_L1n_le _ _ _ | with_reducible refine Le.asrt ?_ | with_reducible refine Le.ite ?_ ?_ | refine Le.bind ?_ (fun _ => ?_) | refine Le.loopN' (fun _ => ?_))

def gameroomref_OrderIs_J3n  (i1 : Int) : Option (St Int (Fl Unit Bool)) :=
  some (.next (w64 (i1 + 1)))

theorem gameroomref_OrderIs_J3n_le  (i1 : Int) : Le (gameroomref_OrderIs_J3n i1) (gameroomref_OrderIs_J3 i1) := by
  unfold gameroomref_OrderIs_J3n gameroomref_OrderIs_J3
  repeat' (first | with_reducible exact Le.refl _ | with_reducible exact Le.refl _ | with_reducible refine Le.asrt ?_ | with_reducible refine Le.ite ?_ ?_ | refine Le.bind ?_ (fun _ => ?_) | refine Le.loopN' (fun _ => ?_))

def gameroomref_OrderIs_J2n  (l1 : List Int) (i1 : Int) : Option (St Int (Fl Unit Bool)) :=
  (gameroomref_at_mn l1 i1).bind fun r1 => if (decide (r1 < 0)) then (some (.done (.ret false))) else ((gameroomref_OrderIs_J3n i1))

theorem gameroomref_OrderIs_J2n_le  (l1 : List Int) (i1 : Int) : Le (gameroomref_OrderIs_J2n l1 i1) (gameroomref_OrderIs_J2 l1 i1) := by
  unfold gameroomref_OrderIs_J2n gameroomref_OrderIs_J2
  repeat' (first | with_reducible exact Le.refl _ | with_reducible exact gameroomref_at_mn_le _ _ | with_reducible exact gameroomref_OrderIs_J3n_le _ | with_reducible refine Le.asrt ?_ | with_reducible refine Le.ite ?_ ?_ | refine Le.bind ?_ (fun _ => ?_) | refine Le.loopN' (fun _ => ?_))

def gameroomref_OrderIs_J1n  : Option Bool :=
  some true

theorem gameroomref_OrderIs_J1n_le  : Le (gameroomref_OrderIs_J1n) (gameroomref_OrderIs_J1) := by
  unfold gameroomref_OrderIs_J1n gameroomref_OrderIs_J1
  repeat' (first | with_reducible exact Le.refl _ | with_reducible exact Le.refl _ | with_reducible refine Le.asrt ?_ | with_reducible refine Le.ite ?_ ?_ | refine Le.bind ?_ (fun _ => ?_) | refine Le.loopN' (fun _ => ?_))

def gameroomref_OrderIs_K1n  : (Fl Unit Bool) → Option Bool :=
  fun (x : (Fl Unit Bool)) => match x with | .go _ => gameroomref_OrderIs_J1n | .ret x => some x

theorem gameroomref_OrderIs_K1n_le  (x) : Le (gameroomref_OrderIs_K1n x) (gameroomref_OrderIs_K1 x) := by
  rcases x with x | x
  all_goals
    unfold gameroomref_OrderIs_K1n gameroomref_OrderIs_K1
    try dsimp only
    repeat' (first | with_reducible exact Le.refl _ | with_reducible exact gameroomref_OrderIs_J1n_le | with_reducible refine Le.asrt ?_ | with_reducible refine Le.ite ?_ ?_ | refine Le.bind ?_ (fun _ => ?_) | refine Le.loopN' (fun _ => ?_))

def gameroomref_OrderIs_L1n  (l1 : List Int) : Int → Option (St Int (Fl Unit Bool)) :=
  fun (x : Int) => match x with | i1 => if (decide (i1 < (l1.length : Int))) then ((gameroomref_OrderIs_J2n l1 i1)) else (some (.done (.go ())))

theorem gameroomref_OrderIs_L1n_le  (l1 : List Int) (x) : Le (gameroomref_OrderIs_L1n l1 x) (gameroomref_OrderIs_L1 l1 x) := by
  unfold gameroomref_OrderIs_L1n gameroomref_OrderIs_L1
  try dsimp only
  repeat' (first | with_reducible exact Le.refl _ | with_reducible exact gameroomref_OrderIs_J2n_le _ _ | with_reducible refine Le.asrt ?_ | with_reducible refine Le.ite ?_ ?_ | refine Le.bind ?_ (fun _ => ?_) | refine Le.loopN' (fun _ => ?_))

def gameroomref_OrderIs_mn  (l1 : List Int) : Option Bool :=
  (loopN (gameroomref_OrderIs_L1n l1) 150 0).bind gameroomref_OrderIs_K1n

theorem gameroomref_OrderIs_mn_le  (l1 : List Int) : Le (gameroomref_OrderIs_mn l1) (gameroomref_OrderIs_m l1) := by
  unfold gameroomref_OrderIs_mn gameroomref_OrderIs_m
  repeat' (first | with_reducible exact Le.refl _ | with_reducible exact gameroomref_OrderIs_K1n_le _ | with_reducible exact gameroomref_OrderIs_L1n_le _ _ | with_reducible refine Le.asrt ?_ | with_reducible refine Le.ite ?_ ?_ | refine Le.bind ?_ (fun _ => ?_) | refine Le.loopN' (fun _ => ?_))

def gameroomlaw_MagicMakes_J11n  (i2 : Int) (less3 : List Int) : Option (St (List Int × Int) (List Int)) :=
  some (.next (less3, (w64 (i2 + 1))))

theorem gameroomlaw_MagicMakes_J11n_le  (i2 : Int) (less3 : List Int) : Le (gameroomlaw_MagicMakes_J11n i2 less3) (gameroomlaw_MagicMakes_J11 i2 less3) := by
  unfold gameroomlaw_MagicMakes_J11n gameroomlaw_MagicMakes_J11
  repeat' (first | with_reducible exact Le.refl _ | with_reducible exact Le.refl _ | with_reducible refine Le.asrt ?_ | with_reducible refine Le.ite ?_ ?_ | refine Le.bind ?_ (fun _ => ?_) | refine Le.loopN' (fun _ => ?_))

def gameroomlaw_MagicMakes_J10n  (r1 : (List Int × Int)) (less1 : List Int) (i2 : Int) : Option (St (List Int × Int) (List Int)) :=
  asrt (0 ≤ i2 ∧ i2 < (r1.1.length : Int)) <| asrt ((less1.length : Int) + 1 ≤ bigN) <| (gameroomlaw_MagicMakes_J11n i2) (less1 ++ ([w64 ((geti r1.1 i2) - 1)] : List Int))

theorem gameroomlaw_MagicMakes_J10n_le  (r1 : (List Int × Int)) (less1 : List Int) (i2 : Int) : Le (gameroomlaw_MagicMakes_J10n r1 less1 i2) (gameroomlaw_MagicMakes_J10 r1 less1 i2) := by
  unfold gameroomlaw_MagicMakes_J10n gameroomlaw_MagicMakes_J10
  repeat' (first | with_reducible exact Le.refl _ | with_reducible exact gameroomlaw_MagicMakes_J11n_le _ _ | with_reducible refine Le.asrt ?_ | with_reducible refine Le.ite ?_ ?_ | refine Le.bind ?_ (fun _ => ?_) | refine Le.loopN' (fun _ => ?_))

def gameroomlaw_MagicMakes_L2n  (r1 : (List Int × Int)) : (List Int × Int) → Option (St (List Int × Int) (List Int)) :=
  fun (x : (List Int × Int)) => match x with | (less1, i2) => if (decide (i2 < (r1.1.length : Int))) then ((gameroomlaw_MagicMakes_J10n r1 less1 i2)) else (some (.done less1))

theorem gameroomlaw_MagicMakes_L2n_le  (r1 : (List Int × Int)) (x) : Le (gameroomlaw_MagicMakes_L2n r1 x) (gameroomlaw_MagicMakes_L2 r1 x) := by
  unfold gameroomlaw_MagicMakes_L2n gameroomlaw_MagicMakes_L2
  try dsimp only
  repeat' (first | with_reducible exact Le.refl _ | with_reducible exact gameroomlaw_MagicMakes_J10n_le _ _ _ | with_reducible refine Le.asrt ?_ | with_reducible refine Le.ite ?_ ?_ | refine Le.bind ?_ (fun _ => ?_) | refine Le.loopN' (fun _ => ?_))

def gameroomlaw_MagicMakes_J9n  (r1 : (List Int × Int)) (less2 : List Int) : Option Bool :=
  (gameroomref_MagicKind_mn r1.1).bind fun r5 => (gameroomref_OrderIs_mn less2).bind fun r6 => some (r6 && (decide ((2 : Int) ≤ r5.1)))

theorem gameroomlaw_MagicMakes_J9n_le  (r1 : (List Int × Int)) (less2 : List Int) : Le (gameroomlaw_MagicMakes_J9n r1 less2) (gameroomlaw_MagicMakes_J9 r1 less2) := by
  unfold gameroomlaw_MagicMakes_J9n gameroomlaw_MagicMakes_J9
  repeat' (first | with_reducible exact Le.refl _ | with_reducible exact gameroomref_MagicKind_mn_le _ | with_reducible exact gameroomref_OrderIs_mn_le _ | with_reducible refine Le.asrt ?_ | with_reducible refine Le.ite ?_ ?_ | refine Le.bind ?_ (fun _ => ?_) | refine Le.loopN' (fun _ => ?_))

def gameroomlaw_MagicMakes_K2n  (r1 : (List Int × Int)) : (List Int) → Option Bool :=
  fun (x : (List Int)) => match x with | less2 => (gameroomlaw_MagicMakes_J9n r1) less2

theorem gameroomlaw_MagicMakes_K2n_le  (r1 : (List Int × Int)) (x) : Le (gameroomlaw_MagicMakes_K2n r1 x) (gameroomlaw_MagicMakes_K2 r1 x) := by
  unfold gameroomlaw_MagicMakes_K2n gameroomlaw_MagicMakes_K2
  try dsimp only
  repeat' (first | with_reducible exact Le.refl _ | with_reducible exact gameroomlaw_MagicMakes_J9n_le _ _ | with_reducible refine Le.asrt ?_ | with_reducible refine Le.ite ?_ ?_ | refine Le.bind ?_ (fun _ => ?_) | refine Le.loopN' (fun _ => ?_))

def gameroomlaw_MagicMakes_J8n  (r1 : (List Int × Int)) : Option Bool :=
  (loopN (gameroomlaw_MagicMakes_L2n r1) 150 (([] : List Int), 0)).bind (gameroomlaw_MagicMakes_K2n r1)

theorem gameroomlaw_MagicMakes_J8n_le  (r1 : (List Int × Int)) : Le (gameroomlaw_MagicMakes_J8n r1) (gameroomlaw_MagicMakes_J8 r1) := by
  unfold gameroomlaw_MagicMakes_J8n gameroomlaw_MagicMakes_J8
  repeat' (first | with_reducible exact Le.refl _ | with_reducible exact gameroomlaw_MagicMakes_L2n_le _ _ | with_reducible exact gameroomlaw_MagicMakes_K2n_le _ _ | with_reducible refine Le.asrt ?_ | with_reducible refine Le.ite ?_ ?_ | refine Le.bind ?_ (fun _ => ?_) | refine Le.loopN' (fun _ => ?_))

def gameroomlaw_MagicMakes_J7n  (n1 : Int) (r1 : (List Int × Int)) : Option Bool :=
  if ((r1.2 != 0) || ((r1.1.length : Int) != (w64 (n1 * n1)))) then (some false) else ((gameroomlaw_MagicMakes_J8n r1))

theorem gameroomlaw_MagicMakes_J7n_le  (n1 : Int) (r1 : (List Int × Int)) : Le (gameroomlaw_MagicMakes_J7n n1 r1) (gameroomlaw_MagicMakes_J7 n1 r1) := by
  unfold gameroomlaw_MagicMakes_J7n gameroomlaw_MagicMakes_J7
  repeat' (first | with_reducible exact Le.refl _ | with_reducible exact gameroomlaw_MagicMakes_J8n_le _ | with_reducible refine Le.asrt ?_ | with_reducible refine Le.ite ?_ ?_ | refine Le.bind ?_ (fun _ => ?_) | refine Le.loopN' (fun _ => ?_))

def gameroomlaw_MagicMakes_J6n  (n1 : Int) (r1 : (List Int × Int)) : Option Bool :=
  if (n1 == 2) then (some ((r1.2 == 10) && ((r1.1.length : Int) == 0))) else ((gameroomlaw_MagicMakes_J7n n1 r1))

theorem gameroomlaw_MagicMakes_J6n_le  (n1 : Int) (r1 : (List Int × Int)) : Le (gameroomlaw_MagicMakes_J6n n1 r1) (gameroomlaw_MagicMakes_J6 n1 r1) := by
  unfold gameroomlaw_MagicMakes_J6n gameroomlaw_MagicMakes_J6
  repeat' (first | with_reducible exact Le.refl _ | with_reducible exact gameroomlaw_MagicMakes_J7n_le _ _ | with_reducible refine Le.asrt ?_ | with_reducible refine Le.ite ?_ ?_ | refine Le.bind ?_ (fun _ => ?_) | refine Le.loopN' (fun _ => ?_))

def gameroomlaw_MagicMakes_J5n  (n1 : Int) (r1 : (List Int × Int)) : Option Bool :=
  if ((decide (n1 < 1)) || (decide ((12 : Int) < n1))) then (some ((r1.2 == 3) && ((r1.1.length : Int) == 0))) else ((gameroomlaw_MagicMakes_J6n n1 r1))

theorem gameroomlaw_MagicMakes_J5n_le  (n1 : Int) (r1 : (List Int × Int)) : Le (gameroomlaw_MagicMakes_J5n n1 r1) (gameroomlaw_MagicMakes_J5 n1 r1) := by
  unfold gameroomlaw_MagicMakes_J5n gameroomlaw_MagicMakes_J5
  repeat' (first | with_reducible exact Le.refl _ | with_reducible exact gameroomlaw_MagicMakes_J6n_le _ _ | with_reducible refine Le.asrt ?_ | with_reducible refine Le.ite ?_ ?_ | refine Le.bind ?_ (fun _ => ?_) | refine Le.loopN' (fun _ => ?_))

/-- Make's answer is what it ought to be: small cases. -/
def mkChk (n : Nat) : Bool := match magic_Make_mn (n : Int) with
  | some r => gameroomlaw_MagicMakes_J5n (n : Int) r == some true
  | none => false

set_option maxRecDepth 100000 in
theorem mk_small : ∀ n : Fin 13, mkChk n.val = true := by decide +kernel

theorem make_ok (n : Int) : ∃ r, magic_Make_m n = some r ∧ gameroomlaw_MagicMakes_J5 n r = some true := by
  by_cases h : 1 ≤ n ∧ n ≤ 12
  · have hk := mk_small ⟨n.toNat, by omega⟩
    unfold mkChk at hk
    rw [show ((n.toNat : Nat) : Int) = n by omega] at hk
    cases hm : magic_Make_mn n with
    | none => rw [hm] at hk; cases hk
    | some r =>
      rw [hm] at hk
      simp only [beq_iff_eq] at hk
      exact ⟨r, magic_Make_mn_le n r hm, gameroomlaw_MagicMakes_J5n_le n r true hk⟩
  · refine ⟨([], 3), ?_, ?_⟩
    · unfold magic_Make_m
      rw [if_pos (by simp only [Bool.or_eq_true, decide_eq_true_eq]; omega)]
    · unfold gameroomlaw_MagicMakes_J5
      rw [if_pos (by simp only [Bool.or_eq_true, decide_eq_true_eq]; omega)]
      rfl
end Go.Proofs.Ytlpaklmfgldkoaa
