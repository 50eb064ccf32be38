/-
  A small library of our own: plain facts for reasoning on the models.
-/
import Derived.Test.YtdbdcbejmbpbmaaDoorLibT
namespace Go.GL
open Go
variable {Ds : List Nat} {ro : Option Nat}

theorem w64_of {x : Int} (h : -9223372036854775808 ≤ x ∧ x ≤ 9223372036854775807) : w64 x = x := IntWalk.i64_in x h

/-- A loop whose states are told one by one. -/
theorem loop_count {S R : Type} {step : S → Option (St S R)} (f : Nat → S) (n : Nat) (r : R) (h : ∀ i, i < n → step (f i) = some (.next (f (i + 1)))) (hd : step (f n) = some (.done r)) : loop step (f 0) = some r := by
  have key : ∀ m i, i + m = n → loopN step (m + 1) (f i) = some r := by
    intro m
    induction m with
    | zero => intro i hi; obtain rfl : i = n := by omega
              simp [loopN, hd]
    | succ m ih => intro i hi
                   rw [loopN, h i (by omega)]
                   exact ih (i + 1) (by omega)
  exact loop_of (key n 0 (by omega))

theorem loop_from {S R : Type} {step : S → Option (St S R)} {s0 : S} {r : R} (f : Nat → S) (n : Nat) (h0 : f 0 = s0) (h : ∀ i, i < n → step (f i) = some (.next (f (i + 1)))) (hd : step (f n) = some (.done r)) : loop step s0 = some r :=
  h0 ▸ loop_count f n r h hd

theorem asrt_pos {α : Type} {p : Prop} [Decidable p] {k : Option α} (h : p) : asrt p k = k := if_pos h

theorem geti_nat (l : List Int) (k : Nat) : geti l (k : Int) = l.getD k 0 := by simp [geti]

end Go.GL
