/-
  Ways and what they cost, in plain words; the least cost of a way to a goal.
-/
import Derived.Test.YtgogihcmnkncjaaLibY
namespace Go.GL
open Go

inductive WayC (adj : Nat → Nat → Prop) (st ok : Nat → Prop) (cost : Nat → Nat) : Nat → Nat → Prop
  | start {b : Nat} : st b → ok b → WayC adj st ok cost (cost b) b
  | step {n a b : Nat} : WayC adj st ok cost n a → adj a b → ok b → WayC adj st ok cost (n + cost b) b

/-- What the least cost of a way to a goal is; -1: there is no way. -/
def AnsS (Wy : Nat → Nat → Prop) (goal : Nat → Prop) (k : Int) : Prop :=
  (k = -1 ∧ ∀ n b, goal b → ¬ Wy n b) ∨ ∃ n b, k = ((n : Nat) : Int) ∧ goal b ∧ Wy n b ∧ ∀ m b', goal b' → Wy m b' → n ≤ m

end Go.GL
