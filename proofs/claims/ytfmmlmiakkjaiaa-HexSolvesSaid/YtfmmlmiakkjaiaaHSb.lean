/-
  Ways and what they cost, in plain words; the least cost of a way to a goal.
-/
import Derived.Test.YtfmmlmiakkjaiaaLibY
namespace Go.GL
open Go

inductive WayC (adj : Nat → Nat → Prop) (st ok : Nat → Prop) (cost : Nat → Nat) : Nat → Nat → Prop
  | start {b : Nat} : st b → ok b → WayC adj st ok cost (cost b) b
  | step {n a b : Nat} : WayC adj st ok cost n a → adj a b → ok b → WayC adj st ok cost (n + cost b) b

/-- What the least cost of a way to a goal is; -1: there is no way. -/
def AnsS (Wy : Nat → Nat → Prop) (goal : Nat → Prop) (k : Int) : Prop :=
  (k = -1 ∧ ∀ n b, goal b → ¬ Wy n b) ∨ ∃ n b, k = ((n : Nat) : Int) ∧ goal b ∧ Wy n b ∧ ∀ m b', goal b' → Wy m b' → n ≤ m

theorem AnsS.uniq {Wy : Nat → Nat → Prop} {goal : Nat → Prop} {k k' : Int} (h : AnsS Wy goal k) (h' : AnsS Wy goal k') : k = k' := by
  rcases h with ⟨h1, h2⟩ | ⟨n, b, h1, h2, h3, h4⟩ <;> rcases h' with ⟨k1, k2⟩ | ⟨n', b', k1, k2, k3, k4⟩
  · omega
  · exact absurd k3 (h2 _ _ k2)
  · exact absurd h3 (k2 _ _ h2)
  · have := h4 _ _ k2 k3
    have := k4 _ _ h2 h3
    omega

end Go.GL
