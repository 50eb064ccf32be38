/-
  A small library of our own: a loop's single steps, counting.
-/
import Derived.Test.YtdbdcbejmbpbmaaDoorLibP
namespace Go.GL
open Go
variable {Ds : List Nat} {ro : Option Nat}

theorem loop_next {S R : Type} {step : S → Option (St S R)} {s s' : S} {o : Option R} (h : step s = some (.next s')) (hr : loop step s' = o) (ho : o.isSome = true) : loop step s = o := by
  obtain ⟨r, rfl⟩ := Option.isSome_iff_exists.mp ho
  unfold loop at hr
  split at hr
  · rename_i hx
    obtain ⟨n, hn⟩ := Classical.choose_spec hx
    rw [Option.some.injEq] at hr
    exact loop_of (n := n + 1) (by simp only [loopN, h]; rw [hn, hr])
  · cases hr
theorem loop_next' {S R : Type} {step : S → Option (St S R)} {s s' : S} {r : R} (h : step s = some (.next s')) (hr : loop step s' = some r) : loop step s = some r := loop_next h hr rfl
theorem loop_done {S R : Type} {step : S → Option (St S R)} {s : S} {r : R} (h : step s = some (.done r)) : loop step s = some r := loop_of (n := 1) (by simp only [loopN, h])

/-! Counting -/
end Go.GL
