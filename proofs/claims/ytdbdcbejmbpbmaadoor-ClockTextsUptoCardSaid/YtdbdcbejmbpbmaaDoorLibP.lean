/-
  A small library of our own: plain facts for reasoning on the models.
-/
import Derived.Test.YtdbdcbejmbpbmaaDoorLibT
namespace Go.GL
open Go
variable {Ds : List Nat} {ro : Option Nat}

theorem w64_of {x : Int} (h : -9223372036854775808 ≤ x ∧ x ≤ 9223372036854775807) : w64 x = x := IntWalk.i64_in x h

theorem asrt_pos {α : Type} {p : Prop} [Decidable p] {k : Option α} (h : p) : asrt p k = k := if_pos h

end Go.GL
