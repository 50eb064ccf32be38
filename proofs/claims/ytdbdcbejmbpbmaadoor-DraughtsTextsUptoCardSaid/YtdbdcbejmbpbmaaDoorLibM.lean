/-
  A small library of our own: lists by their entries, of anything.
-/
import Derived.Test.YtdbdcbejmbpbmaaDoorLibN
import Derived.Test.YtdbdcbejmbpbmaaDoorLibR
namespace Go.GL
open Go
variable {Ds : List Nat} {ro : Option Nat}

def tab {α : Type} (n : Nat) (g : Nat → α) : List α := (List.range n).map g
section
variable {α : Type} {n : Nat} {g f : Nat → α}
end
end Go.GL
