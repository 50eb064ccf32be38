/-
  A small library of our own: lists by their entries, of anything.
-/
import Derived.Test.YtdjjomghggplpaaLibN
import Derived.Test.YtdjjomghggplpaaLibR
namespace Go.GL
open Go
variable {Ds : List Nat} {ro : Option Nat}

section
variable {α : Type} {n : Nat} {g f : Nat → α}
end
end Go.GL
