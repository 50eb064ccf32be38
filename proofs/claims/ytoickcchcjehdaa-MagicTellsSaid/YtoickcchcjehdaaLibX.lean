/-
  A small library of our own: loops over lists: searches, folds, counts up and down.
-/
import Derived.Test.YtoickcchcjehdaaLibP
import Derived.Test.YtoickcchcjehdaaLibN
import Derived.Test.YtoickcchcjehdaaLibM
import Derived.Test.YtoickcchcjehdaaLibK
import Derived.Test.YtoickcchcjehdaaLibW
namespace Go.GL
open Go
variable {Ds : List Nat} {ro : Option Nat}

theorem w64_nat {k : Nat} (h : k ≤ 9223372036854775807) : w64 (k : Int) = (k : Int) := w64_of (by omega)
end Go.GL
