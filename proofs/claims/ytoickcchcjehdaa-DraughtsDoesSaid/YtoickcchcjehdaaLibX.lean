/-
  A small library of our own: loops over lists: searches, folds, counts up and down.
-/
import Derived.Test.YtoickcchcjehdaaLibP
import Derived.Test.YtoickcchcjehdaaLibN
import Derived.Test.YtoickcchcjehdaaLibM
import Derived.Test.YtoickcchcjehdaaLibK
import Derived.Test.YtoickcchcjehdaaLibW
namespace Go.GL
open Go
variable {Ds : List Nat} {ro : Option Nat}

end Go.GL
