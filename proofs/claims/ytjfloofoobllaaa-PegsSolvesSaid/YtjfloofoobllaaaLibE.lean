/-
  Plain facts on lists in order.
-/
import Derived.Test.YtjfloofoobllaaaLibZ
import Derived.Test.YtjfloofoobllaaaLibX
namespace Go.GL
open Go
variable {Ds : List Nat} {ro : Option Nat}

end Go.GL
