import Derived.Test.YtfmmlmiakkjaiaaLibZ
import Derived.Test.YtfmmlmiakkjaiaaLibX
namespace Go.GL
open Go
variable {Ds : List Nat} {ro : Option Nat}
end Go.GL
