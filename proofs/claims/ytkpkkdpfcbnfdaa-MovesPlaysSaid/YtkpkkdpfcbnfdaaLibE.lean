import Derived.Test.YtkpkkdpfcbnfdaaLibZ
import Derived.Test.YtkpkkdpfcbnfdaaLibX
namespace Go.GL
open Go
variable {Ds : List Nat} {ro : Option Nat}
end Go.GL
