/-
  A small library of our own: bits of small numbers.
-/
import Derived.Test.YtdbdcbejmbpbmaaDoorLibM
namespace Go.GL
open Go
variable {Ds : List Nat} {ro : Option Nat}

end Go.GL
