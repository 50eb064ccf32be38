/-
  A small library of our own: a region that draws its order, with literals that may be built ahead of a load.
-/
import Derived.Test.YtdbdcbejmbpbmaaDoorLibR
namespace Go.GL
open Go Go.RowKit
variable {Ds : List Nat} {ro : Option Nat}

section
variable {P : Program} {ops : Array Oper} {Q : Exit → Act → World → Prop} {S : World → Prop}

end

end Go.GL
