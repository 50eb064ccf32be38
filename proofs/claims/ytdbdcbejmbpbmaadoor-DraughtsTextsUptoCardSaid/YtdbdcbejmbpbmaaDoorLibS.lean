/-
  A small library of our own: a region that draws its order, with one operation (a call, say) that is free of a load and leaves what is there as it is.
-/
import Derived.Test.YtdbdcbejmbpbmaaDoorLibQ
namespace Go.GL
open Go Go.RowKit
variable {Ds : List Nat} {ro : Option Nat}

section
variable {P : Program}
/-! A part of a struct's value leaves the world as it is. -/
end

section
variable {P : Program} {ops : Array Oper} {Q : Exit → Act → World → Prop} {S : World → Prop}

end

end Go.GL
