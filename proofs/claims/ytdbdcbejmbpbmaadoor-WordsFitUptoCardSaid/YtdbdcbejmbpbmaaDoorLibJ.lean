/-
  The whole of an array in a block as a slice that is copied into.
-/
import Derived.Test.YtdbdcbejmbpbmaaDoorLibD
namespace Go.GL
open Go Go.RowKit
variable {Ds : List Nat} {ro : Option Nat}

section
variable {P : Program} {C : World → Prop} {hyps : List (Bool × Bool)} {w0 w : World} {B : Nat} {l r : List HP} {e t t2 ty bt : TypeId} {inf : TypeInfo} {A2 : Option Addr} {n c2 dc n2 : Nat} {m ys : List Int}

end

end Go.GL
