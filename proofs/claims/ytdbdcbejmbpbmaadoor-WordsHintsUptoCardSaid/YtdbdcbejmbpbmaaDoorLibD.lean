/-
  copy and clear, where what is written to is a row of the call's own.
-/
import Derived.Test.YtdbdcbejmbpbmaaDoorLibW
import Derived.Laws.IdiomCopy
namespace Go.GL
open Go Go.RowKit
variable {Ds : List Nat} {ro : Option Nat}

variable {P : Program} {w0 w : World} {B : Nat} {l r : List HP} {e t t2 ty : TypeId} {inf : TypeInfo} {A A2 : Option Addr} {n c c2 dn dc n2 : Nat} {lo : Int} {m ys : List Int}

section
variable {P : Program} {Q : Exit → Act → World → Prop} {n : Nat} {ρ : Env} {a : Act} {w : World}
end
end Go.GL
