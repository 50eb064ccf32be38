/-
  A small library of our own: strings as lists of bytes; slices of bytes and of strings as they come in, and appended.
-/
import Derived.Test.YtoickcchcjehdaaLibSt
import Derived.Test.YtoickcchcjehdaaLibAP
import Derived.Deep.Strs
import Derived.Lib.AppendStr
import Derived.Lib.ConvBytes
import Derived.Lib.SlBytesConst
namespace Go.GL
open Go Go.RowKit Go.ChangeShapes Go.WideShapes Go.ChangeAt
variable {Ds : List Nat} {ro : Option Nat}

section
variable {P : Program} {C : World → Prop} {hyps : List (Bool × Bool)} {w0 w : World} {B : Nat} {l r ps : List HP} {A : Option Addr} {n c : Nat} {m : List Int} {t e : TypeId} {inf : TypeInfo} {s s1 s2 : List UInt8}

/-! ### Bytes and strings appended -/
/-! ### A literal's row that a conversion has marked -/

end
end Go.GL

namespace Go.GL
open Go Go.RowKit Go.ChangeShapes Go.WideShapes Go.ChangeAt
section
variable {H : Type} {enc : TypeId × Value → H} {P : Program}

end
end Go.GL
namespace Go.GL
open Go Go.RowKit
section
variable {P : Program} {w0 w : World} {B : Nat} {A : Option Addr} {n c : Nat} {m : List Int}
end
end Go.GL
