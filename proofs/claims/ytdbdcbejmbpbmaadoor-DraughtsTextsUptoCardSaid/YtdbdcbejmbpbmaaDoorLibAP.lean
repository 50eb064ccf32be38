/-
  A small library of our own: slices of pairs as they come in, and appended whole.
-/
import Derived.Test.YtdbdcbejmbpbmaaDoorLibV
import Derived.Test.YtdbdcbejmbpbmaaDoorLibT
import Derived.Deep.Slices
namespace Go.GL
open Go Go.RowKit Go.ChangeShapes Go.WideShapes Go.ChangeAt
variable {Ds : List Nat} {ro : Option Nat}

def bigP : Int := 8796093022208

section
variable {P : Program} {C : World → Prop} {hyps : List (Bool × Bool)} {w0 w : World} {B : Nat} {l r ps fs : List HP} {t e : TypeId} {inf : TypeInfo} {A : Option Addr} {n c k : Nat} {α : Type} {F : α → List Value} {m : List α} {i : Int}

end

section
variable {H : Type} {enc : TypeId × Value → H} {P : Program}

end
section
variable {H : Type} {enc : TypeId × Value → H} {P : Program}
end
end Go.GL
