/-
  A small library of our own: an argument that is a slice of structs of three ints.
-/
import Derived.Test.YtdjjomghggplpaaLibAP
namespace Go.GL
open Go Go.RowKit Go.ChangeShapes Go.WideShapes Go.ChangeAt

section
variable {P : Program} {C : World → Prop} {hyps : List (Bool × Bool)} {w0 w : World} {B : Nat} {l r ps fs : List HP} {t e : TypeId} {inf : TypeInfo} {A : Option Addr} {n c k : Nat} {α : Type} {F : α → List Value} {m : List α} {i : Int}

end

section
variable {H : Type} {enc : TypeId × Value → H} {P : Program}

end
end Go.GL
