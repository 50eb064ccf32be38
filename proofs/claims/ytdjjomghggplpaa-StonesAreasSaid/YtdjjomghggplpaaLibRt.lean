/-
  A small library of our own: two rows appended to rows at once.
-/
import Derived.Test.YtdjjomghggplpaaLibW
namespace Go.GL
open Go Go.RowKit
section
variable {P : Program} {w0 w : World} {B : Nat} {l r ps : List HP} {t e ei : TypeId} {inf : TypeInfo} {A : Option Addr} {n c : Nat} {hd : List Hd} {m : List (List Int)}

end
end Go.GL
