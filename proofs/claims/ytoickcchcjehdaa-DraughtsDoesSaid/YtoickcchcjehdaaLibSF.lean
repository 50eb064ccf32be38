/-
  slices.SortFunc on a row of the call's own whose elements have several cells, under a comparison that parts whatever two are not one: what the shelf's contract leaves.
-/
import Derived.Test.YtoickcchcjehdaaLibV
import Derived.Test.YtoickcchcjehdaaLibST
import Derived.Shelf.SlSortCmp.NoneTotal
namespace Go.GL
open Go Go.RowKit Go.Sort Go.Proofs Go.Shelf
variable {Ds : List Nat} {ro : Option Nat}

section
variable {α : Type} [Inhabited α] {F : α → List Value} {k : Nat}

end
end Go.GL
