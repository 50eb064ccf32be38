/-
  slices.Sort on a row of integers of the call's own: what the shelf's contract leaves.
-/
import Derived.Test.YtkpkkdpfcbnfdaaLibW
import Derived.Shelf.Sort.Plain
import Derived.Shelf.Slices.In.SortNone
import Derived.Sort.OwnSortedInts
import Derived.Shelf.Slices.CompactI
namespace Go.GL
open Go Go.RowKit Go.Sort Go.Proofs Go.Shelf
variable {Ds : List Nat} {ro : Option Nat}

/-- In rising order. -/
def sortI (l : List Int) : List Int := l.mergeSort fun x y => decide (x ≤ y)
theorem sortI_length (l : List Int) : (sortI l).length = l.length := by unfold sortI; exact List.length_mergeSort l

end Go.GL
