/-
  slices.Sort on a row of integers of the call's own: what the shelf's contract leaves.
-/
import Derived.Test.YtjfloofoobllaaaLibW
import Derived.Shelf.Sort.Plain
import Derived.Shelf.Slices.In.SortNone
import Derived.Sort.OwnSortedInts
import Derived.Shelf.Slices.CompactI
namespace Go.GL
open Go Go.RowKit Go.Sort Go.Proofs Go.Shelf
variable {Ds : List Nat} {ro : Option Nat}

end Go.GL
