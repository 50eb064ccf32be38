/-
  What a row's list of package-level variables gives.
-/
import Derived.Test.YtdbdcbejmbpbmaaDoorRows
import Derived.Test.YtdbdcbejmbpbmaaDoorSV
import Derived.Test.YtdbdcbejmbpbmaaDoorLibUv
import Derived.Test.YtdbdcbejmbpbmaaDoorSX
import Derived.Test.YtdbdcbejmbpbmaaDoorLibIt
import Derived.ProofKit
import Derived.LaidMore
import Derived.OpenShut
import Derived.Stop.Joined
import Derived.Lib.LaidU8T
import Derived.Lib.AppendIntMem
import Derived.PinnedBridge
namespace Go.Proofs.YtdbdcbejmbpbmaaDoor
open Go Go.GL Go.RowKit Go.ChangeShapes Go.WideShapes Go.ChangeAt Go.Shelf Go.Lib

theorem acceptD_eq : (Rows.laid_unicode_utf8_acceptRanges : DataW Unit) = acceptData := by kernel_rfl
theorem u8extra : U8Extra Tryd.prog ValidR where
  n3 := by kernel_rfl
  n4 := by kernel_rfl
  y3 := by kernel_rfl
  y4 := by kernel_rfl
  c5 := by kernel_rfl
  c119 := by kernel_rfl
  c138 := by kernel_rfl
theorem utab_of {l : List (String × DataW Unit)} {W : World} (h : laidMet Tryd.prog l W) (h3 : ("unicode/utf8.first", Rows.laid_unicode_utf8_first) ∈ l) (h4 : ("unicode/utf8.acceptRanges", Rows.laid_unicode_utf8_acceptRanges) ∈ l) :
    UTab 0 1 W W.heap.size := by
  have r3 := laidMet.reads h h3
  have r4 := laidMet.reads h h4
  rw [show (Rows.laid_unicode_utf8_first : DataW Unit) = firstData from Go.Pinned.utf8First_eq] at r3
  rw [acceptD_eq] at r4
  exact UTab.of (utf8Tabs_of_readsT (U8Types.of196 ValidL) u8extra r3 r4)
set_option maxRecDepth 100000 in
noncomputable def tabCells : Array Value := (firstTab.map fun z => Value.int .u8 z).toArray
noncomputable def accCells : Array Value := ((List.range 16).flatMap fun i => [Value.int .u8 (accLo i), Value.int .u8 (accHi i)]).toArray
def layIn (cs : Array Value) (o : Obj) : Obj := match o with
  | .cells _ t frozen => .cells cs t frozen
  | o => o
end Go.Proofs.YtdbdcbejmbpbmaaDoor
