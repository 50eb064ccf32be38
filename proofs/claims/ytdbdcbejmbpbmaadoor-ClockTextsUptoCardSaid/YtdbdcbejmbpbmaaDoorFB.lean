/-
  Models and walks, printed by our own program (wip/gen).
-/
import Derived.Test.YtdbdcbejmbpbmaaDoorLibW
import Derived.Test.YtdbdcbejmbpbmaaDoorProg
namespace Go.Proofs.YtdbdcbejmbpbmaaDoor
open Go Go.GL Go.RowKit


theorem Fol : Tryd.prog.follows .mixedOrders = true := by kernel_rfl
theorem Info5 : (Tryd.prog.info? 5).map (fun i => (i.zero, i.size, i.bytes)) = some (some (.int .u8 0), 1, 1) := by kernel_rfl
theorem Info9 : (Tryd.prog.info? 9).map (fun i => (i.zero, i.size, i.bytes)) = some (some (.string ⟨#[]⟩), 1, 16) := by kernel_rfl
theorem Agg9 : runPure Tryd.prog (isAgg 9) = some false := by kernel_rfl
theorem Und40 : Tryd.prog.underlying 40 = some (.slice 9) := Tryd.underlying40
end Go.Proofs.YtdbdcbejmbpbmaaDoor
