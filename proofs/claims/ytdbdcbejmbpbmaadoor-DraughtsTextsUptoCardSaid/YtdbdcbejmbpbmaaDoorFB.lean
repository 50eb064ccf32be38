/-
  Models and walks, printed by our own program (wip/gen).
-/
import Derived.Test.YtdbdcbejmbpbmaaDoorLibW
import Derived.Test.YtdbdcbejmbpbmaaDoorProg
namespace Go.Proofs.YtdbdcbejmbpbmaaDoor
open Go Go.GL Go.RowKit


theorem Fol : Tryd.prog.follows .mixedOrders = true := by kernel_rfl
theorem Info3 : (Tryd.prog.info? 3).map (fun i => (i.zero, i.size, i.bytes)) = some (some (.int .i64 0), 1, 8) := by kernel_rfl
theorem Agg3 : runPure Tryd.prog (isAgg 3) = some false := by kernel_rfl
theorem Info4 : (Tryd.prog.info? 4).map (fun i => (i.zero, i.size, i.bytes)) = some (some (.bool false), 1, 1) := by kernel_rfl
theorem Agg4 : runPure Tryd.prog (isAgg 4) = some false := by kernel_rfl
theorem Info5 : (Tryd.prog.info? 5).map (fun i => (i.zero, i.size, i.bytes)) = some (some (.int .u8 0), 1, 1) := by kernel_rfl
theorem Info9 : (Tryd.prog.info? 9).map (fun i => (i.zero, i.size, i.bytes)) = some (some (.string ⟨#[]⟩), 1, 16) := by kernel_rfl
theorem Agg9 : runPure Tryd.prog (isAgg 9) = some false := by kernel_rfl
theorem Und22 : Tryd.prog.underlying 22 = some (.slice 3) := Tryd.underlying22
theorem Info22 : (Tryd.prog.info? 22).map (fun i => (i.zero, i.size, i.bytes)) = some (some (.slice none 0 0), 1, 24) := by kernel_rfl
theorem Agg22 : runPure Tryd.prog (isAgg 22) = some false := by kernel_rfl
theorem Info23 : (Tryd.prog.info? 23).map (fun i => (i.zero, i.size, i.bytes)) = some (some (.int .i64 0), 1, 8) := by kernel_rfl
theorem Agg23 : runPure Tryd.prog (isAgg 23) = some false := by kernel_rfl
theorem Und40 : Tryd.prog.underlying 40 = some (.slice 9) := Tryd.underlying40
end Go.Proofs.YtdbdcbejmbpbmaaDoor
