/-
  Models and walks, printed by our own program (wip/gen).
-/
import Derived.Test.YtlpaklmfgldkoaaDoorLibW
import Derived.Test.YtlpaklmfgldkoaaDoorProg
namespace Go.Proofs.YtlpaklmfgldkoaaDoor
open Go Go.GL Go.RowKit


theorem Fol : Tryd.prog.follows .mixedOrders = true := by kernel_rfl
theorem Info3 : (Tryd.prog.info? 3).map (fun i => (i.zero, i.size, i.bytes)) = some (some (.int .i64 0), 1, 8) := by kernel_rfl
theorem Agg3 : runPure Tryd.prog (isAgg 3) = some false := by kernel_rfl
theorem Info4 : (Tryd.prog.info? 4).map (fun i => (i.zero, i.size, i.bytes)) = some (some (.bool false), 1, 1) := by kernel_rfl
theorem Agg4 : runPure Tryd.prog (isAgg 4) = some false := by kernel_rfl
theorem Und22 : Tryd.prog.underlying 22 = some (.slice 3) := Tryd.underlying22
theorem Info22 : (Tryd.prog.info? 22).map (fun i => (i.zero, i.size, i.bytes)) = some (some (.slice none 0 0), 1, 24) := by kernel_rfl
theorem Agg22 : runPure Tryd.prog (isAgg 22) = some false := by kernel_rfl
theorem Und50 : Tryd.prog.underlying 50 = some (.slice 22) := Tryd.underlying50
theorem Und54 : Tryd.prog.underlying 54 = some (.slice 4) := Tryd.underlying54
theorem UndA73 : Tryd.prog.underlying 73 = some (.array 8 72) := Tryd.underlying73
end Go.Proofs.YtlpaklmfgldkoaaDoor
