/-
  Models and walks, printed by our own program (wip/gen).
-/
import Derived.Test.YtlpaklmfgldkoaaLibW
import Derived.Test.YtlpaklmfgldkoaaProg
namespace Go.Proofs.Ytlpaklmfgldkoaa
open Go Go.GL Go.RowKit


theorem Fol : Try.prog.follows .mixedOrders = true := by kernel_rfl
theorem Info3 : (Try.prog.info? 3).map (fun i => (i.zero, i.size, i.bytes)) = some (some (.int .i64 0), 1, 8) := by kernel_rfl
theorem Agg3 : runPure Try.prog (isAgg 3) = some false := by kernel_rfl
theorem Und34 : Try.prog.underlying 34 = some (.slice 3) := Try.underlying34
theorem Info34 : (Try.prog.info? 34).map (fun i => (i.zero, i.size, i.bytes)) = some (some (.slice none 0 0), 1, 24) := by kernel_rfl
theorem Agg34 : runPure Try.prog (isAgg 34) = some false := by kernel_rfl
theorem UndA117 : Try.prog.underlying 117 = some (.array 4 3) := Try.underlying117
theorem Info135 : (Try.prog.info? 135).map (fun i => (i.zero, i.size, i.bytes)) = some (some (.nilFunc), 1, 8) := by kernel_rfl
theorem Agg135 : runPure Try.prog (isAgg 135) = some false := by kernel_rfl
end Go.Proofs.Ytlpaklmfgldkoaa
