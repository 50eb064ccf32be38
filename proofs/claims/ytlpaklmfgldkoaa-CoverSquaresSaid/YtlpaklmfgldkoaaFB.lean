/-
  Models and walks, printed by our own program (wip/gen).
-/
import Derived.Test.YtlpaklmfgldkoaaLibW
import Derived.Test.YtlpaklmfgldkoaaProg
namespace Go.Proofs.Ytlpaklmfgldkoaa
open Go Go.GL Go.RowKit


theorem Fol : Try.prog.follows .mixedOrders = true := by kernel_rfl
theorem Info3 : (Try.prog.info? 3).map (fun i => (i.zero, i.size, i.bytes)) = some (some (.int .i64 0), 1, 8) := by kernel_rfl
theorem Agg3 : runPure Try.prog (isAgg 3) = some false := by kernel_rfl
theorem Und34 : Try.prog.underlying 34 = some (.slice 3) := Try.underlying34
theorem Info34 : (Try.prog.info? 34).map (fun i => (i.zero, i.size, i.bytes)) = some (some (.slice none 0 0), 1, 24) := by kernel_rfl
theorem Agg34 : runPure Try.prog (isAgg 34) = some false := by kernel_rfl
theorem Und45 : Try.prog.underlying 45 = some (.slice 34) := Try.underlying45
theorem Info110 : (Try.prog.info? 110).map (fun i => (i.zero, i.size, i.bytes)) = some (some (.nilFunc), 1, 8) := by kernel_rfl
theorem Agg110 : runPure Try.prog (isAgg 110) = some false := by kernel_rfl
theorem Info111 : (Try.prog.info? 111).map (fun i => (i.zero, i.size, i.bytes)) = some (some (.int .u64 0), 1, 8) := by kernel_rfl
theorem Agg111 : runPure Try.prog (isAgg 111) = some false := by kernel_rfl
theorem Und113 : Try.prog.underlying 113 = some (.slice 111) := Try.underlying113
theorem Info113 : (Try.prog.info? 113).map (fun i => (i.zero, i.size, i.bytes)) = some (some (.slice none 0 0), 1, 24) := by kernel_rfl
theorem Agg113 : runPure Try.prog (isAgg 113) = some false := by kernel_rfl
theorem Info114 : (Try.prog.info? 114).map (fun i => (i.zero, i.size, i.bytes)) = some (some (.nilFunc), 1, 8) := by kernel_rfl
theorem Agg114 : runPure Try.prog (isAgg 114) = some false := by kernel_rfl
end Go.Proofs.Ytlpaklmfgldkoaa
