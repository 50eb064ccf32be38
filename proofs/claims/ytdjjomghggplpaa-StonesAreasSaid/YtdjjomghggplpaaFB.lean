/-
  Models and walks, printed by our own program (wip/gen).
-/
import Derived.Test.YtdjjomghggplpaaLibW
import Derived.Test.YtdjjomghggplpaaProg
namespace Go.Proofs.Ytdjjomghggplpaa
open Go Go.GL Go.RowKit


theorem Fol : Try.prog.follows .mixedOrders = true := by kernel_rfl
theorem Info3 : (Try.prog.info? 3).map (fun i => (i.zero, i.size, i.bytes)) = some (some (.int .i64 0), 1, 8) := by kernel_rfl
theorem Agg3 : runPure Try.prog (isAgg 3) = some false := by kernel_rfl
theorem Info4 : (Try.prog.info? 4).map (fun i => (i.zero, i.size, i.bytes)) = some (some (.bool false), 1, 1) := by kernel_rfl
theorem Agg4 : runPure Try.prog (isAgg 4) = some false := by kernel_rfl
theorem Und22 : Try.prog.underlying 22 = some (.slice 3) := Try.underlying22
theorem Info22 : (Try.prog.info? 22).map (fun i => (i.zero, i.size, i.bytes)) = some (some (.slice none 0 0), 1, 24) := by kernel_rfl
theorem Agg22 : runPure Try.prog (isAgg 22) = some false := by kernel_rfl
theorem UndA85 : Try.prog.underlying 85 = some (.array 4 3) := Try.underlying85
theorem Und86 : Try.prog.underlying 86 = some (.slice 4) := Try.underlying86
theorem Und90 : Try.prog.underlying 90 = some (.slice 92) := Try.underlying90
theorem Info92 : (Try.prog.info? 92).map (fun i => (i.zero, i.size, i.bytes)) = some (some (.pointer none), 1, 8) := by kernel_rfl
theorem Agg92 : runPure Try.prog (isAgg 92) = some false := by kernel_rfl
end Go.Proofs.Ytdjjomghggplpaa
