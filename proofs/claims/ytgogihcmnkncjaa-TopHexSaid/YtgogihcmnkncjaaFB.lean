/-
  Models and walks, printed by our own program (wip/gen).
-/
import Derived.Test.YtgogihcmnkncjaaLibW
import Derived.Test.YtgogihcmnkncjaaProg
namespace Go.Proofs.Ytgogihcmnkncjaa
open Go Go.GL Go.RowKit


theorem Fol : Try.prog.follows .mixedOrders = true := by kernel_rfl
theorem Info3 : (Try.prog.info? 3).map (fun i => (i.zero, i.size, i.bytes)) = some (some (.int .i64 0), 1, 8) := by kernel_rfl
theorem Agg3 : runPure Try.prog (isAgg 3) = some false := by kernel_rfl
theorem Info4 : (Try.prog.info? 4).map (fun i => (i.zero, i.size, i.bytes)) = some (some (.bool false), 1, 1) := by kernel_rfl
theorem Agg4 : runPure Try.prog (isAgg 4) = some false := by kernel_rfl
theorem Und22 : Try.prog.underlying 22 = some (.slice 3) := Try.underlying22
theorem Info22 : (Try.prog.info? 22).map (fun i => (i.zero, i.size, i.bytes)) = some (some (.slice none 0 0), 1, 24) := by kernel_rfl
theorem Agg22 : runPure Try.prog (isAgg 22) = some false := by kernel_rfl
theorem Und40 : Try.prog.underlying 40 = some (.slice 22) := Try.underlying40
theorem Info40 : (Try.prog.info? 40).map (fun i => (i.zero, i.size, i.bytes)) = some (some (.slice none 0 0), 1, 24) := by kernel_rfl
theorem Agg40 : runPure Try.prog (isAgg 40) = some false := by kernel_rfl
theorem Und114 : Try.prog.underlying 114 = some (.slice 4) := Try.underlying114
theorem Info114 : (Try.prog.info? 114).map (fun i => (i.zero, i.size, i.bytes)) = some (some (.slice none 0 0), 1, 24) := by kernel_rfl
theorem Agg114 : runPure Try.prog (isAgg 114) = some false := by kernel_rfl
theorem Info115 : (Try.prog.info? 115).map (fun i => (i.zero, i.size, i.bytes)) = some (some (.nilFunc), 1, 8) := by kernel_rfl
theorem Agg115 : runPure Try.prog (isAgg 115) = some false := by kernel_rfl
theorem Info145 : (Try.prog.info? 145).map (fun i => (i.zero, i.size, i.bytes)) = some (some (.nilFunc), 1, 8) := by kernel_rfl
theorem Agg145 : runPure Try.prog (isAgg 145) = some false := by kernel_rfl
theorem UndA190 : Try.prog.underlying 190 = some (.array 6 189) := Try.underlying190
end Go.Proofs.Ytgogihcmnkncjaa
