/-
  Models and walks, printed by our own program (wip/gen).
-/
import Derived.Test.YtoickcchcjehdaaLibW
import Derived.Test.YtoickcchcjehdaaProg
namespace Go.Proofs.Ytoickcchcjehdaa
open Go Go.GL Go.RowKit


theorem Fol : Try.prog.follows .mixedOrders = true := by kernel_rfl
theorem Info3 : (Try.prog.info? 3).map (fun i => (i.zero, i.size, i.bytes)) = some (some (.int .i64 0), 1, 8) := by kernel_rfl
theorem Agg3 : runPure Try.prog (isAgg 3) = some false := by kernel_rfl
theorem Und22 : Try.prog.underlying 22 = some (.slice 3) := Try.underlying22
theorem Info22 : (Try.prog.info? 22).map (fun i => (i.zero, i.size, i.bytes)) = some (some (.slice none 0 0), 1, 24) := by kernel_rfl
theorem Agg22 : runPure Try.prog (isAgg 22) = some false := by kernel_rfl
theorem Und42 : Try.prog.underlying 42 = some (.slice 22) := Try.underlying42
theorem Info42 : (Try.prog.info? 42).map (fun i => (i.zero, i.size, i.bytes)) = some (some (.slice none 0 0), 1, 24) := by kernel_rfl
theorem Agg42 : runPure Try.prog (isAgg 42) = some false := by kernel_rfl
theorem UndA158 : Try.prog.underlying 158 = some (.array 3 3) := Try.underlying158
end Go.Proofs.Ytoickcchcjehdaa
