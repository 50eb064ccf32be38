/-
  Models and walks, printed by our own program (wip/gen).
-/
import Derived.Test.YtnplejebgbdfpaaLibW
import Derived.Test.YtnplejebgbdfpaaProg
namespace Go.Proofs.Ytnplejebgbdfpaa
open Go Go.GL Go.RowKit


theorem Fol : Try.prog.follows .mixedOrders = true := by kernel_rfl
theorem Info3 : (Try.prog.info? 3).map (fun i => (i.zero, i.size, i.bytes)) = some (some (.int .i64 0), 1, 8) := by kernel_rfl
theorem Agg3 : runPure Try.prog (isAgg 3) = some false := by kernel_rfl
theorem Und22 : Try.prog.underlying 22 = some (.slice 3) := Try.underlying22
theorem UndA30 : Try.prog.underlying 30 = some (.array 9 3) := Try.underlying30
end Go.Proofs.Ytnplejebgbdfpaa
