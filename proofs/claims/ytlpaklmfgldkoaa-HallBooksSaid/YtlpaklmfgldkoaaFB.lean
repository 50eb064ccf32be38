/-
  Models and walks, printed by our own program (wip/gen).
-/
import Derived.Test.YtlpaklmfgldkoaaLibW
import Derived.Test.YtlpaklmfgldkoaaProg
namespace Go.Proofs.Ytlpaklmfgldkoaa
open Go Go.GL Go.RowKit


theorem Fol : Try.prog.follows .mixedOrders = true := by kernel_rfl
theorem Info5 : (Try.prog.info? 5).map (fun i => (i.zero, i.size, i.bytes)) = some (some (.int .u8 0), 1, 1) := by kernel_rfl
theorem Agg5 : runPure Try.prog (isAgg 5) = some false := by kernel_rfl
theorem Info9 : (Try.prog.info? 9).map (fun i => (i.zero, i.size, i.bytes)) = some (some (.string ⟨#[]⟩), 1, 16) := by kernel_rfl
theorem Agg9 : runPure Try.prog (isAgg 9) = some false := by kernel_rfl
theorem Und22 : Try.prog.underlying 22 = some (.slice 9) := Try.underlying22
theorem Und23 : Try.prog.underlying 23 = some (.slice 5) := Try.underlying23
end Go.Proofs.Ytlpaklmfgldkoaa
