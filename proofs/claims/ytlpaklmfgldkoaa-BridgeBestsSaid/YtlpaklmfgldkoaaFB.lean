/-
  Models and walks, printed by our own program (wip/gen).
-/
import Derived.Test.YtlpaklmfgldkoaaLibW
import Derived.Test.YtlpaklmfgldkoaaProg
namespace Go.Proofs.Ytlpaklmfgldkoaa
open Go Go.GL Go.RowKit


theorem Fol : Try.prog.follows .mixedOrders = true := by kernel_rfl
theorem Info3 : (Try.prog.info? 3).map (fun i => (i.zero, i.size, i.bytes)) = some (some (.int .i64 0), 1, 8) := by kernel_rfl
theorem Agg3 : runPure Try.prog (isAgg 3) = some false := by kernel_rfl
theorem Und34 : Try.prog.underlying 34 = some (.slice 3) := Try.underlying34
theorem Info34 : (Try.prog.info? 34).map (fun i => (i.zero, i.size, i.bytes)) = some (some (.slice none 0 0), 1, 24) := by kernel_rfl
theorem Agg34 : runPure Try.prog (isAgg 34) = some false := by kernel_rfl
theorem Und45 : Try.prog.underlying 45 = some (.slice 34) := Try.underlying45
theorem UndA147 : Try.prog.underlying 147 = some (.array 52 3) := Try.underlying147
theorem Agg148 : runPure Try.prog (isAgg 148) = some false := by kernel_rfl
theorem Info196 : (Try.prog.info? 196).map (fun i => (i.zero, i.size, i.bytes)) = some (some (.int .u64 0), 1, 8) := by kernel_rfl
theorem Agg196 : runPure Try.prog (isAgg 196) = some false := by kernel_rfl
set_option maxRecDepth 100000 in
theorem Eql198 {a0 b0 : Int} {a1 b1 : Int} (w : World) : (Op.equal 198 (.agg #[.int .u64 a0, .int .i64 a1]) (.agg #[.int .u64 b0, .int .i64 b1])).run Try.prog w = .ok (((a0 == b0) && (a1 == b1))) w :=
  eq_struct [a0 == b0, a1 == b1] Try.underlying198 (by kernel_rfl) ⟨⟨by decide, by kernel_rfl, _, _, rfl, rfl, eqv_int Try.underlying196⟩, ⟨by decide, by kernel_rfl, _, _, rfl, rfl, eqv_int Try.underlying3⟩, trivial⟩
end Go.Proofs.Ytlpaklmfgldkoaa
