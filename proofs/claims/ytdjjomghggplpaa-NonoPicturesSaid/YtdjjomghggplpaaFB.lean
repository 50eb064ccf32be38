/-
  Models and walks, printed by our own program (wip/gen).
-/
import Derived.Test.YtdjjomghggplpaaLibW
import Derived.Test.YtdjjomghggplpaaProg
namespace Go.Proofs.Ytdjjomghggplpaa
open Go Go.GL Go.RowKit


theorem Fol : Try.prog.follows .mixedOrders = true := by kernel_rfl
theorem Info3 : (Try.prog.info? 3).map (fun i => (i.zero, i.size, i.bytes)) = some (some (.int .i64 0), 1, 8) := by kernel_rfl
theorem Agg3 : runPure Try.prog (isAgg 3) = some false := by kernel_rfl
theorem Und22 : Try.prog.underlying 22 = some (.slice 3) := Try.underlying22
theorem Info22 : (Try.prog.info? 22).map (fun i => (i.zero, i.size, i.bytes)) = some (some (.slice none 0 0), 1, 24) := by kernel_rfl
theorem Agg22 : runPure Try.prog (isAgg 22) = some false := by kernel_rfl
theorem Und36 : Try.prog.underlying 36 = some (.slice 22) := Try.underlying36
theorem Info36 : (Try.prog.info? 36).map (fun i => (i.zero, i.size, i.bytes)) = some (some (.slice none 0 0), 1, 24) := by kernel_rfl
theorem Agg36 : runPure Try.prog (isAgg 36) = some false := by kernel_rfl
theorem Und154 : Try.prog.underlying 154 = some (.slice 36) := Try.underlying154
theorem Agg220 : runPure Try.prog (isAgg 220) = some false := by kernel_rfl
set_option maxRecDepth 100000 in
theorem Eql225 {a0 b0 : Int} {a1 b1 : Int} (w : World) : (Op.equal 225 (.agg #[.int .i64 a0, .int .i64 a1]) (.agg #[.int .i64 b0, .int .i64 b1])).run Try.prog w = .ok (((a0 == b0) && (a1 == b1))) w :=
  eq_struct [a0 == b0, a1 == b1] Try.underlying225 (by kernel_rfl) ⟨⟨by decide, by kernel_rfl, _, _, rfl, rfl, eqv_int Try.underlying3⟩, ⟨by decide, by kernel_rfl, _, _, rfl, rfl, eqv_int Try.underlying3⟩, trivial⟩
end Go.Proofs.Ytdjjomghggplpaa
