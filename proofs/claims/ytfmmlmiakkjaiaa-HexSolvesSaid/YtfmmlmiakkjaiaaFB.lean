/-
  Models and walks, printed by our own program (wip/gen).
-/
import Derived.Test.YtfmmlmiakkjaiaaLibW
import Derived.Test.YtfmmlmiakkjaiaaProg
namespace Go.Proofs.Ytfmmlmiakkjaiaa
open Go Go.GL Go.RowKit


theorem Fol : Try.prog.follows .mixedOrders = true := by kernel_rfl
theorem Info3 : (Try.prog.info? 3).map (fun i => (i.zero, i.size, i.bytes)) = some (some (.int .i64 0), 1, 8) := by kernel_rfl
theorem Agg3 : runPure Try.prog (isAgg 3) = some false := by kernel_rfl
theorem Info4 : (Try.prog.info? 4).map (fun i => (i.zero, i.size, i.bytes)) = some (some (.bool false), 1, 1) := by kernel_rfl
theorem Agg4 : runPure Try.prog (isAgg 4) = some false := by kernel_rfl
theorem Und22 : Try.prog.underlying 22 = some (.slice 27) := Try.underlying22
theorem Info22 : (Try.prog.info? 22).map (fun i => (i.zero, i.size, i.bytes)) = some (some (.slice none 0 0), 1, 24) := by kernel_rfl
theorem Agg22 : runPure Try.prog (isAgg 22) = some false := by kernel_rfl
theorem Und27 : Try.prog.underlying 27 = some (.slice 3) := Try.underlying27
theorem Info27 : (Try.prog.info? 27).map (fun i => (i.zero, i.size, i.bytes)) = some (some (.slice none 0 0), 1, 24) := by kernel_rfl
theorem Agg27 : runPure Try.prog (isAgg 27) = some false := by kernel_rfl
theorem Info140 : (Try.prog.info? 140).map (fun i => (i.zero, i.size, i.bytes)) = some (some (.nilFunc), 1, 8) := by kernel_rfl
theorem Agg140 : runPure Try.prog (isAgg 140) = some false := by kernel_rfl
theorem Und147 : Try.prog.underlying 147 = some (.slice 4) := Try.underlying147
theorem Info147 : (Try.prog.info? 147).map (fun i => (i.zero, i.size, i.bytes)) = some (some (.slice none 0 0), 1, 24) := by kernel_rfl
theorem Agg147 : runPure Try.prog (isAgg 147) = some false := by kernel_rfl
theorem Agg156 : runPure Try.prog (isAgg 156) = some false := by kernel_rfl
theorem Info161 : (Try.prog.info? 161).map (fun i => (i.zero, i.size, i.bytes)) = some (some (.nilFunc), 1, 8) := by kernel_rfl
theorem Agg161 : runPure Try.prog (isAgg 161) = some false := by kernel_rfl
theorem Info185 : (Try.prog.info? 185).map (fun i => (i.zero, i.size, i.bytes)) = some (some (.int .u64 0), 1, 8) := by kernel_rfl
theorem Agg185 : runPure Try.prog (isAgg 185) = some false := by kernel_rfl
theorem UndA213 : Try.prog.underlying 213 = some (.array 6 212) := Try.underlying213
set_option maxRecDepth 100000 in
theorem Eql240 {a0 b0 : Int} {a1 b1 : Int} {a2 b2 : Int} (w : World) : (Op.equal 240 (.agg #[.int .u64 a0, .int .u64 a1, .int .i64 a2]) (.agg #[.int .u64 b0, .int .u64 b1, .int .i64 b2])).run Try.prog w = .ok (((a0 == b0) && ((a1 == b1) && (a2 == b2)))) w :=
  eq_struct [a0 == b0, a1 == b1, a2 == b2] Try.underlying240 (by kernel_rfl) ⟨⟨by decide, by kernel_rfl, _, _, rfl, rfl, eqv_int Try.underlying185⟩, ⟨by decide, by kernel_rfl, _, _, rfl, rfl, eqv_int Try.underlying185⟩, ⟨by decide, by kernel_rfl, _, _, rfl, rfl, eqv_int Try.underlying3⟩, trivial⟩
end Go.Proofs.Ytfmmlmiakkjaiaa
