/-
  Models and walks, printed by our own program (wip/gen).
-/
import Derived.Test.YtkpkkdpfcbnfdaaLibW
import Derived.Test.YtkpkkdpfcbnfdaaProg
namespace Go.Proofs.Ytkpkkdpfcbnfdaa
open Go Go.GL Go.RowKit


theorem Fol : Try.prog.follows .mixedOrders = true := by kernel_rfl
theorem Info3 : (Try.prog.info? 3).map (fun i => (i.zero, i.size, i.bytes)) = some (some (.int .i64 0), 1, 8) := by kernel_rfl
theorem Agg3 : runPure Try.prog (isAgg 3) = some false := by kernel_rfl
theorem Info4 : (Try.prog.info? 4).map (fun i => (i.zero, i.size, i.bytes)) = some (some (.bool false), 1, 1) := by kernel_rfl
theorem Agg4 : runPure Try.prog (isAgg 4) = some false := by kernel_rfl
theorem Und22 : Try.prog.underlying 22 = some (.slice 3) := Try.underlying22
theorem Info22 : (Try.prog.info? 22).map (fun i => (i.zero, i.size, i.bytes)) = some (some (.slice none 0 0), 1, 24) := by kernel_rfl
theorem Agg22 : runPure Try.prog (isAgg 22) = some false := by kernel_rfl
theorem Info32 : (Try.prog.info? 32).map (fun i => (i.zero, i.size, i.bytes)) = some (some (.agg #[.int .i64 0, .int .i64 0, .slice none 0 0]), 3, 40) := by kernel_rfl
theorem Und38 : Try.prog.underlying 38 = some (.slice 32) := Try.underlying38
theorem Und94 : Try.prog.underlying 94 = some (.slice 100) := Try.underlying94
theorem UndA98 : Try.prog.underlying 98 = some (.array 6 3) := Try.underlying98
theorem Info100 : (Try.prog.info? 100).map (fun i => (i.zero, i.size, i.bytes)) = some (some (.pointer none), 1, 8) := by kernel_rfl
theorem Agg100 : runPure Try.prog (isAgg 100) = some false := by kernel_rfl
theorem Und105 : Try.prog.underlying 105 = some (.slice 4) := Try.underlying105
set_option maxRecDepth 100000 in
theorem Eql98 {a0 b0 : Int} {a1 b1 : Int} {a2 b2 : Int} {a3 b3 : Int} {a4 b4 : Int} {a5 b5 : Int} (w : World) : (Op.equal 98 (.agg #[.int .i64 a0, .int .i64 a1, .int .i64 a2, .int .i64 a3, .int .i64 a4, .int .i64 a5]) (.agg #[.int .i64 b0, .int .i64 b1, .int .i64 b2, .int .i64 b3, .int .i64 b4, .int .i64 b5])).run Try.prog w = .ok (((a0 == b0) && ((a1 == b1) && ((a2 == b2) && ((a3 == b3) && ((a4 == b4) && (a5 == b5))))))) w :=
  eq_array [a0 == b0, a1 == b1, a2 == b2, a3 == b3, a4 == b4, a5 == b5] Try.underlying98 (by kernel_rfl) (by kernel_rfl) rfl ⟨⟨_, _, rfl, rfl, eqv_int Try.underlying3⟩, ⟨_, _, rfl, rfl, eqv_int Try.underlying3⟩, ⟨_, _, rfl, rfl, eqv_int Try.underlying3⟩, ⟨_, _, rfl, rfl, eqv_int Try.underlying3⟩, ⟨_, _, rfl, rfl, eqv_int Try.underlying3⟩, ⟨_, _, rfl, rfl, eqv_int Try.underlying3⟩, trivial⟩
end Go.Proofs.Ytkpkkdpfcbnfdaa
