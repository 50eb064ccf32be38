/-
  Models and walks, printed by our own program (wip/gen).
-/
import Derived.Test.YtjfloofoobllaaaLibW
import Derived.Test.YtjfloofoobllaaaProg
namespace Go.Proofs.Ytjfloofoobllaaa
open Go Go.GL Go.RowKit


theorem Fol : Try.prog.follows .mixedOrders = true := by kernel_rfl
theorem Info3 : (Try.prog.info? 3).map (fun i => (i.zero, i.size, i.bytes)) = some (some (.int .i64 0), 1, 8) := by kernel_rfl
theorem Agg3 : runPure Try.prog (isAgg 3) = some false := by kernel_rfl
theorem Info4 : (Try.prog.info? 4).map (fun i => (i.zero, i.size, i.bytes)) = some (some (.bool false), 1, 1) := by kernel_rfl
theorem Info5 : (Try.prog.info? 5).map (fun i => (i.zero, i.size, i.bytes)) = some (some (.int .u8 0), 1, 1) := by kernel_rfl
theorem Und22 : Try.prog.underlying 22 = some (.slice 3) := Try.underlying22
theorem Info22 : (Try.prog.info? 22).map (fun i => (i.zero, i.size, i.bytes)) = some (some (.slice none 0 0), 1, 24) := by kernel_rfl
theorem Agg22 : runPure Try.prog (isAgg 22) = some false := by kernel_rfl
theorem Und53 : Try.prog.underlying 53 = some (.slice 61) := Try.underlying53
theorem Info53 : (Try.prog.info? 53).map (fun i => (i.zero, i.size, i.bytes)) = some (some (.slice none 0 0), 1, 24) := by kernel_rfl
theorem Agg53 : runPure Try.prog (isAgg 53) = some false := by kernel_rfl
theorem Info61 : (Try.prog.info? 61).map (fun i => (i.zero, i.size, i.bytes)) = some (some (.agg #[.int .i64 0, .int .i64 0, .int .i64 0]), 3, 24) := by kernel_rfl
theorem Info111 : (Try.prog.info? 111).map (fun i => (i.zero, i.size, i.bytes)) = some (some (.pointer none), 1, 8) := by kernel_rfl
theorem Agg111 : runPure Try.prog (isAgg 111) = some false := by kernel_rfl
theorem Und114 : Try.prog.underlying 114 = some (.slice 119) := Try.underlying114
theorem Agg114 : runPure Try.prog (isAgg 114) = some false := by kernel_rfl
theorem Agg115 : runPure Try.prog (isAgg 115) = some false := by kernel_rfl
theorem Info119 : (Try.prog.info? 119).map (fun i => (i.zero, i.size, i.bytes)) = some (some (.agg #[.int .i64 0, .int .i64 0, .int .i64 0]), 3, 24) := by kernel_rfl
theorem Und140 : Try.prog.underlying 140 = some (.slice 5) := Try.underlying140
theorem UndA179 : Try.prog.underlying 179 = some (.array 4 25) := Try.underlying179
theorem UndA182 : Try.prog.underlying 182 = some (.array 3 3) := Try.underlying182
abbrev enc61 : (Int × Int × Int) → List Value := fun p => [Value.int .i64 (p.1), Value.int .i64 (p.2.1), Value.int .i64 (p.2.2)]
theorem encK61 : EncK enc61 3 := ⟨fun _ => rfl, fun _ u hu => by simp at hu; rcases hu with rfl | rfl | rfl <;> rfl, by decide⟩
abbrev enc119 : (Int × Int × Int) → List Value := fun p => [Value.int .i64 (p.1), Value.int .i64 (p.2.1), Value.int .i64 (p.2.2)]
theorem encK119 : EncK enc119 3 := ⟨fun _ => rfl, fun _ u hu => by simp at hu; rcases hu with rfl | rfl | rfl <;> rfl, by decide⟩
end Go.Proofs.Ytjfloofoobllaaa
