import Derived.Test.YtfmmlmiakkjaiaaLibW
import Derived.Test.YtfmmlmiakkjaiaaProg
namespace Go.Proofs.Ytfmmlmiakkjaiaa
open Go Go.GL Go.RowKit
theorem Fol : Try.prog.follows .mixedOrders = true := by kernel_rfl
theorem Info3 : (Try.prog.info? 3).map (fun i => (i.zero, i.size, i.bytes)) = some (some (.int .i64 0), 1, 8) := by kernel_rfl
theorem Agg3 : runPure Try.prog (isAgg 3) = some false := by kernel_rfl
theorem Und22 : Try.prog.underlying 22 = some (.slice 27) := Try.underlying22
theorem Und27 : Try.prog.underlying 27 = some (.slice 3) := Try.underlying27
theorem Info27 : (Try.prog.info? 27).map (fun i => (i.zero, i.size, i.bytes)) = some (some (.slice none 0 0), 1, 24) := by kernel_rfl
theorem Agg27 : runPure Try.prog (isAgg 27) = some false := by kernel_rfl
theorem Info79 : (Try.prog.info? 79).map (fun i => (i.zero, i.size, i.bytes)) = some (some (.nilFunc), 1, 8) := by kernel_rfl
theorem Agg79 : runPure Try.prog (isAgg 79) = some false := by kernel_rfl
theorem Und81 : Try.prog.underlying 81 = some (.slice 88) := Try.underlying81
theorem Info81 : (Try.prog.info? 81).map (fun i => (i.zero, i.size, i.bytes)) = some (some (.slice none 0 0), 1, 24) := by kernel_rfl
theorem Agg81 : runPure Try.prog (isAgg 81) = some false := by kernel_rfl
theorem Info88 : (Try.prog.info? 88).map (fun i => (i.zero, i.size, i.bytes)) = some (some (.agg #[.int .i64 0, .int .i64 0, .int .i64 0]), 3, 24) := by kernel_rfl
theorem Agg207 : runPure Try.prog (isAgg 207) = some false := by kernel_rfl
theorem UndA212 : Try.prog.underlying 212 = some (.array 2 3) := Try.underlying212
theorem Info214 : (Try.prog.info? 214).map (fun i => (i.zero, i.size, i.bytes)) = some (some (.nilFunc), 1, 8) := by kernel_rfl
theorem Agg214 : runPure Try.prog (isAgg 214) = some false := by kernel_rfl
theorem UndA221 : Try.prog.underlying 221 = some (.array 7 3) := Try.underlying221
theorem Info225 : (Try.prog.info? 225).map (fun i => (i.zero, i.size, i.bytes)) = some (some (.agg #[.int .i64 0, .int .i64 0]), 2, 16) := by kernel_rfl
theorem Und226 : Try.prog.underlying 226 = some (.slice 225) := Try.underlying226
set_option maxRecDepth 100000 in
theorem Eql88 {a0 b0 : Int} {a1 b1 : Int} {a2 b2 : Int} (w : World) : (Op.equal 88 (.agg #[.int .i64 a0, .int .i64 a1, .int .i64 a2]) (.agg #[.int .i64 b0, .int .i64 b1, .int .i64 b2])).run Try.prog w = .ok (((a0 == b0) && ((a1 == b1) && (a2 == b2)))) w :=
 eq_struct [a0 == b0, a1 == b1, a2 == b2] Try.underlying88 (by kernel_rfl) ⟨⟨by decide, by kernel_rfl, _, _, rfl, rfl, eqv_int Try.underlying3⟩, ⟨by decide, by kernel_rfl, _, _, rfl, rfl, eqv_int Try.underlying3⟩, ⟨by decide, by kernel_rfl, _, _, rfl, rfl, eqv_int Try.underlying3⟩, trivial⟩
abbrev enc88 : (Int × Int × Int) → List Value := fun p => [Value.int .i64 (p.1), Value.int .i64 (p.2.1), Value.int .i64 (p.2.2)]
theorem encK88 : EncK enc88 3 := ⟨fun _ => rfl, fun _ u hu => by simp at hu; rcases hu with rfl | rfl | rfl <;> rfl, by decide⟩
set_option maxRecDepth 100000 in
theorem Eql212 {a0 b0 : Int} {a1 b1 : Int} (w : World) : (Op.equal 212 (.agg #[.int .i64 a0, .int .i64 a1]) (.agg #[.int .i64 b0, .int .i64 b1])).run Try.prog w = .ok (((a0 == b0) && (a1 == b1))) w :=
 eq_array [a0 == b0, a1 == b1] Try.underlying212 (by kernel_rfl) (by kernel_rfl) rfl ⟨⟨_, _, rfl, rfl, eqv_int Try.underlying3⟩, ⟨_, _, rfl, rfl, eqv_int Try.underlying3⟩, trivial⟩
abbrev enc225 : (Int × Int) → List Value := fun p => [Value.int .i64 (p.1), Value.int .i64 (p.2)]
theorem encK225 : EncK enc225 2 := ⟨fun _ => rfl, fun _ u hu => by simp at hu; rcases hu with rfl | rfl <;> rfl, by decide⟩
end Go.Proofs.Ytfmmlmiakkjaiaa
