import Derived.Test.YtkpkkdpfcbnfdaaLibW
import Derived.Test.YtkpkkdpfcbnfdaaProg
namespace Go.Proofs.Ytkpkkdpfcbnfdaa
open Go Go.GL Go.RowKit
theorem Fol : Try.prog.follows .mixedOrders = true := by kernel_rfl
theorem Info3 : (Try.prog.info? 3).map (fun i => (i.zero, i.size, i.bytes)) = some (some (.int .i64 0), 1, 8) := by kernel_rfl
theorem Agg3 : runPure Try.prog (isAgg 3) = some false := by kernel_rfl
theorem Und22 : Try.prog.underlying 22 = some (.slice 3) := Try.underlying22
theorem Info22 : (Try.prog.info? 22).map (fun i => (i.zero, i.size, i.bytes)) = some (some (.slice none 0 0), 1, 24) := by kernel_rfl
theorem Agg22 : runPure Try.prog (isAgg 22) = some false := by kernel_rfl
theorem Info65 : (Try.prog.info? 65).map (fun i => (i.zero, i.size, i.bytes)) = some (some (.agg #[.slice none 0 0, .int .i64 0, .int .i64 0, .int .i64 0, .int .i64 0, .int .i64 0]), 6, 64) := by kernel_rfl
theorem Und66 : Try.prog.underlying 66 = some (.slice 126) := Try.underlying66
theorem Info66 : (Try.prog.info? 66).map (fun i => (i.zero, i.size, i.bytes)) = some (some (.slice none 0 0), 1, 24) := by kernel_rfl
theorem Agg66 : runPure Try.prog (isAgg 66) = some false := by kernel_rfl
theorem Und74 : Try.prog.underlying 74 = some (.slice 22) := Try.underlying74
theorem UndA120 : Try.prog.underlying 120 = some (.array 64 3) := Try.underlying120
theorem Info126 : (Try.prog.info? 126).map (fun i => (i.zero, i.size, i.bytes)) = some (some (.agg #[.int .i64 0, .int .i64 0, .int .i64 0]), 3, 24) := by kernel_rfl
theorem Und129 : Try.prog.underlying 129 = some (.slice 65) := Try.underlying129
theorem UndA150 : Try.prog.underlying 150 = some (.array 2 3) := Try.underlying150
theorem Agg158 : runPure Try.prog (isAgg 158) = some false := by kernel_rfl
theorem Info165 : (Try.prog.info? 165).map (fun i => (i.zero, i.size, i.bytes)) = some (some (.nilFunc), 1, 8) := by kernel_rfl
theorem Agg165 : runPure Try.prog (isAgg 165) = some false := by kernel_rfl
theorem Info178 : (Try.prog.info? 178).map (fun i => (i.zero, i.size, i.bytes)) = some (some (.agg #[.int .i64 0, .int .i64 0]), 2, 16) := by kernel_rfl
theorem Und179 : Try.prog.underlying 179 = some (.slice 178) := Try.underlying179
set_option maxRecDepth 100000 in
theorem Eql126 {a0 b0 : Int} {a1 b1 : Int} {a2 b2 : Int} (w : World) : (Op.equal 126 (.agg #[.int .i64 a0, .int .i64 a1, .int .i64 a2]) (.agg #[.int .i64 b0, .int .i64 b1, .int .i64 b2])).run Try.prog w = .ok (((a0 == b0) && ((a1 == b1) && (a2 == b2)))) w :=
 eq_struct [a0 == b0, a1 == b1, a2 == b2] Try.underlying126 (by kernel_rfl) ⟨⟨by decide, by kernel_rfl, _, _, rfl, rfl, eqv_int Try.underlying3⟩, ⟨by decide, by kernel_rfl, _, _, rfl, rfl, eqv_int Try.underlying3⟩, ⟨by decide, by kernel_rfl, _, _, rfl, rfl, eqv_int Try.underlying3⟩, trivial⟩
abbrev enc126 : (Int × Int × Int) → List Value := fun p => [Value.int .i64 (p.1), Value.int .i64 (p.2.1), Value.int .i64 (p.2.2)]
theorem encK126 : EncK enc126 3 := ⟨fun _ => rfl, fun _ u hu => by simp at hu; rcases hu with rfl | rfl | rfl <;> rfl, by decide⟩
set_option maxRecDepth 100000 in
theorem Eql150 {a0 b0 : Int} {a1 b1 : Int} (w : World) : (Op.equal 150 (.agg #[.int .i64 a0, .int .i64 a1]) (.agg #[.int .i64 b0, .int .i64 b1])).run Try.prog w = .ok (((a0 == b0) && (a1 == b1))) w :=
 eq_array [a0 == b0, a1 == b1] Try.underlying150 (by kernel_rfl) (by kernel_rfl) rfl ⟨⟨_, _, rfl, rfl, eqv_int Try.underlying3⟩, ⟨_, _, rfl, rfl, eqv_int Try.underlying3⟩, trivial⟩
abbrev enc178 : (Int × Int) → List Value := fun p => [Value.int .i64 (p.1), Value.int .i64 (p.2)]
theorem encK178 : EncK enc178 2 := ⟨fun _ => rfl, fun _ u hu => by simp at hu; rcases hu with rfl | rfl <;> rfl, by decide⟩
end Go.Proofs.Ytkpkkdpfcbnfdaa
