/-
  Models and walks, printed by our own program (wip/gen).
-/
import Derived.Test.YtbmhcapeikebgaaLibW
import Derived.Test.YtbmhcapeikebgaaProg
namespace Go.Proofs.Ytbmhcapeikebgaa
open Go Go.GL Go.RowKit


theorem Fol : Try.prog.follows .mixedOrders = true := by kernel_rfl
theorem Info3 : (Try.prog.info? 3).map (fun i => (i.zero, i.size, i.bytes)) = some (some (.int .i64 0), 1, 8) := by kernel_rfl
theorem Agg3 : runPure Try.prog (isAgg 3) = some false := by kernel_rfl
theorem Und40 : Try.prog.underlying 40 = some (.slice 3) := Try.underlying40
theorem Info40 : (Try.prog.info? 40).map (fun i => (i.zero, i.size, i.bytes)) = some (some (.slice none 0 0), 1, 24) := by kernel_rfl
theorem Agg40 : runPure Try.prog (isAgg 40) = some false := by kernel_rfl
theorem Und125 : Try.prog.underlying 125 = some (.slice 40) := Try.underlying125
theorem Info125 : (Try.prog.info? 125).map (fun i => (i.zero, i.size, i.bytes)) = some (some (.slice none 0 0), 1, 24) := by kernel_rfl
theorem Agg125 : runPure Try.prog (isAgg 125) = some false := by kernel_rfl
theorem UndA133 : Try.prog.underlying 133 = some (.array 6 3) := Try.underlying133
theorem Info133 : (Try.prog.info? 133).map (fun i => (i.zero, i.size, i.bytes)) = some (some (.agg #[.int .i64 0, .int .i64 0, .int .i64 0, .int .i64 0, .int .i64 0, .int .i64 0]), 6, 48) := by kernel_rfl
theorem Und196 : Try.prog.underlying 196 = some (.slice 133) := Try.underlying196
set_option maxRecDepth 100000 in
theorem Eql133 {a0 b0 : Int} {a1 b1 : Int} {a2 b2 : Int} {a3 b3 : Int} {a4 b4 : Int} {a5 b5 : Int} (w : World) : (Op.equal 133 (.agg #[.int .i64 a0, .int .i64 a1, .int .i64 a2, .int .i64 a3, .int .i64 a4, .int .i64 a5]) (.agg #[.int .i64 b0, .int .i64 b1, .int .i64 b2, .int .i64 b3, .int .i64 b4, .int .i64 b5])).run Try.prog w = .ok (((a0 == b0) && ((a1 == b1) && ((a2 == b2) && ((a3 == b3) && ((a4 == b4) && (a5 == b5))))))) w :=
  eq_array [a0 == b0, a1 == b1, a2 == b2, a3 == b3, a4 == b4, a5 == b5] Try.underlying133 (by kernel_rfl) (by kernel_rfl) rfl ⟨⟨_, _, rfl, rfl, eqv_int Try.underlying3⟩, ⟨_, _, rfl, rfl, eqv_int Try.underlying3⟩, ⟨_, _, rfl, rfl, eqv_int Try.underlying3⟩, ⟨_, _, rfl, rfl, eqv_int Try.underlying3⟩, ⟨_, _, rfl, rfl, eqv_int Try.underlying3⟩, ⟨_, _, rfl, rfl, eqv_int Try.underlying3⟩, trivial⟩
abbrev enc133 : (Int × Int × Int × Int × Int × Int) → List Value := fun p => [Value.int .i64 (p.1), Value.int .i64 (p.2.1), Value.int .i64 (p.2.2.1), Value.int .i64 (p.2.2.2.1), Value.int .i64 (p.2.2.2.2.1), Value.int .i64 (p.2.2.2.2.2)]
theorem encK133 : EncK enc133 6 := ⟨fun _ => rfl, fun _ u hu => by simp at hu; rcases hu with rfl | rfl | rfl | rfl | rfl | rfl <;> rfl, by decide⟩
end Go.Proofs.Ytbmhcapeikebgaa
