/-
  Models and walks, printed by our own program (wip/gen).
-/
import Derived.Test.YtgafnmnacolgbaaLibW
import Derived.Test.YtgafnmnacolgbaaProg
namespace Go.Proofs.Ytgafnmnacolgbaa
open Go Go.GL Go.RowKit


theorem Fol : Try.prog.follows .mixedOrders = true := by kernel_rfl
theorem Agg3 : runPure Try.prog (isAgg 3) = some false := by kernel_rfl
theorem Und22 : Try.prog.underlying 22 = some (.slice 23) := Try.underlying22
theorem Info23 : (Try.prog.info? 23).map (fun i => (i.zero, i.size, i.bytes)) = some (some (.agg #[.int .i64 0, .int .i64 0]), 2, 16) := by kernel_rfl
set_option maxRecDepth 100000 in
theorem Eql23 {a0 b0 : Int} {a1 b1 : Int} (w : World) : (Op.equal 23 (.agg #[.int .i64 a0, .int .i64 a1]) (.agg #[.int .i64 b0, .int .i64 b1])).run Try.prog w = .ok (((a0 == b0) && (a1 == b1))) w :=
  eq_array [a0 == b0, a1 == b1] Try.underlying23 (by kernel_rfl) (by kernel_rfl) rfl ⟨⟨_, _, rfl, rfl, eqv_int Try.underlying3⟩, ⟨_, _, rfl, rfl, eqv_int Try.underlying3⟩, trivial⟩
abbrev enc23 : (Int × Int) → List Value := fun p => [Value.int .i64 (p.1), Value.int .i64 (p.2)]
theorem encK23 : EncK enc23 2 := ⟨fun _ => rfl, fun _ u hu => by simp at hu; rcases hu with rfl | rfl <;> rfl, by decide⟩
end Go.Proofs.Ytgafnmnacolgbaa
