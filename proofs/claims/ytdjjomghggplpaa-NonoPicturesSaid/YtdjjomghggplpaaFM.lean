/-
  Models and walks, printed by our own program (wip/gen).
-/
import Derived.Test.YtdjjomghggplpaaFB
import Derived.Test.YtdjjomghggplpaaLibAM
import Derived.Test.YtdjjomghggplpaaLibSt
import Derived.Test.YtdjjomghggplpaaLibKv
namespace Go.Proofs.Ytdjjomghggplpaa
open Go Go.GL Go.RowKit


theorem MZ3 (w : World) : (zeroValue 3).run Try.prog w = .ok ((Value.int .i64) (0 : Int)) w := by
  obtain ⟨i, hi, hz, hs, hb⟩ := info_parts Info3
  simp [zeroValue, typeInfo, hi, hz]

theorem UndM220 : Try.prog.underlying 220 = some (.map 225 3) := Try.underlying220

abbrev kf225 : (Int × Int) → Value := fun p => .agg #[.int .i64 (p.1), .int .i64 (p.2)]

set_option maxRecDepth 100000 in
theorem MK225 : MKey Try.prog 225 kf225 := MKey.of (fun a b w => (Eql225 w).trans (by
    congr 1
    rw [Bool.eq_iff_iff]
    simp [Prod.ext_iff])) (fun em a w => chk_struct Try.underlying225 (fun f hf => by
    simp only [List.mem_cons, List.not_mem_nil, or_false] at hf
    rcases hf with rfl | rfl
    · exact ⟨_, fun w => part_one (by kernel_rfl) rfl w, fun w => chk_cell Try.underlying3 em 9998 _ w⟩
    · exact ⟨_, fun w => part_one (by kernel_rfl) rfl w, fun w => chk_cell Try.underlying3 em 9998 _ w⟩) w) ⟨_, Try.underlying225, fun a b e es i h => by
    unfold Instr.findNow
    rw [h]
    rfl⟩ (fun a w => sameBits_agg (fun v hv n => by
    simp only [List.mem_cons, List.not_mem_nil, or_false] at hv
    rcases hv with rfl | rfl
    · exact sameBits_int _ _ n
    · exact sameBits_int _ _ n) w)


end Go.Proofs.Ytdjjomghggplpaa
