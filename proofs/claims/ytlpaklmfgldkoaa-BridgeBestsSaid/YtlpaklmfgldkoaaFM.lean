/-
  Models and walks, printed by our own program (wip/gen).
-/
import Derived.Test.YtlpaklmfgldkoaaFB
import Derived.Test.YtlpaklmfgldkoaaLibAM
import Derived.Test.YtlpaklmfgldkoaaLibSt
namespace Go.Proofs.Ytlpaklmfgldkoaa
open Go Go.GL Go.RowKit


theorem MZ3 (w : World) : (zeroValue 3).run Try.prog w = .ok ((Value.int .i64) (0 : Int)) w := by
  obtain ⟨i, hi, hz, hs, hb⟩ := info_parts Info3
  simp [zeroValue, typeInfo, hi, hz]

theorem UndM148 : Try.prog.underlying 148 = some (.map 198 3) := Try.underlying148

abbrev kf198 : (Int × Int) → Value := fun p => .agg #[.int .u64 (p.1), .int .i64 (p.2)]

set_option maxRecDepth 100000 in
theorem MK198 : MKey Try.prog 198 kf198 := MKey.of (fun a b w => (Eql198 w).trans (by
    congr 1
    rw [Bool.eq_iff_iff]
    simp [Prod.ext_iff])) (fun em a w => chk_struct Try.underlying198 (fun f hf => by
    simp only [List.mem_cons, List.not_mem_nil, or_false] at hf
    rcases hf with rfl | rfl
    · exact ⟨_, fun w => part_one (by kernel_rfl) rfl w, fun w => chk_cell Try.underlying196 em 9998 _ w⟩
    · exact ⟨_, fun w => part_one (by kernel_rfl) rfl w, fun w => chk_cell Try.underlying3 em 9998 _ w⟩) w) ⟨_, Try.underlying198, fun a b e es i h => by
    unfold Instr.findNow
    rw [h]
    rfl⟩ (fun a w => sameBits_agg (fun v hv n => by
    simp only [List.mem_cons, List.not_mem_nil, or_false] at hv
    rcases hv with rfl | rfl
    · exact sameBits_int _ _ n
    · exact sameBits_int _ _ n) w)

end Go.Proofs.Ytlpaklmfgldkoaa
