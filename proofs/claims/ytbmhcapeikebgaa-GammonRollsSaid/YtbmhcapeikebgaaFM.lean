/-
  Models and walks, printed by our own program (wip/gen).
-/
import Derived.Test.YtbmhcapeikebgaaFB
import Derived.Test.YtbmhcapeikebgaaLibAM
import Derived.Test.YtbmhcapeikebgaaLibSt
namespace Go.Proofs.Ytbmhcapeikebgaa
open Go Go.GL Go.RowKit


theorem MZ3 (w : World) : (zeroValue 3).run Try.prog w = .ok ((Value.int .i64) (0 : Int)) w := by
  obtain ⟨i, hi, hz, hs, hb⟩ := info_parts Info3
  simp [zeroValue, typeInfo, hi, hz]

abbrev kf133 : (Int × Int × Int × Int × Int × Int) → Value := fun p => .agg #[.int .i64 (p.1), .int .i64 (p.2.1), .int .i64 (p.2.2.1), .int .i64 (p.2.2.2.1), .int .i64 (p.2.2.2.2.1), .int .i64 (p.2.2.2.2.2)]

set_option maxRecDepth 100000 in
theorem MK133 : MKey Try.prog 133 kf133 := MKey.of (fun a b w => (Eql133 w).trans (by
    congr 1
    rw [Bool.eq_iff_iff]
    simp [Prod.ext_iff])) (fun em a w => chk_array Try.underlying133 (by kernel_rfl) (by kernel_rfl) (fun i hi => by
    have hi2 : i = 0 ∨ i = 1 ∨ i = 2 ∨ i = 3 ∨ i = 4 ∨ i = 5 := by omega
    rcases hi2 with rfl | rfl | rfl | rfl | rfl | rfl
    · exact ⟨_, rfl, fun w => chk_cell Try.underlying3 em 9998 _ w⟩
    · exact ⟨_, rfl, fun w => chk_cell Try.underlying3 em 9998 _ w⟩
    · exact ⟨_, rfl, fun w => chk_cell Try.underlying3 em 9998 _ w⟩
    · exact ⟨_, rfl, fun w => chk_cell Try.underlying3 em 9998 _ w⟩
    · exact ⟨_, rfl, fun w => chk_cell Try.underlying3 em 9998 _ w⟩
    · exact ⟨_, rfl, fun w => chk_cell Try.underlying3 em 9998 _ w⟩) w) ⟨_, Try.underlying133, fun a b e es i h => by
    unfold Instr.findNow
    rw [h]
    rfl⟩ (fun a w => sameBits_agg (fun v hv n => by
    simp only [List.mem_cons, List.not_mem_nil, or_false] at hv
    rcases hv with rfl | rfl | rfl | rfl | rfl | rfl
    · exact sameBits_int _ _ n
    · exact sameBits_int _ _ n
    · exact sameBits_int _ _ n
    · exact sameBits_int _ _ n
    · exact sameBits_int _ _ n
    · exact sameBits_int _ _ n) w)

theorem UndM136 : Try.prog.underlying 136 = some (.map 133 3) := Try.underlying136


end Go.Proofs.Ytbmhcapeikebgaa
