/-
  Models and walks, printed by our own program (wip/gen).
-/
import Derived.Test.YtkpkkdpfcbnfdaaFB
import Derived.Test.YtkpkkdpfcbnfdaaLibAM
import Derived.Test.YtkpkkdpfcbnfdaaLibSt
import Derived.Test.YtkpkkdpfcbnfdaaLibKv
namespace Go.Proofs.Ytkpkkdpfcbnfdaa
open Go Go.GL Go.RowKit


theorem UndM95 : Try.prog.underlying 95 = some (.map 98 3) := Try.underlying95

theorem MZ3 (w : World) : (zeroValue 3).run Try.prog w = .ok ((Value.int .i64) (0 : Int)) w := by
  obtain ⟨i, hi, hz, hs, hb⟩ := info_parts Info3
  simp [zeroValue, typeInfo, hi, hz]

abbrev kf98 : (Int × Int × Int × Int × Int × Int) → Value := fun p => .agg #[.int .i64 (p.1), .int .i64 (p.2.1), .int .i64 (p.2.2.1), .int .i64 (p.2.2.2.1), .int .i64 (p.2.2.2.2.1), .int .i64 (p.2.2.2.2.2)]

set_option maxRecDepth 100000 in
theorem MK98 : MKey Try.prog 98 kf98 := MKey.of (fun a b w => (Eql98 w).trans (by
    congr 1
    rw [Bool.eq_iff_iff]
    simp [Prod.ext_iff])) (fun em a w => chk_array Try.underlying98 (by kernel_rfl) (by kernel_rfl) (fun i hi => by
    have hi2 : i = 0 ∨ i = 1 ∨ i = 2 ∨ i = 3 ∨ i = 4 ∨ i = 5 := by omega
    rcases hi2 with rfl | rfl | rfl | rfl | rfl | rfl
    · exact ⟨_, rfl, fun w => chk_cell Try.underlying3 em 9998 _ w⟩
    · exact ⟨_, rfl, fun w => chk_cell Try.underlying3 em 9998 _ w⟩
    · exact ⟨_, rfl, fun w => chk_cell Try.underlying3 em 9998 _ w⟩
    · exact ⟨_, rfl, fun w => chk_cell Try.underlying3 em 9998 _ w⟩
    · exact ⟨_, rfl, fun w => chk_cell Try.underlying3 em 9998 _ w⟩
    · exact ⟨_, rfl, fun w => chk_cell Try.underlying3 em 9998 _ w⟩) w) ⟨_, Try.underlying98, fun a b e es i h => by
    unfold Instr.findNow
    rw [h]
    rfl⟩ (fun a w => sameBits_agg (fun v hv n => by
    simp only [List.mem_cons, List.not_mem_nil, or_false] at hv
    rcases hv with rfl | rfl | rfl | rfl | rfl | rfl
    · exact sameBits_int _ _ n
    · exact sameBits_int _ _ n
    · exact sameBits_int _ _ n
    · exact sameBits_int _ _ n
    · exact sameBits_int _ _ n
    · exact sameBits_int _ _ n) w)

end Go.Proofs.Ytkpkkdpfcbnfdaa
