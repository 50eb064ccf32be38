/-
  Models and walks, printed by our own program (wip/gen).
-/
import Derived.Test.YtnplejebgbdfpaaFB
import Derived.Test.YtnplejebgbdfpaaLibAM
namespace Go.Proofs.Ytnplejebgbdfpaa
open Go Go.GL Go.RowKit


theorem UndM105 : Try.prog.underlying 105 = some (.map 102 3) := Try.underlying105

theorem MZ3 (w : World) : (zeroValue 3).run Try.prog w = .ok ((Value.int .i64) (0 : Int)) w := by
  obtain ⟨i, hi, hz, hs, hb⟩ := info_parts Info3
  simp [zeroValue, typeInfo, hi, hz]

abbrev kf102 : (Int × Int) → Value := fun p => .agg #[.int .i64 (p.1), .int .i64 (p.2)]

set_option maxRecDepth 100000 in
theorem MK102 : MKey Try.prog 102 kf102 where
  eqk a b w := (Eql102 w).trans (by
    congr 1
    rw [Bool.eq_iff_iff]
    simp [Prod.ext_iff])
  chk em a w := chk_array Try.underlying102 (by kernel_rfl) (by kernel_rfl) (fun i hi => by
    have hi2 : i = 0 ∨ i = 1 := by omega
    rcases hi2 with rfl | rfl
    · exact ⟨_, rfl, fun w => chk_cell Try.underlying3 em 9998 _ w⟩
    · exact ⟨_, rfl, fun w => chk_cell Try.underlying3 em 9998 _ w⟩) w
  now := ⟨_, Try.underlying102, fun a b e es i h => by
    unfold Instr.findNow
    rw [h]
    rfl⟩
  stay a w := sameBits_agg (fun v hv n => by
    simp only [List.mem_cons, List.not_mem_nil, or_false] at hv
    rcases hv with rfl | rfl
    · exact sameBits_int _ _ n
    · exact sameBits_int _ _ n) w


end Go.Proofs.Ytnplejebgbdfpaa
