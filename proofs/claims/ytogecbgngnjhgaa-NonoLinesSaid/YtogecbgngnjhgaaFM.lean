/-
  Models and walks, printed by our own program (wip/gen).
-/
import Derived.Test.YtogecbgngnjhgaaFB
import Derived.Test.YtogecbgngnjhgaaLibAM
namespace Go.Proofs.Ytogecbgngnjhgaa
open Go Go.GL Go.RowKit


theorem UndM134 : Try.prog.underlying 134 = some (.map 139 3) := Try.underlying134

theorem MZ3 (w : World) : (zeroValue 3).run Try.prog w = .ok ((Value.int .i64) (0 : Int)) w := by
  obtain ⟨i, hi, hz, hs, hb⟩ := info_parts Info3
  simp [zeroValue, typeInfo, hi, hz]

abbrev kf139 : (Int × Int) → Value := fun p => .agg #[.int .i64 (p.1), .int .i64 (p.2)]

set_option maxRecDepth 100000 in
theorem MK139 : MKey Try.prog 139 kf139 where
  eqk a b w := (Eql139 w).trans (by
    congr 1
    rw [Bool.eq_iff_iff]
    simp [Prod.ext_iff])
  chk em a w := chk_struct Try.underlying139 (fun f hf => by
    simp only [List.mem_cons, List.not_mem_nil, or_false] at hf
    rcases hf with rfl | rfl
    · exact ⟨_, fun w => part_one (by kernel_rfl) rfl w, fun w => chk_cell Try.underlying3 em 9998 _ w⟩
    · exact ⟨_, fun w => part_one (by kernel_rfl) rfl w, fun w => chk_cell Try.underlying3 em 9998 _ w⟩) w
  now := ⟨_, Try.underlying139, fun a b e es i h => by
    unfold Instr.findNow
    rw [h]
    rfl⟩
  stay a w := sameBits_agg (fun v hv n => by
    simp only [List.mem_cons, List.not_mem_nil, or_false] at hv
    rcases hv with rfl | rfl
    · exact sameBits_int _ _ n
    · exact sameBits_int _ _ n) w


end Go.Proofs.Ytogecbgngnjhgaa
