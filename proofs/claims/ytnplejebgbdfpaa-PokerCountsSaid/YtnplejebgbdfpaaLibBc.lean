/-
  A part (from a fixed place on) of an array in a block as a slice that is read.
-/
import Derived.Test.YtnplejebgbdfpaaLibJ
namespace Go.GL
open Go Go.RowKit

section
variable {P : Program} {C : World → Prop} {hyps : List (Bool × Bool)} {w0 w : World} {B : Nat} {l r : List HP} {e t bt : TypeId} {inf : TypeInfo} {m : List Int}

theorem ob_sliceBl {x : Bool} {g o lo len : Nat} (ht : P.underlying t = some (.array len e)) (hi : P.info? e = some inf) (hs : inf.size = 1) (h : lo < len) :
    Ob.holds P C x ⟨true, hyps, vS (Instr.sliceAt t (.pointer (some ⟨g, o, none⟩)) (some (.int .i64 (lo : Nat))) none none), .slice (some ⟨g, o + lo, none⟩) (len - lo) (len - lo)⟩ :=
  Ob.any fun _ w => by
    have hadd : (⟨g, o, none⟩ : Addr).add lo = ⟨g, o + lo, none⟩ := by unfold Addr.add; split <;> simp_all
    have h2 : ¬ len = lo := by omega
    have h3 : (Instr.sliceBound (.int .i64 (lo : Nat)) len .sliceB).run P w = .ok lo w := by
      have h4 : (lo : Int) ≤ (len : Int) := by omega
      simp [Instr.sliceBound, asIntOf, h4]
    simp [Instr.sliceAt, run_underlying ht, Instr.sureAddr, Instr.sliceBounds, sizeOf, typeInfo, hi, hs, h3, h2, hadd]

theorem rdBlk {g o n : Nat} (pre post : List Value) (lo : Nat) (hS : Sep w0 B w (l ++ blk g bt (List.toArray (pre ++ (arr1 (Value.int .i64) 0 n m ++ post))) :: r)) (ho : pre.length = o) : Rd w w.heap.size (some ⟨g, o + lo, none⟩) (vI ((pad n m).drop lo)) := by
  obtain ⟨f, ⟨hf, hf2⟩, hfb⟩ := hS.get
  intro j v hv
  have hj : lo + j < n := by
    have := (List.getElem?_eq_some_iff.1 hv).1
    simp [vI, pad] at this
    omega
  have hadd : (⟨g, o + lo, none⟩ : Addr).add j = ⟨g, o + lo + j, none⟩ := by unfold Addr.add; split <;> simp_all
  refine ⟨⟨g, o + lo, none⟩, rfl, ?_, ?_⟩
  · have := hfb g (by rw [hf2]; simp)
    simpa using this.2
  · rw [hadd, cell_of_row w g (o + lo + j) _ bt (0, 0) hf]
    rw [List.getElem?_toArray, List.getElem?_append_right (by omega), List.getElem?_append_left (by rw [arr1_length]; omega), show o + lo + j - pre.length = lo + j by omega, arr1_get hj, ← hv]
    simp [vI, List.getElem?_drop, pad_get hj]

theorem drop_len (n lo : Nat) (m : List Int) : n - lo = ((pad n m).drop lo).length := by
  rw [List.length_drop, pad_length]
end
end Go.GL
