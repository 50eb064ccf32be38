/-
  A part (from a fixed place on) of an array in a block as a slice that is read.
-/
import Derived.Test.YtoickcchcjehdaaLibJ
namespace Go.GL
open Go Go.RowKit

section
variable {P : Program} {C : World → Prop} {hyps : List (Bool × Bool)} {w0 w : World} {B : Nat} {l r : List HP} {e t bt : TypeId} {inf : TypeInfo} {m : List Int}

theorem rdBlk {g o n : Nat} (pre post : List Value) (lo : Nat) (hS : Sep w0 B w (l ++ blk g bt (List.toArray (pre ++ (arr1 (Value.int .i64) 0 n m ++ post))) :: r)) (ho : pre.length = o) : Rd w w.heap.size (some ⟨g, o + lo, none⟩) (vI ((pad n m).drop lo)) := by
  obtain ⟨f, ⟨hf, hf2⟩, hfb⟩ := hS.get
  intro j v hv
  have hj : lo + j < n := by
    have := (List.getElem?_eq_some_iff.1 hv).1
    simp [vI, pad] at this
    omega
  have hadd : (⟨g, o + lo, none⟩ : Addr).add j = ⟨g, o + lo + j, none⟩ := by unfold Addr.add; split <;> simp_all
  refine ⟨⟨g, o + lo, none⟩, rfl, ?_, ?_⟩
  · have := hfb g (by rw [hf2]; simp)
    simpa using this.2
  · rw [hadd, cell_of_row w g (o + lo + j) _ bt (0, 0) hf]
    rw [List.getElem?_toArray, List.getElem?_append_right (by omega), List.getElem?_append_left (by rw [arr1_length]; omega), show o + lo + j - pre.length = lo + j by omega, arr1_get hj, ← hv]
    simp [vI, List.getElem?_drop, pad_get hj]

theorem rdBlk0 {g o n : Nat} (pre post : List Value) (hS : Sep w0 B w (l ++ blk g bt (List.toArray (pre ++ (arr1 (Value.int .i64) 0 n m ++ post))) :: r)) (ho : pre.length = o) : Rd w w.heap.size (some ⟨g, o, none⟩) (vI (pad n m)) := by
  simpa using rdBlk pre post 0 hS ho
theorem pad_len0 (n : Nat) (m : List Int) : n = (pad n m).length := by rw [pad_length]
theorem pad_cap0 (n : Nat) (m : List Int) : (pad n m).length ≤ n := by rw [pad_length]; exact Nat.le_refl _

end
end Go.GL
