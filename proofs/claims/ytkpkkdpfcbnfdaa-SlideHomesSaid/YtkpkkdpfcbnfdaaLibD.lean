/-
  copy and clear, where what is written to is a row of the call's own.
-/
import Derived.Test.YtkpkkdpfcbnfdaaLibW
import Derived.Laws.IdiomCopy
namespace Go.GL
open Go Go.RowKit
variable {Ds : List Nat} {ro : Option Nat}

/-- A list with a part written over from place lo on. -/
def putL {α : Type} (m : List α) (lo : Nat) (ys : List α) : List α := m.take lo ++ ys ++ m.drop (lo + ys.length)

theorem putL_length {α : Type} {m ys : List α} {lo : Nat} (h : lo + ys.length ≤ m.length) : (putL m lo ys).length = m.length := by
  unfold putL
  simp only [List.length_append, List.length_take, List.length_drop]
  omega
theorem putL_get {α : Type} {m ys : List α} {lo j : Nat} (h : lo + ys.length ≤ m.length) : (putL m lo ys)[j]? = if lo ≤ j ∧ j < lo + ys.length then ys[j - lo]? else m[j]? := by
  unfold putL
  have h1 : (m.take lo).length = lo := by rw [List.length_take]; omega
  rw [List.append_assoc]
  rcases Nat.lt_or_ge j lo with h2 | h2
  · rw [List.getElem?_append_left (by omega), List.getElem?_take, if_pos h2, if_neg (by omega)]
  · rw [List.getElem?_append_right (by omega), h1]
    rcases Nat.lt_or_ge j (lo + ys.length) with h3 | h3
    · rw [List.getElem?_append_left (by omega), if_pos ⟨h2, h3⟩]
    · rw [List.getElem?_append_right (by omega), if_neg (by omega), List.getElem?_drop]
      congr 1; omega
theorem putL_nil {α : Type} {m : List α} {lo : Nat} : putL m lo [] = m := by unfold putL; simp

theorem setCells_len : ∀ (vs xs : List Value) (s : Nat), (setCells xs s vs).length = xs.length
  | [], _, _ => rfl
  | v :: vs, xs, s => by rw [setCells, setCells_len vs, List.length_set]
theorem setCells_vI {m ys : List Int} {lo : Nat} (h : lo + ys.length ≤ m.length) : setCells (vI m) lo (vI ys) = vI (putL m lo ys) := by
  apply List.ext_getElem?
  intro j
  rw [setCells_get _ _ _ _ (by simpa [vI] using h)]
  unfold vI
  simp only [List.getElem?_map, List.length_map]
  rw [putL_get h]
  split <;> rfl

variable {P : Program} {w0 w : World} {B : Nat} {l r : List HP} {e t t2 ty : TypeId} {inf : TypeInfo} {A A2 : Option Addr} {n c c2 dn dc n2 : Nat} {lo : Int} {m ys : List Int}

section
variable {P : Program} {Q : Exit → Act → World → Prop} {n : Nat} {ρ : Env} {a : Act} {w : World}
end
end Go.GL
