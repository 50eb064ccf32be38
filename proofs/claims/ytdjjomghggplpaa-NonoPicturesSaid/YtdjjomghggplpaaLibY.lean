/-
  A small library of our own: boards (plain facts).
-/
import Derived.Test.YtdjjomghggplpaaLibX
namespace Go.GL
open Go
variable {Ds : List Nat} {ro : Option Nat}

theorem mul_bd' {b W : Int} (hb : -30 ≤ b ∧ b ≤ 30) (hW : 1 ≤ W ∧ W ≤ 10) : -300 ≤ b * W ∧ b * W ≤ 300 := by
  have h1 := Int.mul_nonneg (show 0 ≤ 30 - b by omega) (show 0 ≤ W by omega)
  have h2 := Int.mul_nonneg (show 0 ≤ b + 30 by omega) (show 0 ≤ W by omega)
  rw [Int.sub_mul] at h1
  rw [Int.add_mul] at h2
  omega

/-- A board of W columns and H rows. -/
structure Dm (W H : Int) (c : List Int) : Prop where
  w : 1 ≤ W ∧ W ≤ 10
  h : 1 ≤ H ∧ H ≤ 10
  len : (c.length : Int) = W * H

theorem Dm.small {W H : Int} {c : List Int} (B : Dm W H c) : c.length ≤ 300 := by
  have := B.len
  have h2 := mul_bd' (b := H) (W := W) (by have := B.h; omega) B.w
  rw [Int.mul_comm] at h2
  omega
theorem geti_set' {l : List Int} {i : Nat} {v j : Int} (hj : 0 ≤ j) (hi : i < l.length) : geti (l.set i v) j = if j = i then v else geti l j := by
  obtain ⟨q, rfl⟩ : ∃ q : Nat, j = q := ⟨j.toNat, by omega⟩
  rw [geti_nat, geti_nat, List.getD_eq_getElem?_getD, List.getD_eq_getElem?_getD, List.getElem?_set]
  by_cases e : i = q
  · subst e; simp [hi]
  · rw [if_neg e, if_neg (by omega)]
theorem get_geti {l : List Int} {i : Nat} (hi : i < l.length) : l[i]? = some (geti l (i : Int)) := by
  rw [List.getElem?_eq_getElem hi]
  congr 1
  exact (geti_some (List.getElem?_eq_getElem hi)).symm
theorem ext_geti {a b : List Int} (hl : a.length = b.length) (h : ∀ i : Nat, i < a.length → geti a (i : Int) = geti b (i : Int)) : a = b := by
  apply List.ext_getElem?
  intro i
  by_cases hi : i < a.length
  · rw [get_geti hi, get_geti (by omega), h i hi]
  · rw [List.getElem?_eq_none (by omega), List.getElem?_eq_none (by omega)]

end Go.GL
