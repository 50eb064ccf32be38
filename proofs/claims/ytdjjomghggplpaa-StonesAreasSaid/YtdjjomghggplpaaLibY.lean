/-
  A small library of our own: boards (plain facts).
-/
import Derived.Test.YtdjjomghggplpaaLibX
namespace Go.GL
open Go
variable {Ds : List Nat} {ro : Option Nat}

theorem mul_bd' {b W : Int} (hb : -30 ≤ b ∧ b ≤ 30) (hW : 1 ≤ W ∧ W ≤ 10) : -300 ≤ b * W ∧ b * W ≤ 300 := by
  have h1 := Int.mul_nonneg (show 0 ≤ 30 - b by omega) (show 0 ≤ W by omega)
  have h2 := Int.mul_nonneg (show 0 ≤ b + 30 by omega) (show 0 ≤ W by omega)
  rw [Int.sub_mul] at h1
  rw [Int.add_mul] at h2
  omega

/-- A board of W columns and H rows. -/
structure Dm (W H : Int) (c : List Int) : Prop where
  w : 1 ≤ W ∧ W ≤ 10
  h : 1 ≤ H ∧ H ≤ 10
  len : (c.length : Int) = W * H

theorem Dm.idx {W H : Int} {c : List Int} (B : Dm W H c) {x y : Int} (hx : 0 ≤ x ∧ x < W) (hy : 0 ≤ y ∧ y < H) : 0 ≤ y * W + x ∧ y * W + x < c.length := by
  have h1 := Int.mul_nonneg hy.1 (show 0 ≤ W by have := B.w; omega)
  have h2 := Int.mul_nonneg (show 0 ≤ H - 1 - y by omega) (show 0 ≤ W by have := B.w; omega)
  rw [Int.sub_mul, Int.sub_mul] at h2
  have e : W * H = H * W := Int.mul_comm _ _
  have := B.len
  omega
theorem Dm.small {W H : Int} {c : List Int} (B : Dm W H c) : c.length ≤ 300 := by
  have := B.len
  have h2 := mul_bd' (b := H) (W := W) (by have := B.h; omega) B.w
  rw [Int.mul_comm] at h2
  omega
/-- Where a place stands. -/
theorem Dm.xy {W H : Int} {c : List Int} (B : Dm W H c) {p : Int} (hp : 0 ≤ p ∧ p < c.length) : (0 ≤ p % W ∧ p % W < W) ∧ (0 ≤ p / W ∧ p / W < H) ∧ p / W * W + p % W = p := by
  have hw := B.w
  have h1 := Int.emod_nonneg p (show W ≠ 0 by omega)
  have h2 := Int.emod_lt_of_pos p (show 0 < W by omega)
  have h3 := Int.mul_ediv_add_emod p W
  have e : p / W * W = W * (p / W) := Int.mul_comm _ _
  have h4 : 0 ≤ p / W := Int.ediv_nonneg hp.1 (by omega)
  refine ⟨⟨h1, h2⟩, ⟨h4, ?_⟩, by omega⟩
  apply Int.ediv_lt_of_lt_mul (by omega)
  have := B.len
  have e2 : W * H = H * W := Int.mul_comm _ _
  omega

theorem geti_set' {l : List Int} {i : Nat} {v j : Int} (hj : 0 ≤ j) (hi : i < l.length) : geti (l.set i v) j = if j = i then v else geti l j := by
  obtain ⟨q, rfl⟩ : ∃ q : Nat, j = q := ⟨j.toNat, by omega⟩
  rw [geti_nat, geti_nat, List.getD_eq_getElem?_getD, List.getD_eq_getElem?_getD, List.getElem?_set]
  by_cases e : i = q
  · subst e; simp [hi]
  · rw [if_neg e, if_neg (by omega)]
theorem get_geti {l : List Int} {i : Nat} (hi : i < l.length) : l[i]? = some (geti l (i : Int)) := by
  rw [List.getElem?_eq_getElem hi]
  congr 1
  exact (geti_some (List.getElem?_eq_getElem hi)).symm
end Go.GL
