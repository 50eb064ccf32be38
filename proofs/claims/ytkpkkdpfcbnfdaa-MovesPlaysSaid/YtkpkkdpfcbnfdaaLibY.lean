import Derived.Test.YtkpkkdpfcbnfdaaLibX
namespace Go.GL
open Go
variable {Ds : List Nat} {ro : Option Nat}
structure Dm (W H : Int) (c : List Int) : Prop where
 w : 1 ≤ W ∧ W ≤ 10
 h : 1 ≤ H ∧ H ≤ 10
 len : (c.length : Int) = W * H
theorem geti_set' {l : List Int} {i : Nat} {v j : Int} (hj : 0 ≤ j) (hi : i < l.length) : geti (l.set i v) j = if j = i then v else geti l j := by
 obtain ⟨q, rfl⟩ : ∃ q : Nat, j = q := ⟨j.toNat, by omega⟩
 rw [geti_nat, geti_nat, List.getD_eq_getElem?_getD, List.getD_eq_getElem?_getD, List.getElem?_set]
 by_cases e : i = q
 ·subst e; simp [hi]
 ·rw [if_neg e, if_neg (by omega)]
theorem get_geti {l : List Int} {i : Nat} (hi : i < l.length) : l[i]? = some (geti l (i : Int)) := by
 rw [List.getElem?_eq_getElem hi]
 congr 1
 exact (geti_some (List.getElem?_eq_getElem hi)).symm
end Go.GL
