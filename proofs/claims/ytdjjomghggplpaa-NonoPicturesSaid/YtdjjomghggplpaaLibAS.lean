/-
  A small library of our own: a row read under a guard.
-/
import Derived.Test.YtdjjomghggplpaaLibW
namespace Go.GL
open Go Go.RowKit
variable {Ds : List Nat} {ro : Option Nat}

theorem RdRows.rowAny {w : World} {B : Nat} {A : Option Addr} {hd : List Hd} {m : List (List Int)} (h : RdRows w B A hd m) (i : Int) : Rd w B (hdA hd i) (vI (geti2 m i)) ∧ (geti2 m i).length ≤ hdC hd i := by
  by_cases hi : i.toNat < m.length
  · have e1 : geti2 m i = geti2 m (i.toNat : Int) := by unfold geti2; rw [Int.toNat_natCast]
    have e2 : hdA hd i = hdA hd (i.toNat : Int) := by unfold hdA; rw [Int.toNat_natCast]
    have e3 : hdC hd i = hdC hd (i.toNat : Int) := by unfold hdC; rw [Int.toNat_natCast]
    rw [e1, e2, e3]
    exact h.row (i.toNat : Int) ⟨by omega, by omega⟩
  · have e1 : geti2 m i = [] := by
      unfold geti2
      rw [List.getD_eq_getElem?_getD, List.getElem?_eq_none (by omega)]; rfl
    rw [e1]
    exact ⟨Rd.nil _ _ _, Nat.zero_le _⟩
end Go.GL
