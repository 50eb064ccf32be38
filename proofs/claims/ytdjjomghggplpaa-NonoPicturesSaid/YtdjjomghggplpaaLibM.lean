/-
  A small library of our own: lists by their entries, of anything.
-/
import Derived.Test.YtdjjomghggplpaaLibN
import Derived.Test.YtdjjomghggplpaaLibR
namespace Go.GL
open Go
variable {Ds : List Nat} {ro : Option Nat}

def tab {α : Type} (n : Nat) (g : Nat → α) : List α := (List.range n).map g
section
variable {α : Type} {n : Nat} {g f : Nat → α}
theorem tab_length : (tab n g).length = n := by simp [tab]
theorem tab_get {k : Nat} (h : k < n) : (tab n g)[k]? = some (g k) := by simp [tab, h]
theorem tab_getD {k : Nat} {d : α} (h : k < n) : (tab n g).getD k d = g k := by
  rw [List.getD_eq_getElem?_getD, tab_get h]; rfl
theorem tab_congr (h : ∀ j, j < n → f j = g j) : tab n f = tab n g := by
  unfold tab
  exact List.map_congr_left fun j hj => h j (by simpa using hj)
theorem tab_set (k : Nat) (x : α) : (tab n g).set k x = tab n (fun j => if j = k then x else g j) := by
  apply List.ext_getElem?
  intro j
  by_cases hj : j < n
  · rw [tab_get hj, List.getElem?_set]
    by_cases hk : k = j
    · subst hk; simp [tab_length, hj]
    · rw [if_neg hk, tab_get hj, if_neg (Ne.symm hk)]
  · rw [List.getElem?_eq_none (by rw [List.length_set, tab_length]; omega), List.getElem?_eq_none (by rw [tab_length]; omega)]
theorem tab_snoc : tab n g ++ [g n] = tab (n + 1) g := by simp [tab, List.range_succ]
end
end Go.GL
