/-
  A small library of our own: lists by their entries, of anything.
-/
import Derived.Test.YtlkdblflibgfpaaLibN
import Derived.Test.YtlkdblflibgfpaaLibR
namespace Go.GL
open Go
variable {Ds : List Nat} {ro : Option Nat}

def tab {α : Type} (n : Nat) (g : Nat → α) : List α := (List.range n).map g
section
variable {α : Type} {n : Nat} {g f : Nat → α}
theorem tab_length : (tab n g).length = n := by simp [tab]
theorem tab_get {k : Nat} (h : k < n) : (tab n g)[k]? = some (g k) := by simp [tab, h]
theorem tab_getD {k : Nat} {d : α} (h : k < n) : (tab n g).getD k d = g k := by
  rw [List.getD_eq_getElem?_getD, tab_get h]; rfl
theorem tab_congr (h : ∀ j, j < n → f j = g j) : tab n f = tab n g := by
  unfold tab
  exact List.map_congr_left fun j hj => h j (by simpa using hj)
theorem tab_set (k : Nat) (x : α) : (tab n g).set k x = tab n (fun j => if j = k then x else g j) := by
  apply List.ext_getElem?
  intro j
  by_cases hj : j < n
  · rw [tab_get hj, List.getElem?_set]
    by_cases hk : k = j
    · subst hk; simp [tab_length, hj]
    · rw [if_neg hk, tab_get hj, if_neg (Ne.symm hk)]
  · rw [List.getElem?_eq_none (by rw [List.length_set, tab_length]; omega), List.getElem?_eq_none (by rw [tab_length]; omega)]
theorem tab_rep (x : α) : List.replicate n x = tab n (fun _ => x) := by
  unfold tab
  apply List.ext_getElem?
  intro j
  by_cases hj : j < n <;> simp [hj]
theorem tab_snoc : tab n g ++ [g n] = tab (n + 1) g := by simp [tab, List.range_succ]
theorem tab_self (l : List α) (d : α) : l = tab l.length (fun j => l.getD j d) := by
  apply List.ext_getElem?
  intro j
  by_cases hj : j < l.length
  · rw [tab_get hj, List.getElem?_eq_getElem hj]; simp [hj]
  · rw [List.getElem?_eq_none (Nat.le_of_not_lt hj), List.getElem?_eq_none (by rw [tab_length]; omega)]
end
theorem geti2_tab {n k : Nat} {g : Nat → List Int} (h : k < n) : geti2 (tab n g) (k : Int) = g k := by unfold geti2; rw [Int.toNat_natCast, tab_getD h]
theorem geti_tab {n k : Nat} {g : Nat → Int} (h : k < n) : geti (tab n g) (k : Int) = g k := by unfold geti; rw [Int.toNat_natCast, tab_getD h]

theorem divmod_next (h z : Nat) (hh : 0 < h) : ((z % h + 1 < h ∧ (z + 1) / h = z / h ∧ (z + 1) % h = z % h + 1) ∨ (z % h + 1 = h ∧ (z + 1) / h = z / h + 1 ∧ (z + 1) % h = 0)) := by
  have h1 := Nat.div_add_mod z h
  have h2 := Nat.mod_lt z hh
  by_cases hr : z % h + 1 < h
  · refine .inl ⟨hr, ?_, ?_⟩
    · rw [show z + 1 = h * (z / h) + (z % h + 1) by omega, Nat.mul_add_div hh, Nat.div_eq_of_lt hr, Nat.add_zero]
    · conv => lhs; rw [show z + 1 = h * (z / h) + (z % h + 1) by omega]
      rw [Nat.mul_add_mod, Nat.mod_eq_of_lt hr]
  · have hr : z % h + 1 = h := by omega
    have he : z + 1 = h * (z / h + 1) := by rw [Nat.mul_succ]; omega
    refine .inr ⟨hr, ?_, ?_⟩
    · conv => lhs; rw [he]
      exact Nat.mul_div_cancel_left _ hh
    · conv => lhs; rw [he]
      exact Nat.mul_mod_right _ _
end Go.GL
