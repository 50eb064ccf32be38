/-
  A small library of our own: plain facts for reasoning on the models.
-/
import Derived.Test.YtdjjomghggplpaaLibT
namespace Go.GL
open Go
variable {Ds : List Nat} {ro : Option Nat}

theorem w64_of {x : Int} (h : -9223372036854775808 ≤ x ∧ x ≤ 9223372036854775807) : w64 x = x := IntWalk.i64_in x h

/-- A loop whose states are told one by one. -/
theorem loop_count {S R : Type} {step : S → Option (St S R)} (f : Nat → S) (n : Nat) (r : R) (h : ∀ i, i < n → step (f i) = some (.next (f (i + 1)))) (hd : step (f n) = some (.done r)) : loop step (f 0) = some r := by
  have key : ∀ m i, i + m = n → loopN step (m + 1) (f i) = some r := by
    intro m
    induction m with
    | zero => intro i hi; obtain rfl : i = n := by omega
              simp [loopN, hd]
    | succ m ih => intro i hi
                   rw [loopN, h i (by omega)]
                   exact ih (i + 1) (by omega)
  exact loop_of (key n 0 (by omega))

theorem loop_from {S R : Type} {step : S → Option (St S R)} {s0 : S} {r : R} (f : Nat → S) (n : Nat) (h0 : f 0 = s0) (h : ∀ i, i < n → step (f i) = some (.next (f (i + 1)))) (hd : step (f n) = some (.done r)) : loop step s0 = some r :=
  h0 ▸ loop_count f n r h hd

theorem asrt_pos {α : Type} {p : Prop} [Decidable p] {k : Option α} (h : p) : asrt p k = k := if_pos h

theorem geti_nat (l : List Int) (k : Nat) : geti l (k : Int) = l.getD k 0 := by simp [geti]

/-- A list by its entries. -/
def mr (n : Nat) (g : Nat → Int) : List Int := (List.range n).map g
theorem mr_length (n : Nat) (g : Nat → Int) : (mr n g).length = n := by simp [mr]
theorem mr_get {n : Nat} {g : Nat → Int} {k : Nat} (h : k < n) : (mr n g)[k]? = some (g k) := by simp [mr, h]
theorem mr_getD {n : Nat} {g : Nat → Int} {k : Nat} (h : k < n) : (mr n g).getD k 0 = g k := by
  rw [List.getD_eq_getElem?_getD, mr_get h]; rfl
theorem mr_geti {n : Nat} {g : Nat → Int} {k : Nat} (h : k < n) : geti (mr n g) (k : Int) = g k := by rw [geti_nat, mr_getD h]
theorem mr_congr {n : Nat} {f g : Nat → Int} (h : ∀ j, j < n → f j = g j) : mr n f = mr n g := by
  unfold mr
  exact List.map_congr_left fun j hj => h j (by simpa using hj)
theorem mr_eq {n : Nat} {f g : Nat → Int} : mr n f = mr n g ↔ ∀ j, j < n → f j = g j := by
  constructor
  · intro h j hj
    have h1 := mr_get (g := f) hj
    rw [h, mr_get hj] at h1
    simpa using h1.symm
  · exact mr_congr
theorem mr_set {n : Nat} {g : Nat → Int} (k : Nat) (x : Int) : (mr n g).set k x = mr n (fun j => if j = k then x else g j) := by
  apply List.ext_getElem?
  intro j
  by_cases hj : j < n
  · rw [mr_get hj, List.getElem?_set]
    by_cases hk : k = j
    · subst hk; simp [mr_length, hj]
    · rw [if_neg hk, mr_get hj, if_neg (Ne.symm hk)]
  · rw [List.getElem?_eq_none (by rw [List.length_set, mr_length]; omega), List.getElem?_eq_none (by rw [mr_length]; omega)]
theorem mr_rep (n : Nat) (x : Int) : List.replicate n x = mr n (fun _ => x) := by
  unfold mr
  apply List.ext_getElem?
  intro j
  by_cases hj : j < n <;> simp [hj]
theorem mr_self (l : List Int) : l = mr l.length (fun j => l.getD j 0) := by
  apply List.ext_getElem?
  intro j
  by_cases hj : j < l.length
  · rw [mr_get hj, List.getElem?_eq_getElem hj]; simp [hj]
  · rw [List.getElem?_eq_none (Nat.le_of_not_lt hj), List.getElem?_eq_none (by rw [mr_length]; omega)]
theorem mr_snoc (n : Nat) (g : Nat → Int) : mr n g ++ [g n] = mr (n + 1) g := by simp [mr, List.range_succ]

end Go.GL
