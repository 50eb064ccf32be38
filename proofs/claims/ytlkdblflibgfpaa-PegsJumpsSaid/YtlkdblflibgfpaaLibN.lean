/-
  A small library of our own: a loop's single steps, counting.
-/
import Derived.Test.YtlkdblflibgfpaaLibP
namespace Go.GL
open Go
variable {Ds : List Nat} {ro : Option Nat}

theorem loop_next {S R : Type} {step : S → Option (St S R)} {s s' : S} {o : Option R} (h : step s = some (.next s')) (hr : loop step s' = o) (ho : o.isSome = true) : loop step s = o := by
  obtain ⟨r, rfl⟩ := Option.isSome_iff_exists.mp ho
  unfold loop at hr
  split at hr
  · rename_i hx
    obtain ⟨n, hn⟩ := Classical.choose_spec hx
    rw [Option.some.injEq] at hr
    exact loop_of (n := n + 1) (by simp only [loopN, h]; rw [hn, hr])
  · cases hr
theorem loop_next' {S R : Type} {step : S → Option (St S R)} {s s' : S} {r : R} (h : step s = some (.next s')) (hr : loop step s' = some r) : loop step s = some r := loop_next h hr rfl
theorem loop_done {S R : Type} {step : S → Option (St S R)} {s : S} {r : R} (h : step s = some (.done r)) : loop step s = some r := loop_of (n := 1) (by simp only [loopN, h])

/-! Counting -/
def cntN (p : Nat → Bool) : Nat → Nat
  | 0 => 0
  | n + 1 => cntN p n + (if p n then 1 else 0)
def sumN (f : Nat → Nat) : Nat → Nat
  | 0 => 0
  | n + 1 => sumN f n + f n

theorem cntN_congr {p q : Nat → Bool} : ∀ {n : Nat}, (∀ i, i < n → p i = q i) → cntN p n = cntN q n
  | 0, _ => rfl
  | n + 1, h => by
    have ih := cntN_congr (n := n) fun i hi => h i (by omega)
    simp only [cntN, h n (by omega), ih]
theorem sumN_congr {p q : Nat → Nat} : ∀ {n : Nat}, (∀ i, i < n → p i = q i) → sumN p n = sumN q n
  | 0, _ => rfl
  | n + 1, h => by
    have ih := sumN_congr (n := n) fun i hi => h i (by omega)
    simp only [sumN, h n (by omega), ih]
theorem cntN_le (p : Nat → Bool) : ∀ n, cntN p n ≤ n
  | 0 => Nat.le_refl 0
  | n + 1 => by have := cntN_le p n; simp only [cntN]; split <;> omega
theorem cntN_add (p : Nat → Bool) (m : Nat) : ∀ n, cntN p (m + n) = cntN p m + cntN (fun i => p (m + i)) n
  | 0 => rfl
  | n + 1 => by rw [← Nat.add_assoc]; simp only [cntN, cntN_add p m n]; omega
theorem cntN_mul (p : Nat → Bool) (s : Nat) : ∀ m, cntN p (s * m) = sumN (fun q => cntN (fun r => p (s * q + r)) s) m
  | 0 => rfl
  | m + 1 => by rw [Nat.mul_succ, cntN_add, cntN_mul p s m]; rfl
theorem sumN_const (c : Nat) (p : Nat → Bool) : ∀ m, sumN (fun q => c + if p q then 1 else 0) m = m * c + cntN p m
  | 0 => by simp [sumN, cntN]
  | m + 1 => by simp only [sumN, cntN, sumN_const c p m, Nat.succ_mul]; omega
theorem cntN_false {p : Nat → Bool} : ∀ {n : Nat}, (∀ i, i < n → p i = false) → cntN p n = 0
  | 0, _ => rfl
  | n + 1, h => by
    have ih := cntN_false (n := n) fun i hi => h i (by omega)
    simp only [cntN, h n (by omega), ih]; simp
theorem cntN_one (v : Nat) : ∀ n, cntN (fun r => decide (r = v)) n = if v < n then 1 else 0
  | 0 => by simp [cntN]
  | n + 1 => by
    simp only [cntN, cntN_one v n, decide_eq_true_eq]
    by_cases h1 : v < n
    · rw [if_pos h1, if_neg (by omega), if_pos (by omega)]
    · by_cases h2 : n = v
      · rw [if_neg h1, if_pos h2, if_pos (by omega)]
      · rw [if_neg h1, if_neg h2, if_neg (by omega)]

theorem tmod_nat (y s : Nat) : Int.tmod (y : Int) (s : Int) = ((y % s : Nat) : Int) := by simp [Int.tmod]
theorem tdiv_nat (y s : Nat) : Int.tdiv (y : Int) (s : Int) = ((y / s : Nat) : Int) := by simp [Int.tdiv]

end Go.GL
