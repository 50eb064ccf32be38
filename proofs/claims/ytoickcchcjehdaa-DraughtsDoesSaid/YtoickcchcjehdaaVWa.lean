/-
  DraughtsWays: places next to places; jumps, as the document means them.
-/
import Derived.Test.YtoickcchcjehdaaVWr
namespace Go.Proofs.Ytoickcchcjehdaa
open Go Go.GL

/-- The place next to a place, by direction; 0: none. -/
def nx (p d : Nat) : Nat :=
  let y := (p - 1) / 4
  let X := 2 * ((p - 1) % 4) + 1 - y % 2 + 2 * (d % 2)
  let Y := y + 2 * (d / 2)
  if X < 1 ∨ 8 < X ∨ Y < 1 ∨ 8 < Y then 0 else 4 * (Y - 1) + (X - 1) / 2 + 1
def nx2 (p d : Nat) : Nat := if nx p d = 0 then 0 else nx (nx p d) d
def dX (p : Nat) : Int := if (p - 1) / 4 % 2 = 0 then ((2 * ((p - 1) % 4) + 1 : Nat) : Int) else ((2 * ((p - 1) % 4) : Nat) : Int)
def dY (p : Nat) : Int := (((p - 1) / 4 : Nat) : Int)
def xo (d : Nat) : Int := if d % 2 = 0 then -1 else 1
def yo (d : Nat) : Int := if d / 2 = 0 then -1 else 1
theorem nx_m : ∀ p : Nat, p < 33 → ∀ d : Nat, d < 4 → 1 ≤ p → draughts_next_m (p : Int) (d : Int) = some (nx p d : Int) ∧ nx p d < 33 := by decide +kernel
theorem dXY_m : ∀ p : Nat, p < 33 → 1 ≤ p → gameroomref_darkX_m (p : Int) = some (dX p) ∧ gameroomref_darkY_m (p : Int) = some (dY p) := by decide +kernel
theorem dA_m : ∀ p : Nat, p < 33 → ∀ d : Nat, d < 4 → 1 ≤ p → gameroomref_darkAt_m (w64 (dX p + xo d)) (w64 (dY p + yo d)) = some (nx p d : Int) ∧ gameroomref_darkAt_m (w64 (dX p + w64 (2 * xo d))) (w64 (dY p + w64 (2 * yo d))) = some (nx2 p d : Int) ∧ nx2 p d < 33 := by decide +kernel

/-- May one jump so? -/
def okJ (t : Nat → Int) (st : Nat) (over : List Int) (p d : Nat) : Bool :=
  nx p d != 0 && decide (t (nx p d) < 0) && !over.contains ((nx p d : Nat) : Int) && nx (nx p d) d != 0 && (t (nx (nx p d) d) == 0 || nx (nx p d) d == st)
/-- The ways that go on from a way; a way that ends is told whole. -/
def JS (t : Nat → Int) (crown : Nat → Bool) (ds : List Nat) (st : Nat) : Nat → Nat → List Int → List Int → List (List Int)
  | 0, _, _, _ => []
  | n + 1, p, way, over => ds.flatMap fun d => if okJ t st over p d then (if crown (nx (nx p d) d) then [way ++ [((nx (nx p d) d : Nat) : Int)]] else
      if (JS t crown ds st n (nx (nx p d) d) (way ++ [((nx (nx p d) d : Nat) : Int)]) (over ++ [((nx p d : Nat) : Int)])).isEmpty then [way ++ [((nx (nx p d) d : Nat) : Int)]]
      else JS t crown ds st n (nx (nx p d) d) (way ++ [((nx (nx p d) d : Nat) : Int)]) (over ++ [((nx p d : Nat) : Int)])) else []
/-- What one direction gives. -/
def GJ (t : Nat → Int) (crown : Nat → Bool) (ds : List Nat) (st n p : Nat) (way over : List Int) (d : Nat) : List (List Int) :=
  if okJ t st over p d then (if crown (nx (nx p d) d) then [way ++ [((nx (nx p d) d : Nat) : Int)]] else
      if (JS t crown ds st n (nx (nx p d) d) (way ++ [((nx (nx p d) d : Nat) : Int)]) (over ++ [((nx p d : Nat) : Int)])).isEmpty then [way ++ [((nx (nx p d) d : Nat) : Int)]]
      else JS t crown ds st n (nx (nx p d) d) (way ++ [((nx (nx p d) d : Nat) : Int)]) (over ++ [((nx p d : Nat) : Int)])) else []
theorem JS_succ (t : Nat → Int) (crown : Nat → Bool) (ds : List Nat) (st n p : Nat) (way over : List Int) : JS t crown ds st (n + 1) p way over = ds.flatMap (GJ t crown ds st n p way over) := rfl

section
variable {t : Nat → Int} {crown : Nat → Bool} {st : Nat}
theorem isEmpty_mem {α : Type} {a b : List α} (h : ∀ x, x ∈ a ↔ x ∈ b) : a.isEmpty = b.isEmpty := by
  cases a with
  | nil => cases b with
    | nil => rfl
    | cons y b => exact absurd ((h y).2 (by simp)) (by simp)
  | cons x a => cases b with
    | nil => exact absurd ((h x).1 (by simp)) (by simp)
    | cons y b => rfl
/-- The order of the directions does not matter. -/
theorem JS_mem {ds es : List Nat} (h : ∀ d, d ∈ ds ↔ d ∈ es) : ∀ (n p : Nat) (way over : List Int) (x : List Int), x ∈ JS t crown ds st n p way over ↔ x ∈ JS t crown es st n p way over
  | 0, _, _, _, _ => Iff.rfl
  | n + 1, p, way, over, x => by
    rw [JS_succ, JS_succ, List.mem_flatMap, List.mem_flatMap]
    have e : ∀ d, x ∈ GJ t crown ds st n p way over d ↔ x ∈ GJ t crown es st n p way over d := fun d => by
      unfold GJ
      have ih := JS_mem h n (nx (nx p d) d) (way ++ [((nx (nx p d) d : Nat) : Int)]) (over ++ [((nx p d : Nat) : Int)])
      rw [isEmpty_mem ih]
      split
      · split
        · exact Iff.rfl
        · split
          · exact Iff.rfl
          · exact ih x
      · exact Iff.rfl
    exact ⟨fun ⟨d, hd, hx⟩ => ⟨d, (h d).1 hd, (e d).1 hx⟩, fun ⟨d, hd, hx⟩ => ⟨d, (h d).2 hd, (e d).2 hx⟩⟩

theorem GJ_ne {ds : List Nat} {n p : Nat} {way over : List Int} {d : Nat} : GJ t crown ds st n p way over d = [] ↔ okJ t st over p d = false := by
  unfold GJ
  cases okJ t st over p d with
  | false => simp
  | true =>
    simp only [if_true]
    split
    · simp
    · split
      · simp
      · rename_i h1 h2
        constructor
        · intro h; rw [h] at h2; exact absurd rfl h2
        · intro h; cases h
theorem JS_len {ds : List Nat} (hd : ds.length ≤ 4) : ∀ (n p : Nat) (way over : List Int), (JS t crown ds st n p way over).length ≤ 4 ^ n
  | 0, _, _, _ => by simp [JS]
  | n + 1, p, way, over => by
    rw [JS_succ]
    have h1 : 1 ≤ 4 ^ n := Nat.one_le_pow _ _ (by omega)
    have e : ∀ d, (GJ t crown ds st n p way over d).length ≤ 4 ^ n := fun d => by
      unfold GJ
      split
      · split
        · simpa using h1
        · split
          · simpa using h1
          · exact JS_len hd n _ _ _
      · simp
    have : ∀ l : List Nat, (l.flatMap (GJ t crown ds st n p way over)).length ≤ l.length * 4 ^ n := by
      intro l
      induction l with
      | nil => simp
      | cons d l ih =>
        rw [List.flatMap_cons, List.length_append, List.length_cons, Nat.add_mul, Nat.one_mul]
        have := e d
        omega
    refine Nat.le_trans (this ds) ?_
    rw [Nat.pow_succ, Nat.mul_comm]
    exact Nat.mul_le_mul_left _ hd
theorem GJ_len {ds : List Nat} (hd : ds.length ≤ 4) {n p : Nat} {way over : List Int} {d : Nat} : (GJ t crown ds st n p way over d).length ≤ 4 ^ n := by
  have h1 : 1 ≤ 4 ^ n := Nat.one_le_pow _ _ (by omega)
  unfold GJ
  split
  · split
    · simpa using h1
    · split
      · simpa using h1
      · exact JS_len hd n _ _ _
  · simp
theorem JS_row {ds : List Nat} : ∀ (n p : Nat) (way over : List Int), ∀ x ∈ JS t crown ds st n p way over, x.length ≤ way.length + n
  | 0, _, _, _ => fun x hx => by simp [JS] at hx
  | n + 1, p, way, over => fun x hx => by
    rw [JS_succ, List.mem_flatMap] at hx
    obtain ⟨d, _, hx⟩ := hx
    unfold GJ at hx
    split at hx
    · split at hx
      · rw [List.mem_singleton] at hx
        rw [hx]; simp
      · split at hx
        · rw [List.mem_singleton] at hx
          rw [hx]; simp
        · have := JS_row n _ _ _ x hx
          rw [List.length_append, List.length_singleton] at this
          omega
    · cases hx

/-- How many of the other side's pieces are left to be jumped over. -/
def rem (t : Nat → Int) (over : List Int) : Nat := (List.range 33).countP fun q => decide (t q < 0) && !over.contains (q : Int)
theorem countP_lt {p q : Nat → Bool} : ∀ {l : List Nat} (_ : ∀ x, q x = true → p x = true) {x : Nat} (_ : x ∈ l) (_ : p x = true) (_ : q x = false), l.countP q < l.countP p
  | [], _, _, hx, _, _ => by cases hx
  | y :: l, h, x, hx, h1, h2 => by
    have hm : l.countP q ≤ l.countP p := List.countP_mono_left fun z _ hz => h z hz
    rw [List.countP_cons, List.countP_cons]
    rcases List.mem_cons.1 hx with rfl | hx
    · rw [h1, h2]
      simp
      omega
    · have := countP_lt h hx h1 h2
      by_cases hq : q y = true
      · rw [if_pos hq, if_pos (h y hq)]; omega
      · rw [if_neg hq]; split <;> omega
theorem rem_lt {over : List Int} {m : Nat} (hm : m < 33) (ht : t m < 0) (ho : over.contains (m : Int) = false) : rem t (over ++ [(m : Int)]) < rem t over := by
  unfold rem
  refine countP_lt (x := m) (fun x hx => ?_) (List.mem_range.2 hm) ?_ ?_
  · rw [Bool.and_eq_true] at hx ⊢
    refine ⟨hx.1, ?_⟩
    have := hx.2
    simp only [Bool.not_eq_true', List.contains_eq_any_beq, List.any_append, Bool.or_eq_false_iff] at this ⊢
    exact this.1
  · rw [ho]; simp [ht]
  · simp
end
end Go.Proofs.Ytoickcchcjehdaa
