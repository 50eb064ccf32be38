/-
  PokerShowdowns: sums over what may yet come: the same in whatever order.
-/
import Derived.Test.YtoickcchcjehdaaVSa
import Derived.Test.YtoickcchcjehdaaNPS
namespace Go.Proofs.Ytoickcchcjehdaa
open Go Go.GL

/-! ### Two of a list -/
def sum1 (f : Int → Int) : List Int → Int
  | [] => 0
  | x :: l => f x + sum1 f l
/-- Each with each behind it. -/
def sum2 (f : Int → Int → Int) : List Int → Int
  | [] => 0
  | x :: l => sum1 (f x) l + sum2 f l
theorem sum1_app (f : Int → Int) : ∀ a b : List Int, sum1 f (a ++ b) = sum1 f a + sum1 f b
  | [], b => by simp [sum1]
  | x :: a, b => by rw [List.cons_append, sum1, sum1, sum1_app f a b]; omega
theorem sum2_snoc (f : Int → Int → Int) : ∀ (l : List Int) (y : Int), sum2 f (l ++ [y]) = sum2 f l + sum1 (fun x => f x y) l
  | [], y => by simp [sum1, sum2]
  | x :: l, y => by
    rw [List.cons_append, sum2, sum2, sum1, sum2_snoc f l y, sum1_app]
    simp only [sum1]
    omega
theorem sum1_congr {f g : Int → Int} : ∀ {l : List Int}, (∀ x ∈ l, f x = g x) → sum1 f l = sum1 g l
  | [], _ => rfl
  | x :: l, h => by rw [sum1, sum1, h x (by simp), sum1_congr (fun y hy => h y (by simp [hy]))]
theorem sum1_bd {f : Int → Int} (hf : ∀ x, 0 ≤ f x ∧ f x ≤ 1) : ∀ l : List Int, 0 ≤ sum1 f l ∧ sum1 f l ≤ l.length
  | [] => by simp [sum1]
  | x :: l => by
    have := sum1_bd hf l
    have := hf x
    rw [sum1, List.length_cons]
    omega

/-- What is left of the pack from a card on. -/
def leftFrom (known : List Int) : Nat → Nat → List Int
  | 0, _ => []
  | m + 1, i => if (i : Int) ∈ known then leftFrom known m (i + 1) else (i : Int) :: leftFrom known m (i + 1)
theorem leftFrom_mem {known : List Int} : ∀ {m i : Nat} {x : Int}, x ∈ leftFrom known m i → (i : Int) ≤ x ∧ x < ((i + m : Nat) : Int) ∧ x ∉ known
  | 0, _, _, h => by cases h
  | m + 1, i, x, h => by
    unfold leftFrom at h
    split at h
    · have := leftFrom_mem h
      exact ⟨by omega, by omega, this.2.2⟩
    · rename_i hn
      rw [List.mem_cons] at h
      rcases h with rfl | h
      · exact ⟨by omega, by omega, hn⟩
      · have := leftFrom_mem h
        exact ⟨by omega, by omega, this.2.2⟩
theorem leftFrom_len {known : List Int} : ∀ (m i : Nat), (leftFrom known m i).length ≤ m
  | 0, _ => Nat.le_refl _
  | m + 1, i => by
    have := leftFrom_len (known := known) m (i + 1)
    unfold leftFrom
    split
    · omega
    · rw [List.length_cons]; omega
theorem leftFrom_lt {known : List Int} : ∀ (m i : Nat), (leftFrom known m i).Pairwise (· < ·)
  | 0, _ => List.Pairwise.nil
  | m + 1, i => by
    have := leftFrom_lt (known := known) m (i + 1)
    unfold leftFrom
    split
    · exact this
    · refine List.pairwise_cons.2 ⟨fun y hy => ?_, this⟩
      have := leftFrom_mem hy
      omega
theorem leftFrom_snoc {known : List Int} : ∀ (m i : Nat), leftFrom known (m + 1) i = leftFrom known m i ++ (if ((i + m : Nat) : Int) ∈ known then [] else [((i + m : Nat) : Int)])
  | 0, i => by
    unfold leftFrom
    simp only [leftFrom, Nat.add_zero, List.nil_append]
  | m + 1, i => by
    rw [leftFrom, leftFrom_snoc m (i + 1), leftFrom]
    have e : i + 1 + m = i + (m + 1) := by omega
    rw [e]
    split <;> simp

/-! ### The program's recursion -/
section
variable {a b known : List Int}
noncomputable def win (a b t : List Int) : Int := if best5 (b ++ t) < best5 (a ++ t) then 1 else 0
noncomputable def tie (a b t : List Int) : Int := if best5 (a ++ t) = best5 (b ++ t) then 1 else 0
theorem win_bd (a b t : List Int) : 0 ≤ win a b t ∧ win a b t ≤ 1 := by unfold win; split <;> omega
theorem tie_bd (a b t : List Int) : 0 ≤ tie a b t ∧ tie a b t ≤ 1 := by unfold tie; split <;> omega

/-- A sum over what may come, k cards, from card i on. -/
noncomputable def Zs (known : List Int) (f : List Int → Int) : Nat → List Int → List Int → Int
  | 0, t, _ => f t
  | _ + 1, _, [] => 0
  | k + 1, t, x :: l => Zs known f k (t ++ [x]) l + Zs known f (k + 1) t l
termination_by k _ l => (k, l.length)
theorem Zs_one (f : List Int → Int) (t : List Int) : ∀ l : List Int, Zs known f 1 t l = sum1 (fun x => f (t ++ [x])) l
  | [] => by rw [Zs, sum1]
  | x :: l => by rw [Zs, Zs, sum1, Zs_one f t l]
theorem Zs_two (f : List Int → Int) (t : List Int) : ∀ l : List Int, Zs known f 2 t l = sum2 (fun x y => f (t ++ [x] ++ [y])) l
  | [] => by rw [Zs, sum2]
  | x :: l => by rw [Zs, Zs_one, sum2, Zs_two f t l]
end
end Go.Proofs.Ytoickcchcjehdaa
