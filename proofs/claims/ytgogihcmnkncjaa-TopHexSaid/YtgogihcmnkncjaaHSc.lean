/-
  Hex: the shortest way, as the document reckons it.
-/
import Derived.Test.YtgogihcmnkncjaaHGd
import Derived.Test.YtgogihcmnkncjaaHSb
namespace Go.Proofs.Ytgogihcmnkncjaa
open Go Go.GL

theorem sumN_upd {f g : Nat → Nat} {b : Nat} : ∀ n, b < n → (∀ i, i < n → i ≠ b → g i = f i) → sumN g n + f b = sumN f n + g b
  | 0, h, _ => by omega
  | n + 1, h, he => by
    by_cases e : b = n
    · subst e
      have : sumN g b = sumN f b := sumN_congr fun i hi => he i (by omega) (by omega)
      simp only [sumN]; omega
    · have := sumN_upd n (by omega) (fun i hi hb => he i (by omega) hb)
      have := he n (by omega) (by omega)
      simp only [sumN]; omega
theorem sumN_one {f : Nat → Nat} {b : Nat} : ∀ n, b < n → f b ≤ sumN f n
  | 0, h => by omega
  | n + 1, h => by
    by_cases e : b = n
    · subst e; simp only [sumN]; omega
    · have := sumN_one (f := f) n (show b < n by omega)
      simp only [sumN]; omega
theorem sumN_bd {f : Nat → Nat} {k : Nat} : ∀ n, (∀ i, i < n → f i ≤ k) → sumN f n ≤ n * k
  | 0, _ => by simp [sumN]
  | n + 1, h => by
    have := sumN_bd n (fun i hi => h i (by omega))
    have := h n (by omega)
    simp only [sumN, Nat.add_mul]; omega

section
variable {W : Int} {c : List Int} {who : Int}

def okS (c : List Int) (who : Int) (b : Nat) : Prop := b < c.length ∧ geti c b ≠ 3 - who
instance (b : Nat) : Decidable (okS c who b) := by unfold okS; infer_instance
def costS (c : List Int) (who : Int) (b : Nat) : Nat := if geti c b = who then 0 else 1
theorem costS_le (b : Nat) : costS c who b ≤ 1 := by unfold costS; split <;> omega
def WayS (W : Int) (c : List Int) (who : Int) : Nat → Nat → Prop := WayC (HA W) (fun b => sdW W who b = 0) (okS c who) (costS c who)
def goalS (W : Int) (c : List Int) (who : Int) (b : Nat) : Prop := b < c.length ∧ sdW W who b = W - 1

theorem WayS.ok {n b : Nat} (h : WayS W c who n b) : okS c who b := by
  cases h with
  | start _ h => exact h
  | step _ _ h => exact h

/-- The document's costs. -/
structure CostOk (c : List Int) (who : Int) (cost : List Int) : Prop where
  len : cost.length = c.length
  yes : ∀ b : Nat, okS c who b → geti cost b = costS c who b
  no : ∀ b : Nat, b < c.length → ¬ okS c who b → geti cost b = 1000000

def finS (far : List Int) (b : Nat) : Nat := if geti far b < 1000000 then 1 else 0

structure FI (W : Int) (c : List Int) (who : Int) (far : List Int) : Prop where
  len : far.length = c.length
  bd : ∀ b : Nat, b < c.length → 0 ≤ geti far b ∧ geti far b ≤ 1000000
  fin : ∀ b : Nat, b < c.length → geti far b < 1000000 → geti far b ≤ sumN (finS far) c.length ∧ WayS W c who (geti far b).toNat b
  st : ∀ b : Nat, okS c who b → sdW W who b = 0 → geti far b ≤ costS c who b

theorem FI.cnt {far : List Int} (_h : FI W c who far) : sumN (finS far) c.length ≤ c.length := by
  have := sumN_bd (f := finS far) (k := 1) c.length (fun i _ => by unfold finS; split <;> omega)
  omega

/-- Settled. -/
def FinF (W : Int) (c : List Int) (who : Int) (g : List Int) : Prop := FI W c who g ∧ ∀ a b : Nat, a < c.length → geti g a < 1000000 → okS c who b → HA W a b → geti g b ≤ geti g a + costS c who b

theorem FinF.le {g : List Int} (h : FinF W c who g) {n b : Nat} (hw : WayS W c who n b) : geti g b < 1000000 ∧ geti g b ≤ n ∨ 1000 < c.length := by
  by_cases hl : 1000 < c.length
  · exact .inr hl
  left
  have hcnt := h.1.cnt
  induction hw with
  | @start b h1 h2 =>
    have := h.1.st _ h2 h1
    have := costS_le (c := c) (who := who) b
    omega
  | @step n a b h1 h2 h3 ih =>
    have ha : a < c.length := (WayS.ok h1).1
    have k1 := h.2 _ _ ha ih.1 h3 h2
    have k2 := (h.1.fin _ ha ih.1).1
    have := costS_le (c := c) (who := who) b
    refine ⟨?_, ?_⟩
    · omega
    · omega

end
end Go.Proofs.Ytgogihcmnkncjaa
