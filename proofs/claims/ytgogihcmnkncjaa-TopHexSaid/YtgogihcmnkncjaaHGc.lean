/-
  Hex: what the reference's HexGroups tells.
-/
import Derived.Test.YtgogihcmnkncjaaHGb
namespace Go.Proofs.Ytgogihcmnkncjaa
open Go Go.GL

section
variable {W : Int} {c : List Int} {v : Int}

structure RI (W : Int) (c : List Int) (v : Int) (g : List Int) : Prop where
  len : g.length = c.length
  at_ : ∀ b : Nat, b < c.length → ∃ q : Nat, geti g b = q ∧ q ≤ b ∧ Rh W c v b q

/-- Settled. -/
def Fin (W : Int) (c : List Int) (v : Int) (g : List Int) : Prop := RI W c v g ∧ ∀ a b : Nat, Mk c v a → Mk c v b → HA W a b → geti g a ≤ geti g b

theorem Fin.same {g : List Int} (h : Fin W c v g) {a b : Nat} (ha : Mk c v a) (hr : Rh W c v a b) : geti g a = geti g b := by
  induction hr with
  | base => rfl
  | step h1 h2 h3 ih =>
    have hm := Reach.mk_of ha h1
    have := h.2 _ _ hm h3 h2
    have := h.2 _ _ h3 hm h2.symm
    omega

theorem Fin.lst {g : List Int} (h : Fin W c v g) {p : Nat} (hp : Mk c v p) : geti g p = p ↔ Lst W c v p := by
  constructor
  · intro hg
    refine ⟨hp, fun a ha hm hr => ?_⟩
    have := h.same hm hr
    obtain ⟨q, h1, h2, _⟩ := h.1.at_ a hm.1
    omega
  · intro hL
    obtain ⟨q, h1, h2, h3⟩ := h.1.at_ p hp.1
    by_cases e : q = p
    · rw [h1, e]
    · exact absurd (Rh.symm hp h3) (hL.2 q (by omega) (Reach.mk_of hp h3))

theorem Fin.grp {g : List Int} (h : Fin W c v g) {p k : Nat} (hp : Lst W c v p) (hk : Mk c v k) : geti g k = p ↔ Rh W c v p k := by
  constructor
  · intro hg
    obtain ⟨q, h1, h2, h3⟩ := h.1.at_ k hk.1
    obtain rfl : q = p := by omega
    exact Rh.symm hk h3
  · intro hr
    have := h.same hp.1 hr
    have := (h.lst hp.1).2 hp
    omega

end
end Go.Proofs.Ytgogihcmnkncjaa
