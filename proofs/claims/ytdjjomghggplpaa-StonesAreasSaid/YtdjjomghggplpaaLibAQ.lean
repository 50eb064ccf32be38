/-
  A small library of our own: a slice whose elements have several cells, cut.
-/
import Derived.Test.YtdjjomghggplpaaLibV
namespace Go.GL
open Go Go.RowKit
variable {Ds : List Nat} {ro : Option Nat}

def cutAddrK (A : Option Addr) (k c : Nat) (lo : Int) : Option Addr := if c = lo.toNat then A else A.map (·.add (lo.toNat * k))

section
variable {P : Program} {C : World → Prop} {hyps : List (Bool × Bool)} {t e : TypeId} {inf : TypeInfo} {A : Option Addr} {n c k9 : Nat}

theorem Rd.cutK {α : Type} {F : α → List Value} (hF : EncK F k9) {w : World} {B : Nat} {l : List α} {lo hi : Int} (h : Rd w B A (l.flatMap F)) (hb : 0 ≤ lo ∧ lo ≤ hi ∧ hi ≤ (l.length : Int)) (hc : l.length ≤ c) : Rd w B (cutAddrK A k9 c lo) ((GL.cut l lo hi).flatMap F) := by
  intro i u hu
  have hk := hF.pos
  have hlen : (GL.cut l lo hi).length = (hi - lo).toNat := cut_length hb.1 hb.2.1 hb.2.2
  have hi1 := (List.getElem?_eq_some_iff.1 hu).1
  rw [flatMap_len hF, hlen] at hi1
  have hq : i / k9 < (hi - lo).toNat := Nat.div_lt_of_lt_mul (by rw [Nat.mul_comm]; exact hi1)
  have hr : i % k9 < k9 := Nat.mod_lt _ hk
  have hsp : i = i / k9 * k9 + i % k9 := by rw [Nat.mul_comm]; exact (Nat.div_add_mod i k9).symm
  generalize i / k9 = q at hq hsp
  generalize i % k9 = j at hr hsp
  subst hsp
  cases hl : l with
  | nil => rw [hl] at hb; simp at hb; omega
  | cons z l' =>
    rw [flatMap_get hF z _ _ _ (by rw [hlen]; exact hq) hr] at hu
    have hg : (GL.cut l lo hi).getD q z = l.getD (lo.toNat + q) z := by
      unfold GL.cut
      rw [List.getD_eq_getElem?_getD, List.getD_eq_getElem?_getD, List.getElem?_take, if_pos (by omega), List.getElem?_drop]
    rw [hg, ← flatMap_get hF z l (lo.toNat + q) j (by omega) hr] at hu
    obtain ⟨ad, rfl, h1, h2⟩ := h _ u hu
    unfold cutAddrK
    rw [if_neg (by omega)]
    refine ⟨ad.add (lo.toNat * k9), rfl, by rw [block_add]; exact h1, ?_⟩
    rw [add_add, ← Nat.add_assoc, ← Nat.add_mul]
    exact h2
end
end Go.GL
