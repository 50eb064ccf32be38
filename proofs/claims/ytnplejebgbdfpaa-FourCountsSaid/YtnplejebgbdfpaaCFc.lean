/-
  Four: what a sign changes.
-/
import Derived.Test.YtnplejebgbdfpaaCFb
namespace Go.Proofs.Ytnplejebgbdfpaa
open Go Go.GL

section
variable {W H k : Int} {c : List Int}

/-- Nobody has a row. -/
def NW (W H : Int) (c : List Int) (k : Int) : Prop := ¬ Won W H c k 1 ∧ ¬ Won W H c k 2

theorem won_place (B : Bd W H c k) {w : Int} (hw : 0 < w) : Won W H c k w ↔ ∃ p : Nat, p < c.length ∧ InRow W H c k p ∧ geti c p = w := by
  have hk := B.k
  constructor
  · rintro ⟨y, x, d, hA, hr⟩
    have hi := B.idx hA.2.1 hA.1
    obtain ⟨hl, hv⟩ := rv_pos hk.1 (show rv W H c k y x d ≠ 0 by omega)
    refine ⟨(y * W + x).toNat, by omega, ⟨y, x, d, 0, hA, by omega, by omega, ?_⟩, ?_⟩
    · unfold plc
      rw [show ((0 : Nat) : Int) = 0 from rfl, Int.mul_zero, Int.mul_zero, Int.add_zero, Int.add_zero]
      omega
    · rw [show (((y * W + x).toNat : Nat) : Int) = y * W + x by omega, ← hv, hr]
  · rintro ⟨p, hp, ⟨y, x, d, i, hA, hi, hr, he⟩, hg⟩
    obtain ⟨hl, hv⟩ := rv_pos hk.1 (show rv W H c k y x d ≠ 0 by omega)
    refine ⟨y, x, d, hA, ?_⟩
    have := (hl i hi).2.2.2.2
    rw [← this, ← hg, he]; rfl

theorem set_won (B : Bd W H c k) {p : Nat} {who w : Int} (hp : p < c.length) (hwho : who = 1 ∨ who = 2) (hw : w = 1 ∨ w = 2) (hn : NW W H c k) :
    Won W H (c.set p who) k w ↔ w = who ∧ InRow W H (c.set p who) k p := by
  have hk := B.k
  have hlen : (c.set p who).length = c.length := List.length_set ..
  have hat : geti (c.set p who) (p : Int) = who := by rw [geti_set' (by omega) hp, if_pos rfl]
  constructor
  · rintro ⟨y, x, d, hA, hr⟩
    obtain ⟨hl, hv⟩ := rv_pos hk.1 (show rv W H (c.set p who) k y x d ≠ 0 by omega)
    by_cases hi : ∃ i : Nat, (i : Int) < k ∧ (p : Int) = plc W y x d i
    · obtain ⟨i, hi, he⟩ := hi
      have h1 := (hl i hi).2.2.2.2
      have h2 : geti (c.set p who) (p : Int) = w := by rw [he, ← hr, ← h1]; rfl
      exact ⟨by rw [← h2, hat], y, x, d, i, hA, hi, by omega, he⟩
    · exfalso
      have hc : Won W H c k w := by
        have hl' : LineAt W H c k x y (DX d) (DY d) w := by
          intro i hi'
          have h1 := hl i hi'
          have h2 := B.idx ⟨h1.1, h1.2.1⟩ ⟨h1.2.2.1, h1.2.2.2.1⟩
          refine ⟨h1.1, h1.2.1, h1.2.2.1, h1.2.2.2.1, ?_⟩
          have h3 := h1.2.2.2.2
          rw [geti_set' h2.1 hp, if_neg (fun e => hi ⟨i, hi', e.symm⟩), hr] at h3
          exact h3
        have h0 := (hl' 0 (by omega)).2.2.2.2
        rw [show ((0 : Nat) : Int) = 0 from rfl, Int.mul_zero, Int.mul_zero, Int.add_zero, Int.add_zero] at h0
        refine ⟨y, x, d, hA, ?_⟩
        unfold rv rowV
        rw [h0, if_pos hl']
      rcases hw with rfl | rfl
      · exact hn.1 hc
      · exact hn.2 hc
  · rintro ⟨rfl, y, x, d, i, hA, hi, hr, he⟩
    obtain ⟨hl, hv⟩ := rv_pos hk.1 (show rv W H (c.set p w) k y x d ≠ 0 by omega)
    refine ⟨y, x, d, hA, ?_⟩
    have h1 := (hl i hi).2.2.2.2
    have h2 : geti (c.set p w) (plc W y x d i) = w := by rw [← he]; exact hat
    exact h1.symm.trans h2

theorem wonN_nw (h : NW W H c k) : wonN W H c k = 0 := by
  unfold wonN
  rw [if_neg h.1, if_neg h.2]; rfl

open Classical in
theorem wonN_set (B : Bd W H c k) {p : Nat} {who : Int} (hp : p < c.length) (hwho : who = 1 ∨ who = 2) (hn : NW W H c k) :
    wonN W H (c.set p who) k = if InRow W H (c.set p who) k p then who else 0 := by
  have h1 := set_won B (w := 1) hp hwho (Or.inl rfl) hn
  have h2 := set_won B (w := 2) hp hwho (Or.inr rfl) hn
  unfold wonN
  by_cases h : InRow W H (c.set p who) k p
  · rw [if_pos h]
    rcases hwho with rfl | rfl
    · rw [if_pos (h1.2 ⟨rfl, h⟩), if_neg (fun q => absurd (h2.1 q).1 (by decide))]; rfl
    · rw [if_neg (fun q => absurd (h1.1 q).1 (by decide)), if_pos (h2.2 ⟨rfl, h⟩)]; rfl
  · rw [if_neg h, if_neg (fun q => h (h1.1 q).2), if_neg (fun q => h (h2.1 q).2)]; rfl

theorem nw_set (B : Bd W H c k) {p : Nat} {who : Int} (hp : p < c.length) (hwho : who = 1 ∨ who = 2) (hn : NW W H c k) (h : ¬ InRow W H (c.set p who) k p) : NW W H (c.set p who) k :=
  ⟨fun q => h ((set_won B hp hwho (Or.inl rfl) hn).1 q).2, fun q => h ((set_won B hp hwho (Or.inr rfl) hn).1 q).2⟩

theorem set_back {q : Nat} {who : Int} (hq : q < c.length) (h0 : geti c (q : Int) = 0) : (c.set q who).set q 0 = c := by
  rw [List.set_set]
  refine ext_geti (by simp) fun i hi => ?_
  rw [geti_set' (by omega) hq]
  split
  · rename_i e; rw [e, h0]
  · rfl

theorem gridOf_r (hs : c.length ≤ 17592186044416) : gameroomref_GridOf_m W H c = some (W, H, c) := by
  unfold gameroomref_GridOf_m gameroomref_Ints_m
  rw [asrt_pos (by unfold bigN; omega), Option.bind_some, List.nil_append]
end
end Go.Proofs.Ytnplejebgbdfpaa
