/-
  A small library of our own: boards (plain facts).
-/
import Derived.Test.YtdbdcbejmbpbmaaDoorLibX
namespace Go.GL
open Go
variable {Ds : List Nat} {ro : Option Nat}

theorem mul_bd' {b W : Int} (hb : -30 ≤ b ∧ b ≤ 30) (hW : 1 ≤ W ∧ W ≤ 10) : -300 ≤ b * W ∧ b * W ≤ 300 := by
  have h1 := Int.mul_nonneg (show 0 ≤ 30 - b by omega) (show 0 ≤ W by omega)
  have h2 := Int.mul_nonneg (show 0 ≤ b + 30 by omega) (show 0 ≤ W by omega)
  rw [Int.sub_mul] at h1
  rw [Int.add_mul] at h2
  omega

/-- A board of W columns and H rows. -/
structure Dm (W H : Int) (c : List Int) : Prop where
  w : 1 ≤ W ∧ W ≤ 10
  h : 1 ≤ H ∧ H ≤ 10
  len : (c.length : Int) = W * H

theorem Dm.idx {W H : Int} {c : List Int} (B : Dm W H c) {x y : Int} (hx : 0 ≤ x ∧ x < W) (hy : 0 ≤ y ∧ y < H) : 0 ≤ y * W + x ∧ y * W + x < c.length := by
  have h1 := Int.mul_nonneg hy.1 (show 0 ≤ W by have := B.w; omega)
  have h2 := Int.mul_nonneg (show 0 ≤ H - 1 - y by omega) (show 0 ≤ W by have := B.w; omega)
  rw [Int.sub_mul, Int.sub_mul] at h2
  have e : W * H = H * W := Int.mul_comm _ _
  have := B.len
  omega
theorem Dm.small {W H : Int} {c : List Int} (B : Dm W H c) : c.length ≤ 300 := by
  have := B.len
  have h2 := mul_bd' (b := H) (W := W) (by have := B.h; omega) B.w
  rw [Int.mul_comm] at h2
  omega
/-- Two loops in step. -/
theorem count_loop2' {σ S1 R1 S2 R2 : Type} {step1 : S1 → Option (St S1 R1)} {step2 : S2 → Option (St S2 R2)} (mk1 : σ → Nat → S1) (mk2 : σ → Nat → S2) (I : Nat → σ → Prop) (Post : R1 → R2 → Prop) (n : Nat) (s : σ) (hI : I 0 s)
    (h2 : ∀ i s, i < n → I i s → ∃ s', step1 (mk1 s i) = some (.next (mk1 s' (i + 1))) ∧ step2 (mk2 s i) = some (.next (mk2 s' (i + 1))) ∧ I (i + 1) s')
    (h3 : ∀ s, I n s → ∃ r1 r2, step1 (mk1 s n) = some (.done r1) ∧ step2 (mk2 s n) = some (.done r2) ∧ Post r1 r2) : ∃ r1 r2, loop step1 (mk1 s 0) = some r1 ∧ loop step2 (mk2 s 0) = some r2 ∧ Post r1 r2 := by
  have key : ∀ m k s, k + m = n → I k s → ∃ r1 r2, loop step1 (mk1 s k) = some r1 ∧ loop step2 (mk2 s k) = some r2 ∧ Post r1 r2 := by
    intro m
    induction m with
    | zero =>
      intro k s hk hI
      obtain rfl : k = n := by omega
      obtain ⟨r1, r2, a, b, hp⟩ := h3 s hI
      exact ⟨r1, r2, loop_done a, loop_done b, hp⟩
    | succ m ih =>
      intro k s hk hI
      obtain ⟨s', a, b, hI'⟩ := h2 k s (by omega) hI
      obtain ⟨r1, r2, c, d, hp⟩ := ih (k + 1) s' (by omega) hI'
      exact ⟨r1, r2, loop_next' a c, loop_next' b d, hp⟩
  exact key n 0 s (by omega) hI

end Go.GL
