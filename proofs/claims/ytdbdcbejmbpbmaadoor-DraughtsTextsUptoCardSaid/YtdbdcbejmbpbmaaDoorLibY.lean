/-
  A small library of our own: boards (plain facts).
-/
import Derived.Test.YtdbdcbejmbpbmaaDoorLibX
namespace Go.GL
open Go
variable {Ds : List Nat} {ro : Option Nat}

theorem mul_bd' {b W : Int} (hb : -30 ≤ b ∧ b ≤ 30) (hW : 1 ≤ W ∧ W ≤ 10) : -300 ≤ b * W ∧ b * W ≤ 300 := by
  have h1 := Int.mul_nonneg (show 0 ≤ 30 - b by omega) (show 0 ≤ W by omega)
  have h2 := Int.mul_nonneg (show 0 ≤ b + 30 by omega) (show 0 ≤ W by omega)
  rw [Int.sub_mul] at h1
  rw [Int.add_mul] at h2
  omega

/-- A board of W columns and H rows. -/
structure Dm (W H : Int) (c : List Int) : Prop where
  w : 1 ≤ W ∧ W ≤ 10
  h : 1 ≤ H ∧ H ≤ 10
  len : (c.length : Int) = W * H

theorem Dm.small {W H : Int} {c : List Int} (B : Dm W H c) : c.length ≤ 300 := by
  have := B.len
  have h2 := mul_bd' (b := H) (W := W) (by have := B.h; omega) B.w
  rw [Int.mul_comm] at h2
  omega
end Go.GL
