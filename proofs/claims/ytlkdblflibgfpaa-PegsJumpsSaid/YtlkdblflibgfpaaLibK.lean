/-
  A small library of our own: bits of small numbers.
-/
import Derived.Test.YtlkdblflibgfpaaLibM
namespace Go.GL
open Go
variable {Ds : List Nat} {ro : Option Nat}

theorem band1 (x : Nat) (h : x < 9223372036854775808) : bAnd (x : Int) 1 = ((x % 2 : Nat) : Int) := by
  unfold bAnd
  have e : (BitVec.ofInt 64 (x : Int) &&& BitVec.ofInt 64 1).toNat = x % 2 := by
    rw [BitVec.toNat_and]
    have h1 : (BitVec.ofInt 64 (x : Int)).toNat = x := by rw [BitVec.toNat_ofInt]; omega
    have h2 : (BitVec.ofInt 64 1).toNat = 1 := by decide
    rw [h1, h2]
    exact Nat.and_one_is_mod _
  rw [e]
  exact w64_of (by omega)

theorem pow_lt_big {i : Nat} (h : i ≤ 62) : 2 ^ i ≤ 4611686018427387904 := by
  calc 2 ^ i ≤ 2 ^ 62 := Nat.pow_le_pow_right (by omega) h
    _ = 4611686018427387904 := by decide

theorem shl1 (i : Nat) (h : i ≤ 62) : shlK .i64 1 (i : Int) = ((2 ^ i : Nat) : Int) := by
  unfold shlK
  have hb : min (i : Int).toNat IntKind.i64.bits = i := by
    rw [Int.toNat_natCast]
    have : IntKind.i64.bits = 64 := rfl
    omega
  rw [hb, Int.one_mul]
  have := pow_lt_big h
  have e : (2 : Int) ^ i = ((2 ^ i : Nat) : Int) := by simp
  rw [e]
  generalize 2 ^ i = q at this
  exact w64_of ⟨by omega, by omega⟩

theorem shr_nat (x i : Nat) (h : i ≤ 62) : shrK .i64 (x : Int) (i : Int) = ((x / 2 ^ i : Nat) : Int) := by
  unfold shrK
  have hb : min (i : Int).toNat IntKind.i64.bits = i := by
    rw [Int.toNat_natCast]
    have : IntKind.i64.bits = 64 := rfl
    omega
  rw [hb]
  have e : (2 : Int) ^ i = ((2 ^ i : Nat) : Int) := by simp
  rw [e, Int.fdiv_eq_ediv_of_nonneg _ (Int.natCast_nonneg _)]
  rfl

theorem bor_pow (x i : Nat) (hx : x % 2 ^ (i + 1) = 0) (hb : x < 4611686018427387904) (hi : i ≤ 61) : bOr (x : Int) ((2 ^ i : Nat) : Int) = ((x + 2 ^ i : Nat) : Int) := by
  unfold bOr
  have hp := pow_lt_big (i := i) (by omega)
  have h1 : (BitVec.ofInt 64 (x : Int)).toNat = x := by rw [BitVec.toNat_ofInt]; omega
  have h2 : (BitVec.ofInt 64 ((2 ^ i : Nat) : Int)).toNat = 2 ^ i := by rw [BitVec.toNat_ofInt]; omega
  have e : (BitVec.ofInt 64 (x : Int) ||| BitVec.ofInt 64 ((2 ^ i : Nat) : Int)).toNat = x + 2 ^ i := by
    rw [BitVec.toNat_or, h1, h2]
    obtain ⟨q, rfl⟩ : ∃ q, x = 2 ^ (i + 1) * q := ⟨x / 2 ^ (i + 1), by have := Nat.div_add_mod x (2 ^ (i + 1)); omega⟩
    rw [Nat.two_pow_add_eq_or_of_lt (Nat.pow_lt_pow_right (by omega) (by omega))]
  rw [e]
  exact w64_of ⟨by omega, by omega⟩
end Go.GL
