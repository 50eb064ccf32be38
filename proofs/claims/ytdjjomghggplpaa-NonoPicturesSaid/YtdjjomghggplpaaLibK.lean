/-
  A small library of our own: bits of small numbers.
-/
import Derived.Test.YtdjjomghggplpaaLibM
namespace Go.GL
open Go
variable {Ds : List Nat} {ro : Option Nat}

theorem band1 (x : Nat) (h : x < 9223372036854775808) : bAnd (x : Int) 1 = ((x % 2 : Nat) : Int) := by
  unfold bAnd
  have e : (BitVec.ofInt 64 (x : Int) &&& BitVec.ofInt 64 1).toNat = x % 2 := by
    rw [BitVec.toNat_and]
    have h1 : (BitVec.ofInt 64 (x : Int)).toNat = x := by rw [BitVec.toNat_ofInt]; omega
    have h2 : (BitVec.ofInt 64 1).toNat = 1 := by decide
    rw [h1, h2]
    exact Nat.and_one_is_mod _
  rw [e]
  exact w64_of (by omega)

theorem pow_lt_big {i : Nat} (h : i ≤ 62) : 2 ^ i ≤ 4611686018427387904 := by
  calc 2 ^ i ≤ 2 ^ 62 := Nat.pow_le_pow_right (by omega) h
    _ = 4611686018427387904 := by decide

theorem shl1 (i : Nat) (h : i ≤ 62) : shlK .i64 1 (i : Int) = ((2 ^ i : Nat) : Int) := by
  unfold shlK
  have hb : min (i : Int).toNat IntKind.i64.bits = i := by
    rw [Int.toNat_natCast]
    have : IntKind.i64.bits = 64 := rfl
    omega
  rw [hb, Int.one_mul]
  have := pow_lt_big h
  have e : (2 : Int) ^ i = ((2 ^ i : Nat) : Int) := by simp
  rw [e]
  generalize 2 ^ i = q at this
  exact w64_of ⟨by omega, by omega⟩

theorem shr_nat (x i : Nat) (h : i ≤ 62) : shrK .i64 (x : Int) (i : Int) = ((x / 2 ^ i : Nat) : Int) := by
  unfold shrK
  have hb : min (i : Int).toNat IntKind.i64.bits = i := by
    rw [Int.toNat_natCast]
    have : IntKind.i64.bits = 64 := rfl
    omega
  rw [hb]
  have e : (2 : Int) ^ i = ((2 ^ i : Nat) : Int) := by simp
  rw [e, Int.fdiv_eq_ediv_of_nonneg _ (Int.natCast_nonneg _)]
  rfl

end Go.GL
