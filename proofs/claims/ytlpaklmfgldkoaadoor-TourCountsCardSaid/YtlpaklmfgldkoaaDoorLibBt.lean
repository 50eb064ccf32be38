/-
  A small library of our own: bits of unsigned numbers, by Nat's own operations.
-/
import Derived.Test.YtlpaklmfgldkoaaDoorLibR
namespace Go.GL
open Go

theorem wrapU {x : Nat} (h : x < 18446744073709551616) : IntKind.wrap .u64 (x : Int) = (x : Int) := by
  simp only [IntKind.wrap, IntKind.signed, IntKind.bits]
  simp
  omega
theorem toNatU {x : Nat} (h : x < 18446744073709551616) : (BitVec.ofInt 64 (x : Int)).toNat = x := by
  simp only [BitVec.toNat_ofInt]
  omega
theorem lt_or {x y : Nat} (hx : x < 18446744073709551616) (hy : y < 18446744073709551616) : x ||| y < 18446744073709551616 := Nat.or_lt_two_pow (n := 64) hx hy
theorem lt_and {x y : Nat} (hx : x < 18446744073709551616) : x &&& y < 18446744073709551616 := Nat.lt_of_le_of_lt Nat.and_le_left hx
theorem orN {x y : Nat} (hx : x < 18446744073709551616) (hy : y < 18446744073709551616) : orK .u64 (x : Int) (y : Int) = ((x ||| y : Nat) : Int) := by
  unfold orK
  rw [BitVec.toNat_or, toNatU hx, toNatU hy, wrapU (lt_or hx hy)]
theorem andN {x y : Nat} (hx : x < 18446744073709551616) (hy : y < 18446744073709551616) : andK .u64 (x : Int) (y : Int) = ((x &&& y : Nat) : Int) := by
  unfold andK
  rw [BitVec.toNat_and, toNatU hx, toNatU hy, wrapU (lt_and hx)]
theorem pow_lt {i : Nat} (h : i < 64) : 2 ^ i < 18446744073709551616 := Nat.pow_lt_pow_right (a := 2) (m := i) (n := 64) (by omega) h
theorem shlN {i : Nat} (h : i < 64) : shlK .u64 1 (i : Int) = ((2 ^ i : Nat) : Int) := by
  unfold shlK
  rw [Int.toNat_natCast, show IntKind.u64.bits = 64 from rfl, Nat.min_eq_left (by omega), Int.one_mul]
  rw [show ((2 : Int) ^ i) = ((2 ^ i : Nat) : Int) by push_cast; rfl, wrapU (pow_lt h)]
theorem shrN {x i : Nat} (h : i < 64) : shrK .u64 (x : Int) (i : Int) = ((x / 2 ^ i : Nat) : Int) := by
  unfold shrK
  rw [Int.toNat_natCast, show IntKind.u64.bits = 64 from rfl, Nat.min_eq_left (by omega)]
  rw [show ((2 : Int) ^ i) = ((2 ^ i : Nat) : Int) by push_cast; rfl, Int.fdiv_eq_ediv_of_nonneg _ (Int.natCast_nonneg _)]
  rfl
theorem bitN {x i : Nat} (hx : x < 18446744073709551616) (h : i < 64) : (andK .u64 (shrK .u64 (x : Int) (i : Int)) 1 == 1) = x.testBit i := by
  have hd : x / 2 ^ i < 18446744073709551616 := Nat.lt_of_le_of_lt (Nat.div_le_self _ _) hx
  have e := andN (x := x / 2 ^ i) (y := 1) hd (by omega)
  rw [shrN h]
  have e' : andK .u64 ((x / 2 ^ i : Nat) : Int) 1 = ((x / 2 ^ i &&& 1 : Nat) : Int) := e
  rw [e', Nat.and_one_is_mod, Nat.testBit_eq_decide_div_mod_eq]
  rw [Bool.eq_iff_iff]
  simp only [beq_iff_eq, decide_eq_true_eq]
  omega
theorem bit_or_pow {x i j : Nat} : (x ||| 2 ^ i).testBit j = (x.testBit j || decide (i = j)) := by rw [Nat.testBit_or, Nat.testBit_two_pow]
end Go.GL
