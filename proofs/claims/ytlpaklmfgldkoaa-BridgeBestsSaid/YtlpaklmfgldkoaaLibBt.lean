/-
  A small library of our own: bits of unsigned numbers, by Nat's own operations.
-/
import Derived.Test.YtlpaklmfgldkoaaLibR
namespace Go.GL
open Go

theorem wrapU {x : Nat} (h : x < 18446744073709551616) : IntKind.wrap .u64 (x : Int) = (x : Int) := by
  simp only [IntKind.wrap, IntKind.signed, IntKind.bits]
  simp
  omega
theorem toNatU {x : Nat} (h : x < 18446744073709551616) : (BitVec.ofInt 64 (x : Int)).toNat = x := by
  simp only [BitVec.toNat_ofInt]
  omega
theorem lt_or {x y : Nat} (hx : x < 18446744073709551616) (hy : y < 18446744073709551616) : x ||| y < 18446744073709551616 := Nat.or_lt_two_pow (n := 64) hx hy
theorem orN {x y : Nat} (hx : x < 18446744073709551616) (hy : y < 18446744073709551616) : orK .u64 (x : Int) (y : Int) = ((x ||| y : Nat) : Int) := by
  unfold orK
  rw [BitVec.toNat_or, toNatU hx, toNatU hy, wrapU (lt_or hx hy)]
theorem pow_lt {i : Nat} (h : i < 64) : 2 ^ i < 18446744073709551616 := Nat.pow_lt_pow_right (a := 2) (m := i) (n := 64) (by omega) h
theorem shlN {i : Nat} (h : i < 64) : shlK .u64 1 (i : Int) = ((2 ^ i : Nat) : Int) := by
  unfold shlK
  rw [Int.toNat_natCast, show IntKind.u64.bits = 64 from rfl, Nat.min_eq_left (by omega), Int.one_mul]
  rw [show ((2 : Int) ^ i) = ((2 ^ i : Nat) : Int) by push_cast; rfl, wrapU (pow_lt h)]
end Go.GL
