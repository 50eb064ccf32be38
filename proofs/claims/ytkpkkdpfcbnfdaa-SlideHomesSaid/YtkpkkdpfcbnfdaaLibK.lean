/-
  A small library of our own: bits of small numbers.
-/
import Derived.Test.YtkpkkdpfcbnfdaaLibM
namespace Go.GL
open Go
variable {Ds : List Nat} {ro : Option Nat}

theorem band1 (x : Nat) (h : x < 9223372036854775808) : bAnd (x : Int) 1 = ((x % 2 : Nat) : Int) := by
  unfold bAnd
  have e : (BitVec.ofInt 64 (x : Int) &&& BitVec.ofInt 64 1).toNat = x % 2 := by
    rw [BitVec.toNat_and]
    have h1 : (BitVec.ofInt 64 (x : Int)).toNat = x := by rw [BitVec.toNat_ofInt]; omega
    have h2 : (BitVec.ofInt 64 1).toNat = 1 := by decide
    rw [h1, h2]
    exact Nat.and_one_is_mod _
  rw [e]
  exact w64_of (by omega)

end Go.GL
