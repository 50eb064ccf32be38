import Derived.Test.YtkpkkdpfcbnfdaaLibM
namespace Go.GL
open Go
variable {Ds : List Nat} {ro : Option Nat}
theorem shr_nat (x i : Nat) (h : i ≤ 62) : shrK .i64 (x : Int) (i : Int) = ((x / 2 ^ i : Nat) : Int) := by
 unfold shrK
 have hb : min (i : Int).toNat IntKind.i64.bits = i := by
  rw [Int.toNat_natCast]
  have : IntKind.i64.bits = 64 := rfl
  omega
 rw [hb]
 have e : (2 : Int) ^ i = ((2 ^ i : Nat) : Int) := by simp
 rw [e, Int.fdiv_eq_ediv_of_nonneg _ (Int.natCast_nonneg _)]
 rfl
end Go.GL
