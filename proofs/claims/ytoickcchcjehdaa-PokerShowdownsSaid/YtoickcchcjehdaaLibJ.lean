/-
  The whole of an array in a block as a slice that is copied into.
-/
import Derived.Test.YtoickcchcjehdaaLibD
namespace Go.GL
open Go Go.RowKit
variable {Ds : List Nat} {ro : Option Nat}

/-- A list as an array of so many numbers. -/
def pad (n : Nat) (m : List Int) : List Int := (List.range n).map fun i => m.getD i 0
theorem pad_length (n : Nat) (m : List Int) : (pad n m).length = n := by simp [pad]
theorem pad_get {n i : Nat} {m : List Int} (h : i < n) : (pad n m)[i]? = some (m.getD i 0) := by simp [pad, h]

section
variable {P : Program} {C : World → Prop} {hyps : List (Bool × Bool)} {w0 w : World} {B : Nat} {l r : List HP} {e t t2 ty bt : TypeId} {inf : TypeInfo} {A2 : Option Addr} {n c2 dc n2 : Nat} {m ys : List Int}

theorem ob_sliceB {x : Bool} {a : Addr} {len : Nat} (ht : P.underlying t = some (.array len e)) (hi : P.info? e = some inf) :
    Ob.holds P C x ⟨true, hyps, vS (Instr.sliceAt t (.pointer (some a)) none none none), .slice (some a) len len⟩ :=
  Ob.any fun _ w => by
    have h0 : a.add (0 * inf.size) = a := by rw [Nat.zero_mul]; rfl
    by_cases hl : len = 0
    · simp [Instr.sliceAt, run_underlying ht, Instr.sureAddr, Instr.sliceBounds, sizeOf, typeInfo, hi, hl]
    · simp [Instr.sliceAt, run_underlying ht, Instr.sureAddr, Instr.sliceBounds, sizeOf, typeInfo, hi, hl, h0]
      rfl

end

end Go.GL
