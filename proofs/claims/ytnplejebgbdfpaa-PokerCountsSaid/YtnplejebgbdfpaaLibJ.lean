/-
  The whole of an array in a block as a slice that is copied into.
-/
import Derived.Test.YtnplejebgbdfpaaLibD
namespace Go.GL
open Go Go.RowKit
variable {Ds : List Nat} {ro : Option Nat}

/-- A list as an array of so many numbers. -/
def pad (n : Nat) (m : List Int) : List Int := (List.range n).map fun i => m.getD i 0
theorem pad_length (n : Nat) (m : List Int) : (pad n m).length = n := by simp [pad]
theorem pad_get {n i : Nat} {m : List Int} (h : i < n) : (pad n m)[i]? = some (m.getD i 0) := by simp [pad, h]

section
variable {P : Program} {C : World → Prop} {hyps : List (Bool × Bool)} {w0 w : World} {B : Nat} {l r : List HP} {e t t2 ty bt : TypeId} {inf : TypeInfo} {A2 : Option Addr} {n c2 dc n2 : Nat} {m ys : List Int}

end

theorem wr_setCells : ∀ (vs : List Value) (cs : Array Value) (o : Nat), wr cs o vs = (setCells cs.toList o vs).toArray
  | [], cs, o => by simp [wr, setCells]
  | v :: vs, cs, o => by
    rw [wr, wr_setCells vs, setCells]
    simp
theorem wr_full {cs us : Array Value} (h : us.size = cs.size) : wr cs 0 us.toList = us := by
  rw [wr_setCells]
  apply Array.ext'
  apply List.ext_getElem?
  intro j
  simp only []
  rw [setCells_get _ _ _ _ (by simp [h])]
  by_cases q : j < us.size
  · rw [if_pos (by simpa using q), Nat.sub_zero]
  · rw [if_neg (by simpa using q), List.getElem?_eq_none (by simp; omega), List.getElem?_eq_none (by simp; omega)]

/-- A struct's value stored over the whole of a block. -/
theorem run_putW {P : Program} {w0 w : World} {B : Nat} {l r : List HP} {t e : TypeId} {g : Nat} {cs us : Array Value} (hS : Sep w0 B w (l ++ blk g e cs :: r)) (hsz : runPure P (sizeOf t) = some us.size) (h1 : ∀ u ∈ us.toList, u.oneCell' = true) (hl : us.size = cs.size) :
    ∃ w', (uS (Instr.storeAt t (.pointer (some ⟨g, 0, none⟩)) (.agg us))).run P w = .ok .skip w' ∧ Sep w0 B w' (l ++ blk g e us :: r) := by
  have h := run_putA (P := P) (o := 0) hS hsz h1 (by omega)
  rwa [wr_full hl] at h
end Go.GL
