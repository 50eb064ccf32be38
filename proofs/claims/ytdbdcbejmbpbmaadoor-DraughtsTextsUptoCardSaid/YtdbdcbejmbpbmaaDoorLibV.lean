/-
  A small library of our own: slices whose elements have several cells; appending a row to rows; slices of arrays in blocks.
-/
import Derived.Test.YtdbdcbejmbpbmaaDoorLibU
namespace Go.GL
open Go Go.RowKit
variable {Ds : List Nat} {ro : Option Nat}

structure EncK {α : Type} (F : α → List Value) (k : Nat) : Prop where
  len : ∀ a, (F a).length = k
  one : ∀ a, ∀ u ∈ F a, u.oneCell' = true
  pos : 0 < k

section
variable {α : Type} {F : α → List Value} {k : Nat} {m : List α}

end

section
variable {P : Program} {C : World → Prop} {hyps : List (Bool × Bool)} {w0 w : World} {B : Nat} {l r ps fs : List HP} {t e : TypeId} {inf : TypeInfo} {A : Option Addr} {n c k : Nat} {α : Type} {F : α → List Value} {m : List α} {i : Int}

end

/-! ### Regions that draw their order, several operations that do something free at a time -/
section
variable {P : Program} {ops : Array Oper} {Q : Exit → Act → World → Prop} {S : World → Prop}

end

section
variable {P : Program} {Q : Exit → Act → World → Prop} {S : World → Prop} {l : List Oper} {a : Act} {w : World} {ts : List Nat}

theorem all_cons {p : Nat → Prop} {k : Nat} {ks : List Nat} (h : p k) (hs : ∀ i ∈ ks, p i) : ∀ i ∈ k :: ks, p i := fun i hi => by
  rcases List.mem_cons.1 hi with rfl | hi
  · exact h
  · exact hs i hi
end

section
variable {w0 w : World} {B : Nat} {l r ps : List HP} {e : TypeId} {A : Option Addr} {n c k : Nat} {α : Type} {F : α → List Value} {m : List α}
end
end Go.GL
