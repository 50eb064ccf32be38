/-
  A small library of our own: pointers to blocks that are written no more; such blocks lie in the pool.
-/
import Derived.Test.YtdjjomghggplpaaLibEl
namespace Go.GL
open Go Go.RowKit

/-- Where the pool is, the block's cells may be read. -/
def PoolB (p : HP) (g : Nat) (cs : List Value) : Prop := ∀ w f, p.at_ w f → ∀ (i : Nat) (v : Value), cs[i]? = some v → w.cell? ⟨g, i, none⟩ = some v

section
variable {w0 w : World} {B : Nat} {ps : List HP} {p q : HP} {g : Nat} {cs : List Value} {T : TypeId}
theorem PoolB.mono (h : PoolLe p q) (k : PoolB p g cs) : PoolB q g cs := fun w f hf => by
  obtain ⟨f', h'⟩ := h w f hf
  exact k w f' h'
theorem PoolB.of {ca : Array Value} (h : ca.toList = cs) : PoolB (twoB (blk g T ca) p) g cs := fun w f hf i v hv => by
  obtain ⟨f', hf'⟩ := PoolLe.left w f hf
  subst h
  have h1 : w.heap[g]? = some (.cells ca T (0, 0)) := hf'.1
  have h2 : ca[i]? = some v := by simpa using hv
  simp [World.cell?, h1, h2]
theorem PoolB.at_ (h : PoolB p g cs) (hS : Sep w0 B w ps) (i : Nat) (hi : ps[i]? = some p) : ∀ (j : Nat) (v : Value), cs[j]? = some v → w.cell? ⟨g, j, none⟩ = some v := by
  obtain ⟨f, hf, _⟩ := (hS.at_ i hi).get
  exact h w f hf
end

section
variable {ρ α : Type} {R : HP → ρ → α → Prop} {rz : ρ} {z : α} {p q : HP}
/-- What is known of elements stays, when the pool grows; of what is no element nothing is known. -/
structure RelM (R : HP → ρ → α → Prop) : Prop where
  mono : ∀ {p q : HP} {g : ρ} {x : α}, PoolLe p q → R p g x → R q g x
theorem PAll.monoM (hR : RelM R) (k : PoolLe p q) : ∀ {r : List ρ} {m : List α}, PAll R p r m → PAll R q r m
  | [], [], _ => trivial
  | _ :: _, _ :: _, h => ⟨hR.mono k h.1, PAll.monoM hR k h.2⟩
  | [], _ :: _, h => h.elim
  | _ :: _, [], h => h.elim
theorem PAll.natM : ∀ {r : List ρ} {m : List α} (_ : PAll R p r m) (i : Nat), i < m.length → R p (r.getD i rz) (m.getD i z)
  | [], [], _, i, hi => absurd hi (Nat.not_lt_zero _)
  | _ :: _, _ :: _, h, 0, _ => h.1
  | _ :: _, _ :: _, h, i + 1, hi => by simpa using PAll.natM h.2 i (by simpa using hi)
  | [], _ :: _, h, _, _ => h.elim
  | _ :: _, [], h, _, _ => h.elim
theorem PAll.atM (rz : ρ) (z : α) {r : List ρ} {m : List α} (h : PAll R p r m) {i : Int} (hi : 0 ≤ i ∧ i < (m.length : Int)) : R p (getd rz r i) (getd z m i) := h.natM i.toNat (by omega)

variable {F : ρ → List Value} {w0 w : World} {B : Nat} {l r ps : List HP} {g g' : HP} {A : Option Addr} {raw : List ρ} {m : List α} {n c k : Nat} {e : TypeId}
theorem PoolE.monoM (hR : RelM R) (h : PoolLe g g') (k : PoolE F R g A raw m) : PoolE F R g' A raw m := ⟨k.1.mono h, k.2.monoM hR h⟩
theorem Sep.elsMonoM (hR : RelM R) (hg : PoolLe g g') (h : Sep w0 B w (l ++ els F R g e k A n c raw m :: r)) : Sep w0 B w (l ++ els F R g' e k A n c raw m :: r) :=
  h.elsOwn.ownEls (h.elsAll.monoM hR hg)
end

section
variable {P : Program} {C : World → Prop} {hyps : List (Bool × Bool)} {t : TypeId} {g o : Nat} {v : Value} {cs : List Value}
/-- A field of a frozen block. -/
theorem ob_loadP {x : Bool} (hag : runPure P (isAgg t) = some false) (h : ∀ w, C w → ∀ (j : Nat) (v : Value), cs[j]? = some v → w.cell? ⟨g, j, none⟩ = some v) (hv : cs[o]? = some v) : Ob.holds P C x ⟨false, hyps, vS (Instr.loadAt t (.pointer (some ⟨g, o, none⟩))), v⟩ :=
  ob_load hag (fun _ w hw => h w hw o v hv)
end
end Go.GL
