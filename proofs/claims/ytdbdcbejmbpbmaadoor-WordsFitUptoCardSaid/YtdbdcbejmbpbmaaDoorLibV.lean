/-
  A small library of our own: slices whose elements have several cells; appending a row to rows; slices of arrays in blocks.
-/
import Derived.Test.YtdbdcbejmbpbmaaDoorLibU
namespace Go.GL
open Go Go.RowKit
variable {Ds : List Nat} {ro : Option Nat}

structure EncK {α : Type} (F : α → List Value) (k : Nat) : Prop where
  len : ∀ a, (F a).length = k
  one : ∀ a, ∀ u ∈ F a, u.oneCell' = true
  pos : 0 < k

section
variable {α : Type} {F : α → List Value} {k : Nat} {m : List α}

/-- Cells set one by one, from place s on. -/
def setCells (xs : List Value) : Nat → List Value → List Value
  | _, [] => xs
  | s, v :: vs => setCells (xs.set s v) (s + 1) vs

theorem setCells_get : ∀ (vs : List Value) (xs : List Value) (s j : Nat), s + vs.length ≤ xs.length → (setCells xs s vs)[j]? = if s ≤ j ∧ j < s + vs.length then vs[j - s]? else xs[j]?
  | [], xs, s, j, _ => by
    simp only [setCells, List.length_nil, Nat.add_zero]
    rw [if_neg (by omega)]
  | v :: vs, xs, s, j, h => by
    simp only [List.length_cons] at h
    simp only [setCells]
    rw [setCells_get vs _ (s + 1) j (by rw [List.length_set]; omega), List.getElem?_set]
    simp only [List.length_cons]
    by_cases h1 : j = s
    · subst h1
      rw [if_neg (by omega), if_pos (by omega), if_pos (by omega)]
      simp
    · by_cases h2 : s + 1 ≤ j ∧ j < s + 1 + vs.length
      · rw [if_pos h2, if_pos (by omega)]
        rw [show j - s = (j - (s + 1)) + 1 by omega, List.getElem?_cons_succ]
      · rw [if_neg h2, if_neg (by omega), if_neg (by omega)]

end

section
variable {P : Program} {C : World → Prop} {hyps : List (Bool × Bool)} {w0 w : World} {B : Nat} {l r ps fs : List HP} {t e : TypeId} {inf : TypeInfo} {A : Option Addr} {n c k : Nat} {α : Type} {F : α → List Value} {m : List α} {i : Int}

/-- Stores into a row, cell by cell. -/
theorem ownK_stores {g n c : Nat} : ∀ (us : List Value) (j0 s : Nat) (w : World) (xs : List Value), w.ownsRow 0 e k (.slice (some ⟨g, 0, none⟩) n c) n xs → (∀ u ∈ us, u.oneCell' = true) → s + j0 + us.length ≤ n * k →
    ∃ w', (storeCells ⟨g, s, none⟩ us j0).run P w = .ok () w' ∧ w'.ownsRow 0 e k (.slice (some ⟨g, 0, none⟩) n c) n (setCells xs (s + j0) us) ∧ w.grownBy w' (some g)
  | [], j0, s, w, xs, h, _, _ => ⟨w, rfl, h, ⟨rfl, rfl, rfl, Nat.le_refl _, fun _ _ _ => rfl⟩⟩
  | u :: us, j0, s, w, xs, h, h1, hl => by
    have hj : s + j0 < n * k := by simp at hl; omega
    have hadd : (⟨g, s, none⟩ : Addr).add j0 = ⟨g, s + j0, none⟩ := by unfold Addr.add; split <;> simp_all
    have hcell := h.cellAt (s + j0) hj
    have hxl : s + j0 < xs.length := by rw [h.1]; exact hj
    rw [List.getElem?_eq_getElem hxl] at hcell
    have hfr := h.frozenAt (s + j0)
    obtain ⟨hst, hgr⟩ := h.stored (s + j0) u
    obtain ⟨w', h2, h3, h4⟩ := ownK_stores us (j0 + 1) s _ _ hst (fun v hv => h1 v (by simp [hv])) (by simp at hl; omega)
    refine ⟨w', ?_, by simpa [setCells, Nat.add_assoc] using h3, ?_⟩
    · simp only [storeCells, Sem.run_bind, hadd]
      have : (store ⟨g, s + j0, none⟩ u).run P w = .ok () (w.setCell ⟨g, s + j0, none⟩ u) := by
        have h9 := h1 u (by simp)
        cases u <;> first
          | (simp [Value.oneCell'] at h9; done)
          | simp [store, Sem.run, hcell, hfr]
      rw [this]
      exact h2
    · exact ⟨h4.os.trans hgr.os, h4.tape.trans hgr.tape, h4.output.trans hgr.output, Nat.le_trans hgr.size h4.size, fun i hi hn => (h4.block i (Nat.lt_of_lt_of_le hi hgr.size) hn).trans (hgr.block i hi hn)⟩

end

/-! ### Regions that draw their order, several operations that do something free at a time -/
section
variable {P : Program} {ops : Array Oper} {Q : Exit → Act → World → Prop} {S : World → Prop}

end

section
variable {P : Program} {Q : Exit → Act → World → Prop} {S : World → Prop} {l : List Oper} {a : Act} {w : World} {ts : List Nat}

theorem all_cons {p : Nat → Prop} {k : Nat} {ks : List Nat} (h : p k) (hs : ∀ i ∈ ks, p i) : ∀ i ∈ k :: ks, p i := fun i hi => by
  rcases List.mem_cons.1 hi with rfl | hi
  · exact h
  · exact hs i hi
end

section
variable {w0 w : World} {B : Nat} {l r ps : List HP} {e : TypeId} {A : Option Addr} {n c k : Nat} {α : Type} {F : α → List Value} {m : List α}
end
end Go.GL
