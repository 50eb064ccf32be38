/-
  A small library of our own: slices whose elements have several cells; appending a row to rows; slices of arrays in blocks.
-/
import Derived.Test.YtlpaklmfgldkoaaDoorLibU
namespace Go.GL
open Go Go.RowKit
variable {Ds : List Nat} {ro : Option Nat}

structure EncK {α : Type} (F : α → List Value) (k : Nat) : Prop where
  len : ∀ a, (F a).length = k
  one : ∀ a, ∀ u ∈ F a, u.oneCell' = true
  pos : 0 < k

section
variable {α : Type} {F : α → List Value} {k : Nat} {m : List α}

/-- Cells set one by one, from place s on. -/
def setCells (xs : List Value) : Nat → List Value → List Value
  | _, [] => xs
  | s, v :: vs => setCells (xs.set s v) (s + 1) vs

theorem setCells_get : ∀ (vs : List Value) (xs : List Value) (s j : Nat), s + vs.length ≤ xs.length → (setCells xs s vs)[j]? = if s ≤ j ∧ j < s + vs.length then vs[j - s]? else xs[j]?
  | [], xs, s, j, _ => by
    simp only [setCells, List.length_nil, Nat.add_zero]
    rw [if_neg (by omega)]
  | v :: vs, xs, s, j, h => by
    simp only [List.length_cons] at h
    simp only [setCells]
    rw [setCells_get vs _ (s + 1) j (by rw [List.length_set]; omega), List.getElem?_set]
    simp only [List.length_cons]
    by_cases h1 : j = s
    · subst h1
      rw [if_neg (by omega), if_pos (by omega), if_pos (by omega)]
      simp
    · by_cases h2 : s + 1 ≤ j ∧ j < s + 1 + vs.length
      · rw [if_pos h2, if_pos (by omega)]
        rw [show j - s = (j - (s + 1)) + 1 by omega, List.getElem?_cons_succ]
      · rw [if_neg h2, if_neg (by omega), if_neg (by omega)]

end

section
variable {P : Program} {C : World → Prop} {hyps : List (Bool × Bool)} {w0 w : World} {B : Nat} {l r ps fs : List HP} {t e : TypeId} {inf : TypeInfo} {A : Option Addr} {n c k : Nat} {α : Type} {F : α → List Value} {m : List α} {i : Int}

/-- Stores into a row, cell by cell. -/
theorem ownK_stores {g n c : Nat} : ∀ (us : List Value) (j0 s : Nat) (w : World) (xs : List Value), w.ownsRow 0 e k (.slice (some ⟨g, 0, none⟩) n c) n xs → (∀ u ∈ us, u.oneCell' = true) → s + j0 + us.length ≤ n * k →
    ∃ w', (storeCells ⟨g, s, none⟩ us j0).run P w = .ok () w' ∧ w'.ownsRow 0 e k (.slice (some ⟨g, 0, none⟩) n c) n (setCells xs (s + j0) us) ∧ w.grownBy w' (some g)
  | [], j0, s, w, xs, h, _, _ => ⟨w, rfl, h, ⟨rfl, rfl, rfl, Nat.le_refl _, fun _ _ _ => rfl⟩⟩
  | u :: us, j0, s, w, xs, h, h1, hl => by
    have hj : s + j0 < n * k := by simp at hl; omega
    have hadd : (⟨g, s, none⟩ : Addr).add j0 = ⟨g, s + j0, none⟩ := by unfold Addr.add; split <;> simp_all
    have hcell := h.cellAt (s + j0) hj
    have hxl : s + j0 < xs.length := by rw [h.1]; exact hj
    rw [List.getElem?_eq_getElem hxl] at hcell
    have hfr := h.frozenAt (s + j0)
    obtain ⟨hst, hgr⟩ := h.stored (s + j0) u
    obtain ⟨w', h2, h3, h4⟩ := ownK_stores us (j0 + 1) s _ _ hst (fun v hv => h1 v (by simp [hv])) (by simp at hl; omega)
    refine ⟨w', ?_, by simpa [setCells, Nat.add_assoc] using h3, ?_⟩
    · simp only [storeCells, Sem.run_bind, hadd]
      have : (store ⟨g, s + j0, none⟩ u).run P w = .ok () (w.setCell ⟨g, s + j0, none⟩ u) := by
        have h9 := h1 u (by simp)
        cases u <;> first
          | (simp [Value.oneCell'] at h9; done)
          | simp [store, Sem.run, hcell, hfr]
      rw [this]
      exact h2
    · exact ⟨h4.os.trans hgr.os, h4.tape.trans hgr.tape, h4.output.trans hgr.output, Nat.le_trans hgr.size h4.size, fun i hi hn => (h4.block i (Nat.lt_of_lt_of_le hi hgr.size) hn).trans (hgr.block i hi hn)⟩

end

/-! ### Regions that draw their order, several operations that do something free at a time -/
section
variable {P : Program} {ops : Array Oper} {Q : Exit → Act → World → Prop} {S : World → Prop}

end

section
variable {P : Program} {Q : Exit → Act → World → Prop} {S : World → Prop} {l : List Oper} {a : Act} {w : World} {ts : List Nat}

theorem all_cons {p : Nat → Prop} {k : Nat} {ks : List Nat} (h : p k) (hs : ∀ i ∈ ks, p i) : ∀ i ∈ k :: ks, p i := fun i hi => by
  rcases List.mem_cons.1 hi with rfl | hi
  · exact h
  · exact hs i hi
end

/-- A part of an array's value that has two cells. -/
theorem ob_idxP2 {P : Program} {C : World → Prop} {hyps : List (Bool × Bool)} {t e : TypeId} {α : Type} {f : α → Value} {z : α} {m : List α} {x : Bool} {k : IntKind} {i : Int} {len n : Nat} (ht : P.underlying t = some (.array len e)) (hs : runPure P (sizeOf e) = some 2) (hag : runPure P (isAgg e) = some true) (hn : n = len * 2) (h : (∀ y ∈ hyps, y.1 = y.2) → 0 ≤ i ∧ i < (len : Int)) :
    Ob.holds P C x ⟨true, hyps, vS (Instr.index t (.agg (List.toArray (([] : List Value) ++ (arr1 f z n m ++ [])))) (.int k i)), .agg #[f (getd z m (i * 2)), f (getd z m (i * 2 + 1))]⟩ :=
  Ob.any fun hy w => by
    obtain ⟨h0, h1⟩ := h hy
    subst hn
    have a1 : i.toNat * 2 < len * 2 := by omega
    have a2 : i.toNat * 2 + 1 < len * 2 := by omega
    have g1 := arr1_get (f := f) (z := z) (m := m) a1
    have g2 := arr1_get (f := f) (z := z) (m := m) a2
    have e1 : (i * 2).toNat = i.toNat * 2 := by omega
    have e2 : (i * 2 + 1).toNat = i.toNat * 2 + 1 := by omega
    have hex : (List.toArray (arr1 f z (len * 2) m)).extract (i.toNat * 2) (i.toNat * 2 + 2) = #[f (getd z m (i * 2)), f (getd z m (i * 2 + 1))] := by
      apply Array.ext'
      simp only [List.extract_toArray, List.extract_eq_take_drop, Nat.add_sub_cancel_left]
      rw [getd, getd, e1, e2]
      apply List.ext_getElem?
      intro j
      rw [List.getElem?_take]
      by_cases hj : j < 2
      · rw [if_pos hj, List.getElem?_drop]
        have : j = 0 ∨ j = 1 := by omega
        rcases this with rfl | rfl
        · rw [Nat.add_zero, g1]; rfl
        · rw [g2]; rfl
      · rw [if_neg hj, List.getElem?_eq_none]
        simp; omega
    simp only [List.nil_append, List.append_nil]
    simp only [Instr.index, run_underlying ht, asIntOf, runPure_run _ hs, part, runPure_run _ hag, Sem.run_bind, Sem.run_pure, Result.andThen_ok, if_pos (And.intro h0 h1), if_true, hex]

section
variable {w0 w : World} {B : Nat} {l r ps : List HP} {e : TypeId} {A : Option Addr} {n c k : Nat} {α : Type} {F : α → List Value} {m : List α}
end
end Go.GL
