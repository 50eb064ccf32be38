/-
  Plain facts on lists in order.
-/
import Derived.Test.YtlpaklmfgldkoaaLibZ
import Derived.Test.YtlpaklmfgldkoaaLibX
namespace Go.GL
open Go
variable {Ds : List Nat} {ro : Option Nat}

theorem strict_ext : ∀ {a b : List Int}, a.Pairwise (· < ·) → b.Pairwise (· < ·) → (∀ x, x ∈ a ↔ x ∈ b) → a = b
  | [], [], _, _, _ => rfl
  | [], y :: b, _, _, h => absurd ((h y).2 (by simp)) (by simp)
  | x :: a, [], _, _, h => absurd ((h x).1 (by simp)) (by simp)
  | x :: a, y :: b, ha, hb, h => by
    rw [List.pairwise_cons] at ha hb
    have hxy : x = y := by
      rcases List.mem_cons.1 ((h x).1 (by simp)) with e | e
      · exact e
      · rcases List.mem_cons.1 ((h y).2 (by simp)) with e2 | e2
        · exact e2.symm
        · have h1 := hb.1 x e
          have h2 := ha.1 y e2
          omega
    subst hxy
    congr 1
    refine strict_ext ha.2 hb.2 fun z => ?_
    constructor
    · intro hz
      rcases List.mem_cons.1 ((h z).1 (List.mem_cons_of_mem _ hz)) with e | e
      · have := ha.1 z hz; omega
      · exact e
    · intro hz
      rcases List.mem_cons.1 ((h z).2 (List.mem_cons_of_mem _ hz)) with e | e
      · have := hb.1 z hz; omega
      · exact e

theorem sortI_le (l : List Int) : (sortI l).Pairwise (· ≤ ·) := by
  have := List.pairwise_mergeSort (le := fun x y : Int => decide (x ≤ y)) (fun a b c h1 h2 => by simp at h1 h2 ⊢; omega) (fun a b => by simp; omega) l
  unfold sortI
  exact this.imp (fun h => by simpa using h)
theorem sortI_lt {l : List Int} (h : l.Nodup) : (sortI l).Pairwise (· < ·) := by
  have hn : (sortI l).Nodup := (List.mergeSort_perm l _).nodup_iff.2 h
  exact (sortI_le l).imp₂ (fun _ _ h1 h2 => by omega) hn

theorem compI_get {l : List Int} {x : Int} : x ∈ compI l ↔ ∃ j : Nat, j < l.length ∧ Lib.keeps l.toArray j = true ∧ l[j]? = some x := by
  unfold compI Lib.compact Lib.compactUpTo
  rw [List.mem_map]
  constructor
  · rintro ⟨j, hj, e⟩
    rw [List.mem_filter, List.mem_range] at hj
    refine ⟨j, hj.1, hj.2, ?_⟩
    rw [← e]
    simp [hj.1]
  · rintro ⟨j, h1, h2, h3⟩
    refine ⟨j, by rw [List.mem_filter, List.mem_range]; exact ⟨h1, h2⟩, ?_⟩
    rw [List.getElem?_eq_getElem h1] at h3
    injection h3 with h3
    simp [h1, h3]

theorem keeps_iff {l : List Int} {j : Nat} (hj : j < l.length) : Lib.keeps l.toArray j = true ↔ j = 0 ∨ l[j]? ≠ l[j - 1]? := by
  unfold Lib.keeps
  have h1 : l.toArray[j]! = l[j] := by simp [hj]
  have h2 : l.toArray[j - 1]! = l[j - 1] := by simp [show j - 1 < l.length by omega]
  rw [h1, h2, List.getElem?_eq_getElem hj, List.getElem?_eq_getElem (show j - 1 < l.length by omega)]
  simp

theorem compI_mem {l : List Int} {x : Int} : x ∈ compI l ↔ x ∈ l := by
  rw [compI_get]
  constructor
  · rintro ⟨j, _, _, h⟩; exact List.mem_of_getElem? h
  · intro h
    have key : ∀ n j : Nat, j < n → l[j]? = some x → ∃ j : Nat, j < l.length ∧ Lib.keeps l.toArray j = true ∧ l[j]? = some x := by
      intro n
      induction n with
      | zero => intro j hj; omega
      | succ n ih =>
        intro j hj hx
        have hjl := (List.getElem?_eq_some_iff.1 hx).1
        by_cases h0 : j = 0 ∨ l[j]? ≠ l[j - 1]?
        · exact ⟨j, hjl, (keeps_iff hjl).2 h0, hx⟩
        · have h1 : j ≠ 0 := fun e => h0 (Or.inl e)
          have h2 : l[j]? = l[j - 1]? := Classical.byContradiction fun e => h0 (Or.inr e)
          exact ih (j - 1) (by omega) (by rw [← h2]; exact hx)
    obtain ⟨j, hj, e⟩ := List.getElem_of_mem h
    exact key (j + 1) j (by omega) (by rw [List.getElem?_eq_getElem hj, e])

theorem compI_lt {l : List Int} (h : l.Pairwise (· ≤ ·)) : (compI l).Pairwise (· < ·) := by
  unfold compI Lib.compact Lib.compactUpTo
  rw [List.pairwise_map]
  have hr : ((List.range l.length).filter (Lib.keeps l.toArray)).Pairwise (· < ·) := List.pairwise_lt_range.sublist List.filter_sublist
  refine hr.imp_of_mem fun {i j} hi hj hij => ?_
  rw [List.mem_filter, List.mem_range] at hi hj
  have e1 : l.toArray[i]! = l[i]'hi.1 := by simp [hi.1]
  have e2 : l.toArray[j]! = l[j]'hj.1 := by simp [hj.1]
  rw [e1, e2]
  have hk := (keeps_iff hj.1).1 hj.2
  rw [List.pairwise_iff_getElem] at h
  rcases hk with h0 | h0
  · omega
  · rw [List.getElem?_eq_getElem hj.1, List.getElem?_eq_getElem (show j - 1 < l.length by have := hj.1; omega)] at h0
    have h1 := h (j - 1) j (by have := hj.1; omega) hj.1 (by omega)
    have h3 : l[j] ≠ l[j - 1]'(by have := hj.1; omega) := fun e => h0 (by rw [e])
    by_cases e : i = j - 1
    · subst e; omega
    · have h2 := h i (j - 1) hi.1 (by have := hj.1; omega) (by omega)
      omega

end Go.GL
