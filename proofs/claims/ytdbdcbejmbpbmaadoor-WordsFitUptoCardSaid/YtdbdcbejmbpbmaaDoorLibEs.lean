/-
  Plain facts on lists of texts in order; putting one in; sorted and packed.
-/
import Derived.Test.YtdbdcbejmbpbmaaDoorLibZs
import Derived.Test.YtdbdcbejmbpbmaaDoorLibX
import Derived.Sort.Walk0
namespace Go.GL
open Go
abbrev Tx := List UInt8
theorem t_irr (x : Tx) : ¬ x < x := List.lt_irrefl x
theorem t_trans {x y z : Tx} (h : x < y) (k : y < z) : x < z := List.lt_trans h k
theorem t_le {x y : Tx} : x ≤ y ↔ ¬ y < x := List.not_lt.symm
theorem t_lt_of {x y : Tx} (h : ¬ y < x) (hn : x ≠ y) : x < y := by
  refine Classical.byContradiction fun e => hn (List.le_antisymm (t_le.2 h) (t_le.2 e))
theorem t_le_lt {x y z : Tx} (h : ¬ y < x) (k : y < z) : x < z := by
  by_cases e : x = y
  · subst e; exact k
  · exact t_trans (t_lt_of h e) k
theorem less_iff {x y : Tx} : Op.bytesLess x y = true ↔ x < y := by rw [Go.Proofs.bytesLess_eq, decide_eq_true_eq]

theorem strict_extT : ∀ {a b : List Tx}, a.Pairwise (· < ·) → b.Pairwise (· < ·) → (∀ x, x ∈ a ↔ x ∈ b) → a = b
  | [], [], _, _, _ => rfl
  | [], y :: b, _, _, h => absurd ((h y).2 (by simp)) (by simp)
  | x :: a, [], _, _, h => absurd ((h x).1 (by simp)) (by simp)
  | x :: a, y :: b, ha, hb, h => by
    rw [List.pairwise_cons] at ha hb
    have hxy : x = y := by
      rcases List.mem_cons.1 ((h x).1 (by simp)) with e | e
      · exact e
      · rcases List.mem_cons.1 ((h y).2 (by simp)) with e2 | e2
        · exact e2.symm
        · have h1 := hb.1 x e
          have h2 := ha.1 y e2
          exact absurd (t_trans h1 h2) (t_irr _)
    subst hxy
    congr 1
    refine strict_extT ha.2 hb.2 fun z => ?_
    constructor
    · intro hz
      rcases List.mem_cons.1 ((h z).1 (List.mem_cons_of_mem _ hz)) with e | e
      · have := ha.1 z hz; subst e; exact absurd this (t_irr _)
      · exact e
    · intro hz
      rcases List.mem_cons.1 ((h z).2 (List.mem_cons_of_mem _ hz)) with e | e
      · have := hb.1 z hz; subst e; exact absurd this (t_irr _)
      · exact e

theorem sortT_mem {l : List Tx} {x : Tx} : x ∈ sortT l ↔ x ∈ l := List.mem_mergeSort
theorem sortT_le (l : List Tx) : (sortT l).Pairwise (fun x y => ¬ y < x) := by
  have := List.pairwise_mergeSort (le := fun x y : Tx => decide (x ≤ y)) (fun a b c h1 h2 => by simp only [decide_eq_true_eq] at h1 h2 ⊢; exact List.le_trans h1 h2) (fun a b => by simp only [Bool.or_eq_true, decide_eq_true_eq]; exact List.le_total a b) l
  unfold sortT
  exact this.imp (fun h => by rw [decide_eq_true_eq] at h; exact t_le.1 h)

theorem compT_get {l : List Tx} {x : Tx} : x ∈ compT l ↔ ∃ j : Nat, j < l.length ∧ Lib.keeps l.toArray j = true ∧ l[j]? = some x := by
  unfold compT Lib.compact Lib.compactUpTo
  rw [List.mem_map]
  constructor
  · rintro ⟨j, hj, e⟩
    rw [List.mem_filter, List.mem_range] at hj
    refine ⟨j, hj.1, hj.2, ?_⟩
    rw [← e]
    simp [hj.1]
  · rintro ⟨j, h1, h2, h3⟩
    refine ⟨j, by rw [List.mem_filter, List.mem_range]; exact ⟨h1, h2⟩, ?_⟩
    rw [List.getElem?_eq_getElem h1] at h3
    injection h3 with h3
    simp [h1, h3]

theorem keepsT_iff {l : List Tx} {j : Nat} (hj : j < l.length) : Lib.keeps l.toArray j = true ↔ j = 0 ∨ l[j]? ≠ l[j - 1]? := by
  unfold Lib.keeps
  have h1 : l.toArray[j]! = l[j] := by simp [hj]
  have h2 : l.toArray[j - 1]! = l[j - 1] := by simp [show j - 1 < l.length by omega]
  rw [h1, h2, List.getElem?_eq_getElem hj, List.getElem?_eq_getElem (show j - 1 < l.length by omega)]
  simp

theorem compT_mem {l : List Tx} {x : Tx} : x ∈ compT l ↔ x ∈ l := by
  rw [compT_get]
  constructor
  · rintro ⟨j, _, _, h⟩; exact List.mem_of_getElem? h
  · intro h
    have key : ∀ n j : Nat, j < n → l[j]? = some x → ∃ j : Nat, j < l.length ∧ Lib.keeps l.toArray j = true ∧ l[j]? = some x := by
      intro n
      induction n with
      | zero => intro j hj; omega
      | succ n ih =>
        intro j hj hx
        have hjl := (List.getElem?_eq_some_iff.1 hx).1
        by_cases h0 : j = 0 ∨ l[j]? ≠ l[j - 1]?
        · exact ⟨j, hjl, (keepsT_iff hjl).2 h0, hx⟩
        · have h1 : j ≠ 0 := fun e => h0 (Or.inl e)
          have h2 : l[j]? = l[j - 1]? := Classical.byContradiction fun e => h0 (Or.inr e)
          exact ih (j - 1) (by omega) (by rw [← h2]; exact hx)
    obtain ⟨j, hj, e⟩ := List.getElem_of_mem h
    exact key (j + 1) j (by omega) (by rw [List.getElem?_eq_getElem hj, e])

theorem compT_lt {l : List Tx} (h : l.Pairwise (fun x y => ¬ y < x)) : (compT l).Pairwise (· < ·) := by
  unfold compT Lib.compact Lib.compactUpTo
  rw [List.pairwise_map]
  have hr : ((List.range l.length).filter (Lib.keeps l.toArray)).Pairwise (· < ·) := List.pairwise_lt_range.sublist List.filter_sublist
  refine hr.imp_of_mem fun {i j} hi hj hij => ?_
  rw [List.mem_filter, List.mem_range] at hi hj
  have e1 : l.toArray[i]! = l[i]'hi.1 := by simp [hi.1]
  have e2 : l.toArray[j]! = l[j]'hj.1 := by simp [hj.1]
  rw [e1, e2]
  have hk := (keepsT_iff hj.1).1 hj.2
  rw [List.pairwise_iff_getElem] at h
  rcases hk with h0 | h0
  · omega
  · rw [List.getElem?_eq_getElem hj.1, List.getElem?_eq_getElem (show j - 1 < l.length by have := hj.1; omega)] at h0
    have h1 := h (j - 1) j (by have := hj.1; omega) hj.1 (by omega)
    have h3 : l[j - 1]'(by have := hj.1; omega) ≠ l[j] := fun e => h0 (by rw [e])
    have h4 := t_lt_of h1 h3
    by_cases e : i = j - 1
    · subst e; exact h4
    · have h2 := h i (j - 1) hi.1 (by have := hj.1; omega) (by omega)
      exact t_le_lt h2 h4

/-- A row put into sorted rows, if it is not there. -/
def insT (w : Tx) : List Tx → List Tx
  | [] => [w]
  | x :: l => if x < w then x :: insT w l else if x = w then x :: l else w :: x :: l
theorem insT_mem {w y : Tx} : ∀ {l : List Tx}, y ∈ insT w l ↔ y = w ∨ y ∈ l
  | [] => by simp [insT]
  | x :: l => by
    unfold insT
    by_cases h : x < w
    · rw [if_pos h, List.mem_cons, insT_mem (l := l), List.mem_cons]
      constructor
      · rintro (h | h | h)
        · exact .inr (.inl h)
        · exact .inl h
        · exact .inr (.inr h)
      · rintro (h | h | h)
        · exact .inr (.inl h)
        · exact .inl h
        · exact .inr (.inr h)
    · rw [if_neg h]
      by_cases e : x = w
      · rw [if_pos e, List.mem_cons, e]
        exact ⟨fun h => .inr h, fun h => h.elim (fun h => .inl h) id⟩
      · rw [if_neg e, List.mem_cons]
theorem insT_strict {w : Tx} : ∀ {l : List Tx}, l.Pairwise (· < ·) → (insT w l).Pairwise (· < ·)
  | [], _ => by simp [insT]
  | x :: l, h => by
    rw [List.pairwise_cons] at h
    unfold insT
    by_cases h1 : x < w
    · rw [if_pos h1, List.pairwise_cons]
      refine ⟨fun y hy => ?_, insT_strict h.2⟩
      rcases insT_mem.1 hy with rfl | hy
      · exact h1
      · exact h.1 y hy
    · rw [if_neg h1]
      by_cases e : x = w
      · rw [if_pos e, List.pairwise_cons]; exact h
      · rw [if_neg e, List.pairwise_cons, List.pairwise_cons]
        have hw : w < x := t_lt_of h1 (fun h => e h.symm)
        refine ⟨fun y hy => ?_, h⟩
        rcases List.mem_cons.1 hy with rfl | hy
        · exact hw
        · exact t_trans hw (h.1 y hy)
def insAllT (ws : List Tx) (l : List Tx) : List Tx := ws.foldl (fun a w => insT w a) l
theorem insAllT_mem {y : Tx} : ∀ {ws l : List Tx}, y ∈ insAllT ws l ↔ y ∈ ws ∨ y ∈ l
  | [], l => by simp [insAllT]
  | w :: ws, l => by
    show y ∈ insAllT ws (insT w l) ↔ _
    rw [insAllT_mem, insT_mem, List.mem_cons]
    constructor
    · rintro (h | h | h)
      · exact .inl (.inr h)
      · exact .inl (.inl h)
      · exact .inr h
    · rintro ((h | h) | h)
      · exact .inr (.inl h)
      · exact .inl h
      · exact .inr (.inr h)
theorem insAllT_strict : ∀ {ws l : List Tx}, l.Pairwise (· < ·) → (insAllT ws l).Pairwise (· < ·)
  | [], _, h => h
  | w :: ws, l, h => insAllT_strict (ws := ws) (l := insT w l) (insT_strict h)
/-- Sorted and packed, or put in one by one. -/
theorem texts_same (m : List Tx) : compT (sortT m) = insAllT m [] := by
  refine strict_extT (compT_lt (sortT_le m)) (insAllT_strict (by simp)) fun x => ?_
  rw [compT_mem, sortT_mem, insAllT_mem]
  simp
theorem insT_at {w : Tx} : ∀ {l : List Tx} {k : Nat}, k ≤ l.length → (∀ j, j < k → (l.getD j []) < w) → (k < l.length → ¬ (l.getD k []) < w) →
    insT w l = if k < l.length ∧ l.getD k [] = w then l else l.take k ++ [w] ++ l.drop k
  | [], k, hk, _, _ => by
    obtain rfl : k = 0 := by simpa using hk
    simp [insT]
  | x :: l, 0, _, _, h2 => by
    have h2 := h2 (by simp)
    unfold insT
    rw [if_neg (show ¬ x < w from h2)]
    by_cases e : x = w
    · rw [if_pos e, if_pos ⟨by simp, e⟩]
    · rw [if_neg e, if_neg (fun h => e h.2)]
      rfl
  | x :: l, k + 1, hk, h1, h2 => by
    have h0 := h1 0 (by omega)
    unfold insT
    rw [if_pos (show x < w from h0), insT_at (l := l) (k := k) (by simpa using hk) (fun j hj => h1 (j + 1) (by omega)) (fun h => h2 (by simpa using h))]
    by_cases e : k < l.length ∧ l.getD k [] = w
    · rw [if_pos e, if_pos ⟨by simpa using e.1, e.2⟩]
    · rw [if_neg e, if_neg (fun h => e ⟨by simpa using h.1, h.2⟩)]
      rfl
theorem insT_len {w : Tx} {l : List Tx} : (insT w l).length ≤ l.length + 1 := by
  induction l with
  | nil => simp [insT]
  | cons x l ih =>
    unfold insT
    split
    · simp only [List.length_cons]; omega
    · split <;> simp only [List.length_cons] <;> omega
end Go.GL
