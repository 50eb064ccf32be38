/-
  A small library of our own: rows as sets: sorted and packed, or put in one by one.
-/
import Derived.Test.YtoickcchcjehdaaLibRs
namespace Go.GL
open Go Go.RowKit Go.Sort Go.Proofs

def ltR (x y : List Int) : Prop := cmpL x y < 0
theorem cmpL_lt_of {x y : List Int} (h : ¬ cmpL y x < 0) (hn : x ≠ y) : cmpL x y < 0 := by
  have h1 := cmpL_neg x y
  by_cases e : cmpL x y = 0
  · exact absurd (cmpL_zero e) hn
  · omega
theorem cmpL_le_lt {x y z : List Int} (h : ¬ cmpL y x < 0) (k : cmpL y z < 0) : cmpL x z < 0 := by
  by_cases e : x = y
  · rw [e]; exact k
  · exact cmpL_trans (cmpL_lt_of h e) k
theorem sortK_sorted (m : List (List Int)) : (sortK cmpL m).Pairwise fun x y => ¬ cmpL y x < 0 := by
  have h := List.pairwise_mergeSort (le := fun x y => !(ltOf cmpL y x)) (fun a b c h1 h2 => by
      simp only [Bool.not_eq_true'] at h1 h2 ⊢
      exact cmpL_swo.ntrans c b a h2 h1) (fun a b => by
      cases h : ltOf cmpL b a with
      | false => simp
      | true =>
        cases h' : ltOf cmpL a b with
        | false => simp
        | true =>
          have := cmpL_swo.trans _ _ _ h h'
          rw [cmpL_swo.irrefl] at this
          cases this) m
  refine h.imp fun {a b} h => ?_
  have h : (!(ltOf cmpL b a)) = true := h
  simp only [Bool.not_eq_true'] at h
  exact (cmpL_ltF b a).1 h

theorem keepR_iff {m : List (List Int)} {j : Nat} : keepR m j = true ↔ j = 0 ∨ m.getD j [] ≠ m.getD (j - 1) [] := by unfold keepR; simp

theorem compR_strict {m : List (List Int)} (h : m.Pairwise fun x y => ¬ cmpL y x < 0) : (compR m).Pairwise ltR := by
  unfold compR keptR
  rw [List.pairwise_map]
  have hs : ∀ i j, i < j → j < m.length → ¬ cmpL (m.getD j []) (m.getD i []) < 0 := fun i j hij hj => by
    have := List.pairwise_iff_getElem.1 h i j (by omega) hj hij
    simpa [List.getD_eq_getElem?_getD, List.getElem?_eq_getElem hj, List.getElem?_eq_getElem (show i < m.length by omega)] using this
  have hr : ((List.range m.length).filter (keepR m)).Pairwise (fun i j => (i < j ∧ j < m.length) ∧ keepR m j = true) := by
    rw [List.pairwise_filter]
    have : (List.range m.length).Pairwise (fun i j => i < j ∧ j < m.length) := by
      rw [List.pairwise_iff_getElem]
      intro i j hi hj hij
      simp at hi hj ⊢
      exact ⟨hij, hj⟩
    exact this.imp fun {a b} h _ hb => ⟨h, hb⟩
  refine hr.imp fun {i j} hij => ?_
  obtain ⟨⟨hij, hj⟩, hk⟩ := hij
  have hne : m.getD j [] ≠ m.getD (j - 1) [] := (keepR_iff.1 hk).resolve_left (by omega)
  have hlt : cmpL (m.getD (j - 1) []) (m.getD j []) < 0 := cmpL_lt_of (hs (j - 1) j (by omega) hj) (fun e => hne e.symm)
  show cmpL (m.getD i []) (m.getD j []) < 0
  by_cases e : i = j - 1
  · rw [e]; exact hlt
  · exact cmpL_le_lt (hs i (j - 1) (by omega) (by omega)) hlt

theorem compR_mem {m : List (List Int)} {x : List Int} : x ∈ compR m ↔ x ∈ m := by
  unfold compR keptR
  constructor
  · intro h
    obtain ⟨i, hi, rfl⟩ := List.mem_map.1 h
    have := List.mem_range.1 (List.mem_filter.1 hi).1
    rw [List.getD_eq_getElem?_getD, List.getElem?_eq_getElem this]
    exact List.getElem_mem _
  · intro h
    obtain ⟨i, hi, rfl⟩ := List.mem_iff_getElem.1 h
    have key : ∀ i, i < m.length → ∃ j, j < m.length ∧ keepR m j = true ∧ m.getD j [] = m.getD i [] := by
      intro i
      induction i with
      | zero => intro hi; exact ⟨0, hi, keepR_iff.2 (.inl rfl), rfl⟩
      | succ i ih =>
        intro hi
        by_cases hk : keepR m (i + 1) = true
        · exact ⟨i + 1, hi, hk, rfl⟩
        · obtain ⟨j, h1, h2, h3⟩ := ih (by omega)
          refine ⟨j, h1, h2, h3.trans ?_⟩
          rw [keepR_iff] at hk
          by_cases e : m.getD (i + 1) [] = m.getD i []
          · exact e.symm
          · exact absurd (.inr e) hk
    obtain ⟨j, h1, h2, h3⟩ := key i hi
    refine List.mem_map.2 ⟨j, List.mem_filter.2 ⟨List.mem_range.2 h1, h2⟩, h3.trans ?_⟩
    rw [List.getD_eq_getElem?_getD, List.getElem?_eq_getElem hi]
    rfl

/-- A row put into sorted rows, if it is not there. -/
def insW (w : List Int) : List (List Int) → List (List Int)
  | [] => [w]
  | x :: l => if cmpL x w < 0 then x :: insW w l else if x = w then x :: l else w :: x :: l
theorem insW_mem {w y : List Int} : ∀ {l : List (List Int)}, y ∈ insW w l ↔ y = w ∨ y ∈ l
  | [] => by simp [insW]
  | x :: l => by
    unfold insW
    by_cases h : cmpL x w < 0
    · rw [if_pos h, List.mem_cons, insW_mem (l := l), List.mem_cons]
      constructor
      · rintro (h | h | h)
        · exact .inr (.inl h)
        · exact .inl h
        · exact .inr (.inr h)
      · rintro (h | h | h)
        · exact .inr (.inl h)
        · exact .inl h
        · exact .inr (.inr h)
    · rw [if_neg h]
      by_cases e : x = w
      · rw [if_pos e, List.mem_cons, e]
        exact ⟨fun h => .inr h, fun h => h.elim (fun h => .inl h) id⟩
      · rw [if_neg e, List.mem_cons]
theorem insW_strict {w : List Int} : ∀ {l : List (List Int)}, l.Pairwise ltR → (insW w l).Pairwise ltR
  | [], _ => by simp [insW]
  | x :: l, h => by
    rw [List.pairwise_cons] at h
    unfold insW
    by_cases h1 : cmpL x w < 0
    · rw [if_pos h1, List.pairwise_cons]
      refine ⟨fun y hy => ?_, insW_strict h.2⟩
      rcases insW_mem.1 hy with rfl | hy
      · exact h1
      · exact h.1 y hy
    · rw [if_neg h1]
      by_cases e : x = w
      · rw [if_pos e, List.pairwise_cons]; exact h
      · rw [if_neg e, List.pairwise_cons, List.pairwise_cons]
        have hw : cmpL w x < 0 := cmpL_lt_of h1 (fun h => e h.symm)
        refine ⟨fun y hy => ?_, h⟩
        rcases List.mem_cons.1 hy with rfl | hy
        · exact hw
        · exact cmpL_trans hw (h.1 y hy)
def insAll (ws : List (List Int)) (l : List (List Int)) : List (List Int) := ws.foldl (fun a w => insW w a) l
theorem insAll_mem {y : List Int} : ∀ {ws l : List (List Int)}, y ∈ insAll ws l ↔ y ∈ ws ∨ y ∈ l
  | [], l => by simp [insAll]
  | w :: ws, l => by
    show y ∈ insAll ws (insW w l) ↔ _
    rw [insAll_mem, insW_mem, List.mem_cons]
    constructor
    · rintro (h | h | h)
      · exact .inl (.inr h)
      · exact .inl (.inl h)
      · exact .inr h
    · rintro ((h | h) | h)
      · exact .inr (.inl h)
      · exact .inl h
      · exact .inr (.inr h)
theorem insAll_strict : ∀ {ws l : List (List Int)}, l.Pairwise ltR → (insAll ws l).Pairwise ltR
  | [], _, h => h
  | w :: ws, l, h => insAll_strict (ws := ws) (l := insW w l) (insW_strict h)
theorem ltR_irr (x : List Int) : ¬ ltR x x := by unfold ltR; rw [cmpL_self]; omega
/-- Two strictly sorted lists of rows with the same members. -/
theorem rows_ext {a b : List (List Int)} (ha : a.Pairwise ltR) (hb : b.Pairwise ltR) (h : ∀ x, x ∈ a ↔ x ∈ b) : a = b :=
  strict_extR (lt := ltR) ltR_irr (fun _ _ _ => cmpL_trans) ha hb h
/-- Sorted and packed, or put in one by one. -/
theorem rows_same {m ws : List (List Int)} (h : ∀ x, x ∈ m ↔ x ∈ ws) : compR (sortK cmpL m) = insAll ws [] := by
  refine rows_ext (compR_strict (sortK_sorted m)) (insAll_strict (by simp)) fun x => ?_
  rw [compR_mem, sortK_mem, insAll_mem, h]
  simp

theorem insW_at {w : List Int} : ∀ {l : List (List Int)} {k : Nat}, k ≤ l.length → (∀ j, j < k → cmpL (l.getD j []) w < 0) → (k < l.length → ¬ cmpL (l.getD k []) w < 0) →
    insW w l = if k < l.length ∧ l.getD k [] = w then l else l.take k ++ [w] ++ l.drop k
  | [], k, hk, _, _ => by
    obtain rfl : k = 0 := by simpa using hk
    simp [insW]
  | x :: l, 0, _, _, h2 => by
    have h2 := h2 (by simp)
    unfold insW
    rw [if_neg (show ¬ cmpL x w < 0 from h2)]
    by_cases e : x = w
    · rw [if_pos e, if_pos ⟨by simp, e⟩]
    · rw [if_neg e, if_neg (fun h => e h.2)]
      rfl
  | x :: l, k + 1, hk, h1, h2 => by
    have h0 := h1 0 (by omega)
    unfold insW
    rw [if_pos (show cmpL x w < 0 from h0), insW_at (l := l) (k := k) (by simpa using hk) (fun j hj => h1 (j + 1) (by omega)) (fun h => h2 (by simpa using h))]
    by_cases e : k < l.length ∧ l.getD k [] = w
    · rw [if_pos e, if_pos ⟨by simpa using e.1, e.2⟩]
    · rw [if_neg e, if_neg (fun h => e ⟨by simpa using h.1, h.2⟩)]
      rfl
theorem insW_len {w : List Int} {l : List (List Int)} : (insW w l).length ≤ l.length + 1 := by
  induction l with
  | nil => simp [insW]
  | cons x l ih =>
    unfold insW
    split
    · simp only [List.length_cons]; omega
    · split <;> simp only [List.length_cons] <;> omega
end Go.GL
