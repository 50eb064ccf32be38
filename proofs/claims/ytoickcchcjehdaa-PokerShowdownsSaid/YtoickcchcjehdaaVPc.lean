/-
  PokerValues: the stable sort of the ranks (fewer than twenty: by insertion).
-/
import Derived.Test.YtoickcchcjehdaaVPb
namespace Go.Proofs.Ytoickcchcjehdaa
open Go Go.GL

theorem cmp_p {m : List Int} (_hm : m.length = 13) {a b : Int} (ha : 0 ≤ a ∧ a ≤ 12) (hb : 0 ≤ b ∧ b ≤ 12) : ∃ v, poker_value_1_m a b m = some v ∧ (v < 0 ↔ geti m b < geti m a) := by
  unfold poker_value_1_m
  rw [asrt_pos (by omega), asrt_pos (by omega)]
  unfold cmp_Compare_m cmp_isNaN_m
  rw [Option.bind_some, Option.bind_some]
  have e1 : (geti m b != geti m b) = false := by simp
  have e2 : (geti m a != geti m a) = false := by simp
  rw [e1, e2, if_neg (by decide)]
  unfold cmp_Compare_J1 cmp_Compare_J3 cmp_Compare_J4 cmp_Compare_J5
  rw [if_neg (by decide)]
  by_cases h1 : geti m b < geti m a
  · rw [if_pos (decide_eq_true h1), Option.bind_some]
    exact ⟨_, rfl, by omega⟩
  · rw [if_neg (by simpa using h1)]
    by_cases h2 : geti m a < geti m b
    · rw [if_pos (decide_eq_true h2), Option.bind_some]
      exact ⟨_, rfl, by omega⟩
    · rw [if_neg (by simpa using h2), Option.bind_some]
      exact ⟨_, rfl, by omega⟩

theorem geti_mid (A : List Int) (x : Int) (C : List Int) : geti (A ++ x :: C) (A.length : Int) = x := by
  unfold geti
  rw [Int.toNat_natCast, List.getD_eq_getElem?_getD, List.getElem?_append_right (Nat.le_refl _)]
  simp

/-- One number goes to its place. -/
theorem ins_loop {m : List Int} (hm : m.length = 13) (x : Int) (hx : 0 ≤ x ∧ x ≤ 12) (N : List Int) (A : List Int) (hA : A = [] ∨ ∃ A' y, A = A' ++ [y] ∧ 0 ≤ y ∧ y ≤ 12 ∧ ¬ geti m y < geti m x) (hN : N.length ≤ 1000) :
    ∀ (B C : List Int), (∀ y ∈ B, 0 ≤ y ∧ y ≤ 12 ∧ geti m y < geti m x) → (A ++ B ++ x :: C).length = N.length →
      loop (slices_insertionSortCmpFunc_2_L2 N 0 m) (A ++ B ++ x :: C, ((A ++ B).length : Int)) = some (A ++ x :: (B ++ C)) := by
  suffices h : ∀ (R C : List Int), (∀ y ∈ R, 0 ≤ y ∧ y ≤ 12 ∧ geti m y < geti m x) → (A ++ R.reverse ++ x :: C).length = N.length →
      loop (slices_insertionSortCmpFunc_2_L2 N 0 m) (A ++ R.reverse ++ x :: C, ((A ++ R.reverse).length : Int)) = some (A ++ x :: (R.reverse ++ C)) by
    intro B C hB hl
    have := h B.reverse C (fun y hy => hB y (by simpa using hy)) (by simpa using hl)
    simpa using this
  intro R
  induction R with
  | nil =>
    intro C _ hl
    simp only [List.reverse_nil, List.append_nil, List.nil_append] at hl ⊢
    refine loop_done ?_
    rcases hA with rfl | ⟨A', y, rfl, hy0, hy1, hyx⟩
    · simp only [slices_insertionSortCmpFunc_2_L2]
      have e : decide ((0 : Int) < ((([] : List Int).length : Nat) : Int)) = false := by simp
      rw [e, asrt_pos (by simp), asrt_pos (by simp), if_neg (by decide), Option.bind_some, if_neg (by simp)]
    · simp only [slices_insertionSortCmpFunc_2_L2]
      have hl2 : (A' ++ [y]).length = A'.length + 1 := by simp
      have hl3 : (A' ++ [y] ++ x :: C).length = A'.length + 1 + (C.length + 1) := by simp; omega
      have e : decide ((0 : Int) < (((A' ++ [y]).length : Nat) : Int)) = true := by rw [decide_eq_true_eq, hl2]; omega
      have e1 : w64 ((((A' ++ [y]).length : Nat) : Int) - 1) = (A'.length : Int) := by rw [hl2, w64_of (by omega)]; omega
      rw [e, e1, asrt_pos (by intro; omega), asrt_pos (by intro; omega), if_pos rfl, geti_mid]
      have e2 : geti (A' ++ [y] ++ x :: C) (A'.length : Int) = y := by rw [List.append_assoc]; exact geti_mid A' y _
      rw [e2]
      obtain ⟨v, hv, hvi⟩ := cmp_p hm hx ⟨hy0, hy1⟩
      rw [hv, Option.bind_some, if_neg]
      simp only [Bool.true_and, decide_eq_true_eq]
      exact fun h => hyx (hvi.1 h)
  | cons y R ih =>
    intro C hR hl
    obtain ⟨hy0, hy1, hyx⟩ := hR y (by simp)
    have hs : A ++ (y :: R).reverse ++ x :: C = (A ++ R.reverse) ++ y :: x :: C := by simp
    have hs2 : (A ++ (y :: R).reverse).length = (A ++ R.reverse).length + 1 := by simp; omega
    rw [hs, hs2]
    rw [hs] at hl
    have hl3 : ((A ++ R.reverse) ++ y :: x :: C).length = (A ++ R.reverse).length + 1 + (C.length + 1) := by simp; omega
    refine loop_next' (s' := (A ++ R.reverse ++ x :: (y :: C), ((A ++ R.reverse).length : Int))) ?_ ?_
    · simp only [slices_insertionSortCmpFunc_2_L2]
      generalize hQ : A ++ R.reverse = Q at *
      have e : decide ((0 : Int) < ((Q.length + 1 : Nat) : Int)) = true := by rw [decide_eq_true_eq]; omega
      have e1 : w64 (((Q.length + 1 : Nat) : Int) - 1) = (Q.length : Int) := by rw [w64_of (by omega)]; omega
      have g1 : geti (Q ++ y :: x :: C) (Q.length : Int) = y := geti_mid Q y _
      have g2 : geti (Q ++ y :: x :: C) ((Q.length + 1 : Nat) : Int) = x := by
        have := geti_mid (Q ++ [y]) x C
        simpa using this
      rw [e, e1, asrt_pos (by intro; omega), asrt_pos (by intro; omega), if_pos rfl, g1, g2]
      obtain ⟨v, hv, hvi⟩ := cmp_p hm hx ⟨hy0, hy1⟩
      rw [hv, Option.bind_some, if_pos (by simp only [Bool.true_and, decide_eq_true_eq]; exact hvi.2 hyx)]
      unfold slices_insertionSortCmpFunc_2_J4 slices_insertionSortCmpFunc_2_J5
      rw [e1, asrt_pos (by omega), asrt_pos (by omega), asrt_pos (by omega), asrt_pos (by omega), g1, g2, Int.toNat_natCast, Int.toNat_natCast]
      congr 2
      refine Prod.ext ?_ rfl
      simp only
      rw [List.set_append_right _ _ (by omega), show Q.length + 1 - Q.length = 1 by omega, List.set_append_right _ _ (by simp), Nat.sub_self]
      rfl
    · have := ih (y :: C) (fun z hz => hR z (by simp [hz])) (by rw [← hl]; simp)
      rw [this]
      simp

theorem filt_app (p : Int → Bool) (l : List Int) (x : Int) : (l ++ [x]).filter p = l.filter p ++ (if p x then [x] else []) := by
  rw [List.filter_append]
  by_cases h : p x = true <;> simp [h]

/-- The list in the order of how many, one more taken in. -/
theorem byM_snoc {m : List Int} (l : List Int) (x : Int) (hx : 1 ≤ geti m x ∧ geti m x ≤ 4) : ∃ A B, byM m l = A ++ B ∧ byM m (l ++ [x]) = A ++ x :: B ∧ (∀ y ∈ A, y ∈ l ∧ ¬ geti m y < geti m x) ∧ (∀ y ∈ B, y ∈ l ∧ geti m y < geti m x) := by
  unfold byM
  rw [filt_app, filt_app, filt_app, filt_app]
  have hmem : ∀ (t : Int) (y : Int), y ∈ l.filter (fun r => geti m r == t) → y ∈ l ∧ geti m y = t := fun t y hy => by
    rw [List.mem_filter, beq_iff_eq] at hy
    exact hy
  generalize h4 : l.filter (fun r => geti m r == 4) = f4 at *
  generalize h3 : l.filter (fun r => geti m r == 3) = f3 at *
  generalize h2 : l.filter (fun r => geti m r == 2) = f2 at *
  generalize h1 : l.filter (fun r => geti m r == 1) = f1 at *
  have m4 : ∀ y ∈ f4, y ∈ l ∧ geti m y = 4 := by rw [← h4]; exact hmem 4
  have m3 : ∀ y ∈ f3, y ∈ l ∧ geti m y = 3 := by rw [← h3]; exact hmem 3
  have m2 : ∀ y ∈ f2, y ∈ l ∧ geti m y = 2 := by rw [← h2]; exact hmem 2
  have m1 : ∀ y ∈ f1, y ∈ l ∧ geti m y = 1 := by rw [← h1]; exact hmem 1
  have hc : geti m x = 4 ∨ geti m x = 3 ∨ geti m x = 2 ∨ geti m x = 1 := by omega
  rcases hc with hc | hc | hc | hc
  · refine ⟨f4, f3 ++ f2 ++ f1, by simp, by simp [hc], fun y hy => ⟨(m4 y hy).1, by have := (m4 y hy).2; omega⟩, fun y hy => ?_⟩
    simp only [List.mem_append] at hy
    rcases hy with (hy | hy) | hy
    · exact ⟨(m3 y hy).1, by have := (m3 y hy).2; omega⟩
    · exact ⟨(m2 y hy).1, by have := (m2 y hy).2; omega⟩
    · exact ⟨(m1 y hy).1, by have := (m1 y hy).2; omega⟩
  · refine ⟨f4 ++ f3, f2 ++ f1, by simp, by simp [hc], fun y hy => ?_, fun y hy => ?_⟩
    · simp only [List.mem_append] at hy
      rcases hy with hy | hy
      · exact ⟨(m4 y hy).1, by have := (m4 y hy).2; omega⟩
      · exact ⟨(m3 y hy).1, by have := (m3 y hy).2; omega⟩
    · simp only [List.mem_append] at hy
      rcases hy with hy | hy
      · exact ⟨(m2 y hy).1, by have := (m2 y hy).2; omega⟩
      · exact ⟨(m1 y hy).1, by have := (m1 y hy).2; omega⟩
  · refine ⟨f4 ++ f3 ++ f2, f1, by simp, by simp [hc], fun y hy => ?_, fun y hy => ⟨(m1 y hy).1, by have := (m1 y hy).2; omega⟩⟩
    simp only [List.mem_append] at hy
    rcases hy with (hy | hy) | hy
    · exact ⟨(m4 y hy).1, by have := (m4 y hy).2; omega⟩
    · exact ⟨(m3 y hy).1, by have := (m3 y hy).2; omega⟩
    · exact ⟨(m2 y hy).1, by have := (m2 y hy).2; omega⟩
  · refine ⟨f4 ++ f3 ++ f2 ++ f1, [], by simp, by simp [hc], fun y hy => ?_, fun y hy => by cases hy⟩
    simp only [List.mem_append] at hy
    rcases hy with ((hy | hy) | hy) | hy
    · exact ⟨(m4 y hy).1, by have := (m4 y hy).2; omega⟩
    · exact ⟨(m3 y hy).1, by have := (m3 y hy).2; omega⟩
    · exact ⟨(m2 y hy).1, by have := (m2 y hy).2; omega⟩
    · exact ⟨(m1 y hy).1, by have := (m1 y hy).2; omega⟩

theorem byM_len {m : List Int} : ∀ {l : List Int}, (∀ x ∈ l, 1 ≤ geti m x ∧ geti m x ≤ 4) → (byM m l).length = l.length := by
  intro l h
  suffices hh : ∀ (r : List Int), (∀ x ∈ r, 1 ≤ geti m x ∧ geti m x ≤ 4) → (byM m r.reverse).length = r.length by
    have := hh l.reverse (fun x hx => h x (by simpa using hx))
    simpa using this
  intro r
  induction r with
  | nil => intro _; rfl
  | cons x r ih =>
    intro h
    obtain ⟨A, B, h1, h2, _, _⟩ := byM_snoc (m := m) r.reverse x (h x (by simp))
    have := ih (fun y hy => h y (by simp [hy]))
    rw [h1] at this
    rw [List.reverse_cons, h2]
    simp only [List.length_append, List.length_cons] at this ⊢
    omega

theorem insert_p {m : List Int} (hm : m.length = 13) {l : List Int} (hl : l.length ≤ 13) (hx : ∀ x ∈ l, (0 ≤ x ∧ x ≤ 12) ∧ 1 ≤ geti m x ∧ geti m x ≤ 4) : slices_insertionSortCmpFunc_2_m l 0 (l.length : Int) m = some (byM m l) := by
  unfold slices_insertionSortCmpFunc_2_m
  by_cases h0 : l = []
  · subst h0
    rw [loop_done (r := []) (by rfl)]
    rfl
  have hpos : 0 < l.length := List.length_pos_iff.2 h0
  have e1 : w64 ((0 : Int) + 1) = 1 := by decide
  rw [e1]
  have hb : ∀ i, i ≤ l.length → (byM m (l.take i)).length = i := fun i hi => by
    rw [byM_len (fun x hxx => (hx x (List.mem_of_mem_take hxx)).2), List.length_take]; omega
  have key : loop (slices_insertionSortCmpFunc_2_L1 l 0 (l.length : Int) m) (l, 1) = some (byM m l) := by
    refine loop_from (f := fun i => (byM m (l.take (i + 1)) ++ l.drop (i + 1), ((i + 1 : Nat) : Int))) (l.length - 1) ?_ (fun i hi => ?_) ?_
    · refine Prod.ext ?_ rfl
      simp only [Nat.zero_add]
      cases l with
      | nil => exact absurd rfl h0
      | cons x r =>
        obtain ⟨A, B, h1, h2, _, _⟩ := byM_snoc (m := m) [] x (hx x (by simp)).2
        have hn : A = [] ∧ B = [] := by
          have : byM m [] = [] := rfl
          rw [this] at h1
          simpa using h1.symm
        rw [hn.1, hn.2] at h2
        have h3 : byM m [x] = [x] := h2
        simp [h3]
    · have hg := get_geti (l := l) (i := i + 1) (by omega)
      have hgm := hx _ (List.mem_of_getElem? hg)
      simp only [slices_insertionSortCmpFunc_2_L1]
      rw [if_pos (decide_eq_true (by omega))]
      unfold slices_insertionSortCmpFunc_2_J2
      obtain ⟨A, B, h1, h2, hA, hB⟩ := byM_snoc (m := m) (l.take (i + 1)) (geti l ((i + 1 : Nat) : Int)) hgm.2
      have hd : l.drop (i + 1) = geti l ((i + 1 : Nat) : Int) :: l.drop (i + 1 + 1) := by
        have hlt : i + 1 < l.length := by omega
        rw [List.drop_eq_getElem_cons hlt]
        congr 1
        have := List.getElem?_eq_getElem hlt
        rw [hg] at this
        injection this with this
        exact this.symm
      have ht : l.take (i + 1 + 1) = l.take (i + 1) ++ [geti l ((i + 1 : Nat) : Int)] := by rw [List.take_add_one (i := i + 1), hg]; rfl
      have hlen := hb (i + 1) (by omega)
      have hAB : (A ++ B).length = i + 1 := by rw [← h1]; exact hlen
      have hins := ins_loop hm (geti l ((i + 1 : Nat) : Int)) hgm.1 l A ?_ (by omega) B (l.drop (i + 1 + 1)) (fun y hy => ⟨(hx y (List.mem_of_mem_take (hB y hy).1)).1.1, (hx y (List.mem_of_mem_take (hB y hy).1)).1.2, (hB y hy).2⟩) ?_
      · rw [hAB] at hins
        rw [h1, hd, hins, Option.bind_some]
        simp only [slices_insertionSortCmpFunc_2_K2, slices_insertionSortCmpFunc_2_J3]
        rw [w64_of (by omega), ht, h2]
        simp
      · rcases List.eq_nil_or_concat A with rfl | ⟨A', y, rfl⟩
        · exact .inl rfl
        · right
          have hy := hA y (by simp)
          exact ⟨A', y, by simp, (hx y (List.mem_of_mem_take hy.1)).1.1, (hx y (List.mem_of_mem_take hy.1)).1.2, hy.2⟩
      · rw [List.length_append, hAB, List.length_cons, List.length_drop]; omega
    · simp only [slices_insertionSortCmpFunc_2_L1]
      have e : l.length - 1 + 1 = l.length := by omega
      rw [e, if_neg (by simp), List.take_length, List.drop_length, List.append_nil]
  rw [key]; rfl

theorem sort_p {m : List Int} (hm : m.length = 13) {l : List Int} (hl : l.length ≤ 13) (hx : ∀ x ∈ l, (0 ≤ x ∧ x ≤ 12) ∧ 1 ≤ geti m x ∧ geti m x ≤ 4) : slices_SortStableFunc_2_m l m = some (byM m l) := by
  unfold slices_SortStableFunc_2_m slices_stableCmpFunc_2_m
  rw [loop_done (r := (l, (0 : Int))) (by simp only [slices_stableCmpFunc_2_L1]; rw [if_neg (by rw [decide_eq_true_eq]; omega)]), Option.bind_some]
  simp only [slices_stableCmpFunc_2_K1]
  unfold slices_stableCmpFunc_2_J2
  rw [insert_p hm hl hx, Option.bind_some, loop_done (r := byM m l) (by simp only [slices_stableCmpFunc_2_L2]; rw [if_neg (by rw [decide_eq_true_eq]; omega)]), Option.bind_some]
  rfl
end Go.Proofs.Ytoickcchcjehdaa
