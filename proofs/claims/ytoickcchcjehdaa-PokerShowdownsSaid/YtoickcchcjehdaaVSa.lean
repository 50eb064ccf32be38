/-
  PokerShowdowns: the best value does not hang on the order of the cards.
-/
import Derived.Test.YtoickcchcjehdaaVPg
namespace Go.Proofs.Ytoickcchcjehdaa
open Go Go.GL

theorem manyL_perm {l r : List Int} (h : l.Perm r) : manyL l = manyL r := by
  unfold manyL
  exact mr_congr fun j _ => by rw [h.countP_eq]

theorem flushL_iff {l : List Int} (h : l.length = 5) : flushL l = true ↔ ∀ x ∈ l, ∀ y ∈ l, x % 4 = y % 4 := by
  have h0 : geti l 0 ∈ l := List.mem_of_getElem? (get_geti (l := l) (i := 0) (by omega))
  unfold flushL
  rw [List.all_eq_true]
  constructor
  · intro hh x hx y hy
    have h1 := hh x hx
    have h2 := hh y hy
    rw [beq_iff_eq] at h1 h2
    omega
  · intro hh x hx
    rw [beq_iff_eq]
    exact hh x hx _ h0
theorem flushL_perm {l r : List Int} (hl : l.length = 5) (h : l.Perm r) : flushL l = flushL r := by
  rw [Bool.eq_iff_iff, flushL_iff hl, flushL_iff (by rw [← h.length_eq]; exact hl)]
  constructor
  · intro hh x hx y hy
    exact hh x (h.mem_iff.2 hx) y (h.mem_iff.2 hy)
  · intro hh x hx y hy
    exact hh x (h.mem_iff.1 hx) y (h.mem_iff.1 hy)

theorem Vl_perm {l r : List Int} (hl : l.length = 5) (hr : ∀ x ∈ l, 0 ≤ x ∧ x ≤ 51) (h : l.Perm r) : Vl l = Vl r := by
  have hl2 : r.length = 5 := by rw [← h.length_eq]; exact hl
  have hr2 : ∀ x ∈ r, 0 ≤ x ∧ x ≤ 51 := fun x hx => hr x (h.mem_iff.2 hx)
  unfold Vl poker_value_m
  rw [many_p hl hr, many_p hl2 hr2, manyL_perm h, flushL_perm hl h]

/-- The best value found: as great as each, and one of them. -/
theorem FF_max (l : List Int) : ∀ (k : Nat) (pre : List Int) (i : Nat) (s : Int × List Int), i ≤ l.length →
    s.1 ≤ (FF l k pre i s).1 ∧ (∀ t : List Int, t.Sublist (l.drop i) → t.length = k → Vl (pre ++ t) ≤ (FF l k pre i s).1) ∧ ((FF l k pre i s).1 = s.1 ∨ ∃ t : List Int, t.Sublist (l.drop i) ∧ t.length = k ∧ Vl (pre ++ t) = (FF l k pre i s).1) := by
  intro k
  induction k with
  | zero =>
    intro pre i s _
    unfold FF upd
    refine ⟨?_, fun t _ ht => ?_, ?_⟩
    · split
      · rename_i h
        exact Int.le_of_lt h
      · exact Int.le_refl _
    · have : t = [] := List.eq_nil_of_length_eq_zero ht
      subst this
      rw [List.append_nil]
      split
      · exact Int.le_refl _
      · omega
    · by_cases h : s.1 < Vl pre
      · rw [if_pos h]
        exact .inr ⟨[], List.nil_sublist _, rfl, by simp⟩
      · rw [if_neg h]
        exact .inl rfl
  | succ k ih =>
    have hm : ∀ (pre : List Int) (m i : Nat) (s : Int × List Int), i + m = l.length →
        s.1 ≤ (FL (fun j s => FF l k (pre ++ [geti l (j : Int)]) (j + 1) s) m i s).1 ∧ (∀ t : List Int, t.Sublist (l.drop i) → t.length = k + 1 → Vl (pre ++ t) ≤ (FL (fun j s => FF l k (pre ++ [geti l (j : Int)]) (j + 1) s) m i s).1) ∧
        ((FL (fun j s => FF l k (pre ++ [geti l (j : Int)]) (j + 1) s) m i s).1 = s.1 ∨ ∃ t : List Int, t.Sublist (l.drop i) ∧ t.length = k + 1 ∧ Vl (pre ++ t) = (FL (fun j s => FF l k (pre ++ [geti l (j : Int)]) (j + 1) s) m i s).1) := by
      intro pre m
      induction m with
      | zero =>
        intro i s h
        refine ⟨Int.le_refl _, fun t ht hl => ?_, .inl rfl⟩
        rw [List.drop_eq_nil_of_le (by omega)] at ht
        have := ht.length_le
        rw [hl] at this
        simp at this
      | succ m ihm =>
        intro i s h
        obtain ⟨a1, a2, a3⟩ := ih (pre ++ [geti l (i : Int)]) (i + 1) s (by omega)
        obtain ⟨b1, b2, b3⟩ := ihm (i + 1) (FF l k (pre ++ [geti l (i : Int)]) (i + 1) s) (by omega)
        have hd := drop_at (l := l) (i := i) (by omega)
        show s.1 ≤ (FL _ m (i + 1) (FF l k (pre ++ [geti l (i : Int)]) (i + 1) s)).1 ∧ (∀ t : List Int, t.Sublist (l.drop i) → t.length = k + 1 → Vl (pre ++ t) ≤ (FL _ m (i + 1) (FF l k (pre ++ [geti l (i : Int)]) (i + 1) s)).1) ∧
          ((FL _ m (i + 1) (FF l k (pre ++ [geti l (i : Int)]) (i + 1) s)).1 = s.1 ∨ ∃ t : List Int, t.Sublist (l.drop i) ∧ t.length = k + 1 ∧ Vl (pre ++ t) = (FL _ m (i + 1) (FF l k (pre ++ [geti l (i : Int)]) (i + 1) s)).1)
        refine ⟨Int.le_trans a1 b1, fun t ht hl => ?_, ?_⟩
        · rw [hd] at ht
          cases ht with
          | cons _ ht => exact b2 t ht hl
          | @cons_cons t' _ _ ht =>
            have := a2 t' ht (by simpa using hl)
            rw [List.append_assoc] at this
            exact Int.le_trans this b1
        · rcases b3 with b3 | ⟨t, t1, t2, t3⟩
          · rcases a3 with a3 | ⟨t, t1, t2, t3⟩
            · exact .inl (b3.trans a3)
            · refine .inr ⟨geti l (i : Int) :: t, by rw [hd]; exact t1.cons_cons _, by simp [t2], ?_⟩
              rw [b3, ← t3, List.append_assoc]
              rfl
          · exact .inr ⟨t, by rw [hd]; exact t1.cons _, t2, t3⟩
    intro pre i s hi
    exact hm pre (l.length - i) i s (by omega)

/-- The best value of some cards. -/
noncomputable def best5 (l : List Int) : Int := (FF l 5 [] 0 (-1, [])).1

theorem nodup_sub : ∀ (a t : List Int), a.Nodup → (∀ x ∈ a, x ∈ t) → a.length ≤ t.length
  | [], _, _, _ => Nat.zero_le _
  | x :: a, t, hn, hs => by
    obtain ⟨h1, h2⟩ := List.nodup_cons.1 hn
    have hx := hs x (by simp)
    have := nodup_sub a (t.erase x) h2 (fun y hy => (List.mem_erase_of_ne (fun e => h1 (by rw [← e]; exact hy))).2 (hs y (by simp [hy])))
    rw [List.length_erase_of_mem hx] at this
    have hp := List.length_pos_of_mem hx
    rw [List.length_cons]
    omega

theorem best5_le {l r : List Int} (hr : ∀ x ∈ l, 0 ≤ x ∧ x ≤ 51) (hn : l.Nodup) (h : l.Perm r) : best5 l ≤ best5 r := by
  obtain ⟨a1, a2, a3⟩ := FF_max l 5 [] 0 (-1, []) (by omega)
  obtain ⟨b1, b2, b3⟩ := FF_max r 5 [] 0 (-1, []) (by omega)
  unfold best5
  rcases a3 with a3 | ⟨t, t1, t2, t3⟩
  · rw [a3]; exact b1
  · rw [← t3, List.nil_append]
    rw [List.drop_zero] at t1
    have ht : ∀ x ∈ t, x ∈ l := fun x hx => t1.subset hx
    have hp : t.Perm (r.filter fun x => decide (x ∈ t)) := by
      have h1 : (l.filter fun x => decide (x ∈ t)).Perm (r.filter fun x => decide (x ∈ t)) := h.filter _
      have h2 : l.filter (fun x => decide (x ∈ t)) = t := by
        have h4 := t1.filter (fun x => decide (x ∈ t))
        have h5 : t.filter (fun x => decide (x ∈ t)) = t := List.filter_eq_self.2 fun x hx => by simpa using hx
        rw [h5] at h4
        refine (h4.eq_of_length ?_).symm
        refine Nat.le_antisymm h4.length_le ?_
        -- no more than in t: each is one of t, once
        have hn2 : (l.filter fun x => decide (x ∈ t)).Nodup := List.filter_sublist.nodup hn
        have hsub : ∀ x ∈ l.filter (fun x => decide (x ∈ t)), x ∈ t := fun x hx => by
          rw [List.mem_filter] at hx
          simpa using hx.2
        exact nodup_sub _ _ hn2 hsub
      rw [h2] at h1
      exact h1
    rw [Vl_perm t2 (fun x hx => hr x (ht x hx)) hp]
    have := b2 (r.filter fun x => decide (x ∈ t)) (by rw [List.drop_zero]; exact List.filter_sublist) (by rw [← hp.length_eq]; exact t2)
    simpa using this

theorem best5_perm {l r : List Int} (hr : ∀ x ∈ l, 0 ≤ x ∧ x ≤ 51) (hn : l.Nodup) (h : l.Perm r) : best5 l = best5 r :=
  Int.le_antisymm (best5_le hr hn h) (best5_le (fun x hx => hr x (h.mem_iff.2 hx)) (h.nodup_iff.1 hn) h.symm)
end Go.Proofs.Ytoickcchcjehdaa
