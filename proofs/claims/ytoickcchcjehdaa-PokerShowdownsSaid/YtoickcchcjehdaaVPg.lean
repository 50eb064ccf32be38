/-
  PokerValues: all fives of some cards, in the same order on both sides.
-/
import Derived.Test.YtoickcchcjehdaaVPf
namespace Go.Proofs.Ytoickcchcjehdaa
open Go Go.GL

noncomputable def Vl (h : List Int) : Int := (poker_value_m h).getD 0
noncomputable def upd (h : List Int) (s : Int × List Int) : Int × List Int := if s.1 < Vl h then (Vl h, h) else s
/-- What is done for each place from i on, m of them. -/
def FL {σ : Type} (f : Nat → σ → σ) : Nat → Nat → σ → σ
  | 0, _, s => s
  | m + 1, i, s => FL f m (i + 1) (f i s)
/-- k more cards are taken, from place i on. -/
noncomputable def FF (l : List Int) : Nat → List Int → Nat → Int × List Int → Int × List Int
  | 0, pre, _, s => upd pre s
  | k + 1, pre, i, s => FL (fun j s => FF l k (pre ++ [geti l (j : Int)]) (j + 1) s) (l.length - i) i s

theorem fl_loop {σ S R : Type} {step : S → Option (St S R)} (mk : σ → Nat → S) (out : σ → R) (f : Nat → σ → σ) (n i0 : Nat)
    (hs : ∀ j s, i0 ≤ j → j < n → step (mk s j) = some (.next (mk (f j s) (j + 1)))) (he : ∀ s, step (mk s n) = some (.done (out s))) :
    ∀ m i s, i0 ≤ i → i + m = n → loop step (mk s i) = some (out (FL f m i s)) := by
  intro m
  induction m with
  | zero =>
    intro i s _ h
    have : i = n := by omega
    subst this
    exact loop_done (he s)
  | succ m ih =>
    intro i s h0 h
    exact loop_next' (hs i s h0 (by omega)) (ih (i + 1) (f i s) (by omega) (by omega))

/-- What is taken and what may yet be: cards, each once. -/
def Ok (l pre : List Int) (i : Nat) : Prop := (pre ++ l.drop i).Nodup ∧ (∀ x ∈ pre, 0 ≤ x ∧ x ≤ 51)
section
variable {l : List Int}
theorem drop_at {i : Nat} (hi : i < l.length) : l.drop i = geti l (i : Int) :: l.drop (i + 1) := by
  rw [List.drop_eq_getElem_cons hi]
  congr 1
  have := List.getElem?_eq_getElem hi
  rw [get_geti hi] at this
  injection this with this
  exact this.symm
theorem Ok.step {pre : List Int} {i j : Nat} (h : Ok l pre i) (hr : ∀ x ∈ l, 0 ≤ x ∧ x ≤ 51) (hij : i ≤ j) (hj : j < l.length) : Ok l (pre ++ [geti l (j : Int)]) (j + 1) := by
  refine ⟨?_, fun x hx => ?_⟩
  · rw [List.append_assoc, List.singleton_append, ← drop_at hj]
    refine h.1.sublist (List.Sublist.append_left ?_ pre)
    obtain ⟨t, rfl⟩ : ∃ t, j = i + t := ⟨j - i, by omega⟩
    rw [← List.drop_drop]
    exact List.drop_sublist _ _
  · rw [List.mem_append, List.mem_singleton] at hx
    rcases hx with hx | rfl
    · exact h.2 x hx
    · exact hr _ (List.mem_of_getElem? (get_geti hj))
theorem Ok.val {pre : List Int} {i : Nat} (h : Ok l pre i) (h5 : pre.length = 5) : poker_value_m pre = some (Vl pre) ∧ gameroomref_HandValue_m pre = some (Vl pre) := by
  obtain ⟨v, _, h1, h2⟩ := value_eq h5 h.2 (List.nodup_append.1 h.1).1
  unfold Vl
  rw [h1, h2]
  exact ⟨rfl, rfl⟩
theorem five_4 (hl : l.length ≤ 1000) (hr : ∀ x ∈ l, 0 ≤ x ∧ x ≤ 51) {a b c d : Nat} {i : Nat} (hi : i ≤ l.length) (hO : Ok l [geti l (a : Int), geti l (b : Int), geti l (c : Int), geti l (d : Int)] i) (ha : a < l.length) (hb : b < l.length) (hc : c < l.length) (hd : d < l.length) (s : Int × List Int) : loop (gameroomref_BestFive_L5 l (a : Int) (b : Int) (c : Int) (d : Int)) (s.1, s.2, (i : Int)) = some (FF l 1 [geti l (a : Int), geti l (b : Int), geti l (c : Int), geti l (d : Int)] i s) := by
  refine fl_loop (fun (s : Int × List Int) (j : Nat) => (s.1, s.2, (j : Int))) (fun s => s) _ l.length i (fun j s hij hj => ?_) (fun s => ?_) (l.length - i) i s (Nat.le_refl _) (by omega)
  · have hO2 := hO.step hr hij hj
    simp only [gameroomref_BestFive_L5]
    rw [if_pos (decide_eq_true (by omega))]
    unfold gameroomref_BestFive_J10 gameroomref_BestFive_J11
    have hv := (hO2.val (by simp)).2
    simp only [List.cons_append, List.nil_append] at hv
    rw [asrt_pos (by omega), asrt_pos (by omega), asrt_pos (by omega), asrt_pos (by omega), asrt_pos (by omega), hv, Option.bind_some, w64_of (by omega)]
    simp only [FF, upd, List.cons_append, List.nil_append]
    by_cases h : s.1 < Vl [geti l (a : Int), geti l (b : Int), geti l (c : Int), geti l (d : Int), geti l (j : Int)]
    · rw [if_pos (decide_eq_true h), if_pos h]; rfl
    · rw [if_neg (by simpa using h), if_neg h]; rfl
  · simp only [gameroomref_BestFive_L5]
    rw [if_neg (by simp)]

theorem five_3 (hl : l.length ≤ 1000) (hr : ∀ x ∈ l, 0 ≤ x ∧ x ≤ 51) {a b c : Nat} {i : Nat} (hi : i ≤ l.length) (hO : Ok l [geti l (a : Int), geti l (b : Int), geti l (c : Int)] i) (ha : a < l.length) (hb : b < l.length) (hc : c < l.length) (s : Int × List Int) : loop (gameroomref_BestFive_L4 l (a : Int) (b : Int) (c : Int)) (s.1, s.2, (i : Int)) = some (FF l 2 [geti l (a : Int), geti l (b : Int), geti l (c : Int)] i s) := by
  refine fl_loop (fun (s : Int × List Int) (j : Nat) => (s.1, s.2, (j : Int))) (fun s => s) _ l.length i (fun j s hij hj => ?_) (fun s => ?_) (l.length - i) i s (Nat.le_refl _) (by omega)
  · have hO2 := hO.step hr hij hj
    simp only [gameroomref_BestFive_L4]
    rw [if_pos (decide_eq_true (by omega))]
    unfold gameroomref_BestFive_J8
    have e1 : w64 ((j : Int) + 1) = ((j + 1 : Nat) : Int) := by rw [w64_of (by omega)]; rfl
    have hf := five_4 hl hr (a := a) (b := b) (c := c) (d := j) (i := j + 1) (by omega) (by simpa using hO2) ha hb hc hj s
    rw [e1, hf, Option.bind_some]
    simp only [gameroomref_BestFive_K5, gameroomref_BestFive_J9]
    rw [e1]
    rfl
  · simp only [gameroomref_BestFive_L4]
    rw [if_neg (by simp)]

theorem five_2 (hl : l.length ≤ 1000) (hr : ∀ x ∈ l, 0 ≤ x ∧ x ≤ 51) {a b : Nat} {i : Nat} (hi : i ≤ l.length) (hO : Ok l [geti l (a : Int), geti l (b : Int)] i) (ha : a < l.length) (hb : b < l.length) (s : Int × List Int) : loop (gameroomref_BestFive_L3 l (a : Int) (b : Int)) (s.1, s.2, (i : Int)) = some (FF l 3 [geti l (a : Int), geti l (b : Int)] i s) := by
  refine fl_loop (fun (s : Int × List Int) (j : Nat) => (s.1, s.2, (j : Int))) (fun s => s) _ l.length i (fun j s hij hj => ?_) (fun s => ?_) (l.length - i) i s (Nat.le_refl _) (by omega)
  · have hO2 := hO.step hr hij hj
    simp only [gameroomref_BestFive_L3]
    rw [if_pos (decide_eq_true (by omega))]
    unfold gameroomref_BestFive_J6
    have e1 : w64 ((j : Int) + 1) = ((j + 1 : Nat) : Int) := by rw [w64_of (by omega)]; rfl
    have hf := five_3 hl hr (a := a) (b := b) (c := j) (i := j + 1) (by omega) (by simpa using hO2) ha hb hj s
    rw [e1, hf, Option.bind_some]
    simp only [gameroomref_BestFive_K4, gameroomref_BestFive_J7]
    rw [e1]
    rfl
  · simp only [gameroomref_BestFive_L3]
    rw [if_neg (by simp)]

theorem five_1 (hl : l.length ≤ 1000) (hr : ∀ x ∈ l, 0 ≤ x ∧ x ≤ 51) {a : Nat} {i : Nat} (hi : i ≤ l.length) (hO : Ok l [geti l (a : Int)] i) (ha : a < l.length) (s : Int × List Int) : loop (gameroomref_BestFive_L2 l (a : Int)) (s.1, s.2, (i : Int)) = some (FF l 4 [geti l (a : Int)] i s) := by
  refine fl_loop (fun (s : Int × List Int) (j : Nat) => (s.1, s.2, (j : Int))) (fun s => s) _ l.length i (fun j s hij hj => ?_) (fun s => ?_) (l.length - i) i s (Nat.le_refl _) (by omega)
  · have hO2 := hO.step hr hij hj
    simp only [gameroomref_BestFive_L2]
    rw [if_pos (decide_eq_true (by omega))]
    unfold gameroomref_BestFive_J4
    have e1 : w64 ((j : Int) + 1) = ((j + 1 : Nat) : Int) := by rw [w64_of (by omega)]; rfl
    have hf := five_2 hl hr (a := a) (b := j) (i := j + 1) (by omega) (by simpa using hO2) ha hj s
    rw [e1, hf, Option.bind_some]
    simp only [gameroomref_BestFive_K3, gameroomref_BestFive_J5]
    rw [e1]
    rfl
  · simp only [gameroomref_BestFive_L2]
    rw [if_neg (by simp)]

theorem five_0 (hl : l.length ≤ 1000) (hr : ∀ x ∈ l, 0 ≤ x ∧ x ≤ 51) {i : Nat} (hi : i ≤ l.length) (hO : Ok l ([] : List Int) i) (s : Int × List Int) : loop (gameroomref_BestFive_L1 l) (s.1, s.2, (i : Int)) = some (FF l 5 [] i s) := by
  refine fl_loop (fun (s : Int × List Int) (j : Nat) => (s.1, s.2, (j : Int))) (fun s => s) _ l.length i (fun j s hij hj => ?_) (fun s => ?_) (l.length - i) i s (Nat.le_refl _) (by omega)
  · have hO2 := hO.step hr hij hj
    simp only [gameroomref_BestFive_L1]
    rw [if_pos (decide_eq_true (by omega))]
    unfold gameroomref_BestFive_J2
    have e1 : w64 ((j : Int) + 1) = ((j + 1 : Nat) : Int) := by rw [w64_of (by omega)]; rfl
    have hf := five_1 hl hr (a := j) (i := j + 1) (by omega) (by simpa using hO2) hj s
    rw [e1, hf, Option.bind_some]
    simp only [gameroomref_BestFive_K2, gameroomref_BestFive_J3]
    rw [e1]
    rfl
  · simp only [gameroomref_BestFive_L1]
    rw [if_neg (by simp)]

theorem best_r (hl : l.length ≤ 1000) (hr : ∀ x ∈ l, 0 ≤ x ∧ x ≤ 51) (hn : l.Nodup) : gameroomref_BestFive_m l = some (FF l 5 [] 0 (-1, [])) := by
  unfold gameroomref_BestFive_m
  have := five_0 hl hr (i := 0) (by omega) ⟨by simpa using hn, by simp⟩ (-1, [])
  have h2 : loop (gameroomref_BestFive_L1 l) ((-1), ([] : List Int), 0) = _ := this
  rw [h2]; rfl

/-! ### The program's recursion -/
noncomputable abbrev ydB : (List Int × List Int) → St (Int × List Int) Unit → Option (St (Int × List Int) Unit × Bool) := ydOf (fun x s => poker_best_L1 (x, s))

theorem yd_p {pre p : List Int} {i : Nat} (hO : Ok l pre i) (h5 : pre.length = 5) (s : Int × List Int) : ydB (p, pre) (.next s) = some (.next (upd pre s), true) := by
  obtain ⟨t, w⟩ := s
  simp only [ydB, ydOf, poker_best_L1]
  rw [(hO.val h5).1, Option.bind_some]
  unfold upd
  by_cases h : t < Vl pre
  · rw [if_pos (decide_eq_true h)]
    unfold slices_Clone_m slices_Clone_J1
    have hp : pad 5 pre = pre := by
      apply List.ext_getElem?
      intro j
      by_cases hj : j < 5
      · rw [pad_get hj, List.getElem?_eq_getElem (by omega)]
        simp [List.getD_eq_getElem?_getD, List.getElem?_eq_getElem (show j < pre.length by omega)]
      · rw [List.getElem?_eq_none (by rw [pad_length]; omega), List.getElem?_eq_none (by omega)]
    rw [hp, asrt_pos (by unfold bigN; omega), Option.bind_some, if_pos h]
    rfl
  · rw [if_neg (by simpa using h), if_neg h]
    rfl

theorem pick_p (hl : l.length ≤ 1000) (hr : ∀ x ∈ l, 0 ≤ x ∧ x ≤ 51) : ∀ (k : Nat), k ≤ 5 → ∀ (i : Nat) (p h pre : List Int) (s : Int × List Int), i ≤ l.length → p.length = 5 → h.length = 5 → h.take (5 - k) = pre → Ok l pre i →
    ∃ p' h', poker_fives_1_1_mF (k + 1) (i : Int) ((5 - k : Nat) : Int) ydB (.next s) p h l = some (true, .next (FF l k pre i s), p', h') ∧ p'.length = 5 ∧ h'.length = 5 ∧ h'.take (5 - k) = pre := by
  intro k
  induction k with
  | zero =>
    intro _ i p h pre s hi hp hh ht hO
    have e : h = pre := by rw [← ht]; exact (List.take_of_length_le (by omega)).symm
    subst e
    refine ⟨p, h, ?_, hp, hh, ht⟩
    show poker_fives_1_1_B _ _ _ _ _ _ _ _ = _
    unfold poker_fives_1_1_B
    rw [if_pos (by rfl), yd_p hO hh, Option.bind_some]
    rfl
  | succ k ih =>
    intro hk i p h pre s hi hp hh ht hO
    have hd : 5 - k = 5 - (k + 1) + 1 := by omega
    have hpl : pre.length = 5 - (k + 1) := by rw [← ht, List.length_take]; omega
    have key : ∃ r, loop (poker_fives_1_1_L1 (poker_fives_1_1_mF (k + 1)) ((5 - (k + 1) : Nat) : Int) ydB l) (p, h, .next s, (i : Int)) = some r ∧ ∃ p' h', r = .go (.next (FF l (k + 1) pre i s), p', h') ∧ p'.length = 5 ∧ h'.length = 5 ∧ h'.take (5 - (k + 1)) = pre := by
      have hgen : ∀ (m t : Nat) (p h : List Int) (s : Int × List Int), i ≤ t → t + m = l.length → p.length = 5 → h.length = 5 → h.take (5 - (k + 1)) = pre →
          ∃ p' h', loop (poker_fives_1_1_L1 (poker_fives_1_1_mF (k + 1)) ((5 - (k + 1) : Nat) : Int) ydB l) (p, h, .next s, (t : Int)) = some (.go (.next (FL (fun j s => FF l k (pre ++ [geti l (j : Int)]) (j + 1) s) m t s), p', h')) ∧ p'.length = 5 ∧ h'.length = 5 ∧ h'.take (5 - (k + 1)) = pre := by
        intro m
        induction m with
        | zero =>
          intro t p h s _ ht hp hh hht
          refine ⟨p, h, loop_done ?_, hp, hh, hht⟩
          simp only [poker_fives_1_1_L1]
          rw [if_neg (by rw [decide_eq_true_eq]; omega)]
          rfl
        | succ m ihm =>
          intro t p h s hit htm hp hh hht
          have hO2 := hO.step hr hit (show t < l.length by omega)
          obtain ⟨p1, h1, e1, hp1, hh1, ht1⟩ := ih (by omega) (t + 1) (p.set (5 - (k + 1)) (t : Int)) (h.set (5 - (k + 1)) (geti l (t : Int))) (pre ++ [geti l (t : Int)]) s (by omega) (by rw [List.length_set]; exact hp) (by rw [List.length_set]; exact hh) (by
            rw [hd, List.take_add_one, List.take_set_of_le (Nat.le_refl _), hht, List.getElem?_set, if_pos rfl, if_pos (by omega)]
            rfl) hO2
          obtain ⟨p2, h2, e2, hp2, hh2, ht2⟩ := ihm (t + 1) p1 h1 (FF l k (pre ++ [geti l (t : Int)]) (t + 1) s) (by omega) (by omega) hp1 hh1 (by
            have := congrArg (List.take (5 - (k + 1))) ht1
            rw [List.take_take, Nat.min_eq_left (by omega), List.take_append_of_le_length (by omega)] at this
            rw [this]
            exact List.take_of_length_le (by omega))
          refine ⟨p2, h2, loop_next' (s' := (p1, h1, .next (FF l k (pre ++ [geti l (t : Int)]) (t + 1) s), ((t + 1 : Nat) : Int))) ?_ e2, hp2, hh2, ht2⟩
          simp only [poker_fives_1_1_L1]
          rw [if_pos (decide_eq_true (by omega))]
          unfold poker_fives_1_1_J3 poker_fives_1_1_J5
          have w1 : w64 ((t : Int) + 1) = ((t + 1 : Nat) : Int) := by rw [w64_of (by omega)]; rfl
          have w2 : w64 (((5 - (k + 1) : Nat) : Int) + 1) = ((5 - k : Nat) : Int) := by rw [w64_of (by omega)]; omega
          rw [asrt_pos (by omega), asrt_pos (by omega), asrt_pos (by omega), asrt_pos (by omega), asrt_pos (by omega), w1, w2, Int.toNat_natCast, e1, Option.bind_some, if_neg (by simp)]
          unfold poker_fives_1_1_J4
          rw [w1]
      obtain ⟨p', h', e1, e2, e3, e4⟩ := hgen (l.length - i) i p h s (Nat.le_refl _) (by omega) hp hh ht
      exact ⟨_, e1, p', h', rfl, e2, e3, e4⟩
    obtain ⟨r, e1, p', h', rfl, e2, e3, e4⟩ := key
    refine ⟨p', h', ?_, e2, e3, e4⟩
    show poker_fives_1_1_B _ _ _ _ _ _ _ _ = _
    unfold poker_fives_1_1_B
    rw [if_neg (by rw [beq_iff_eq]; omega)]
    unfold poker_fives_1_1_J1
    rw [e1]
    rfl

theorem best_p (hl : l.length ≤ 1000) (hr : ∀ x ∈ l, 0 ≤ x ∧ x ≤ 51) (hn : l.Nodup) : poker_best_m l = some (FF l 5 [] 0 (-1, [])) := by
  unfold poker_best_m poker_fives_m
  rw [Option.bind_some]
  unfold poker_fives_1_m
  obtain ⟨p', h', e1, _⟩ := pick_p hl hr 5 (Nat.le_refl _) 0 (List.replicate 5 (0 : Int)) (List.replicate 5 (0 : Int)) [] (-1, []) (by omega) (by simp) (by simp) (by simp) ⟨by simpa using hn, by simp⟩
  have e2 := poker_fives_1_1_m_of 6 _ _ _ _ _ _ _ e1
  have e3 : poker_fives_1_1_m 0 0 (ydOf (fun x s => poker_best_L1 (x, s))) (.next ((-1), ([] : List Int))) (List.replicate 5 (0 : Int)) (List.replicate 5 (0 : Int)) l = _ := e2
  rw [e3, Option.bind_some]
  rfl
end
end Go.Proofs.Ytoickcchcjehdaa
