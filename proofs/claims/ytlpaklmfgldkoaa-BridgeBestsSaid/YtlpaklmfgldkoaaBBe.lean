/-
  BridgeBests: the deal, and the law.
-/
import Derived.Test.YtlpaklmfgldkoaaBBd
namespace Go.Proofs.Ytlpaklmfgldkoaa
open Go Go.GL

theorem walk_loop {S R : Type} {step : S → Option (St S R)} (mk : Nat → S) (P : Nat → Prop) (n : Nat) (hit fin : R)
    (hs : ∀ k, k < n → (∀ j, j < k → P j) → ¬ P k → step (mk k) = some (.done hit))
    (hn : ∀ k, k < n → (∀ j, j < k → P j) → P k → step (mk k) = some (.next (mk (k + 1))))
    (he : (∀ k, k < n → P k) → step (mk n) = some (.done fin)) :
    ((∀ k, k < n → P k) → loop step (mk 0) = some fin) ∧ (¬ (∀ k, k < n → P k) → loop step (mk 0) = some hit) := by
  have key : ∀ m k, k + m = n → (∀ j, j < k → P j) → ((∀ k, k < n → P k) → loop step (mk k) = some fin) ∧ (¬ (∀ k, k < n → P k) → loop step (mk k) = some hit) := by
    intro m
    induction m with
    | zero =>
      intro k hk hp
      have : k = n := by omega
      subst this
      exact ⟨fun h => loop_done (he h), fun h => absurd hp h⟩
    | succ m ih =>
      intro k hk hp
      by_cases hP : P k
      · have := ih (k + 1) (by omega) (fun j hj => by
          by_cases h : j = k
          · subst h; exact hP
          · exact hp j (by omega))
        exact ⟨fun h => loop_next' (hn k (by omega) hp hP) (this.1 h), fun h => loop_next' (hn k (by omega) hp hP) (this.2 h)⟩
      · exact ⟨fun h => absurd (h k (by omega)) hP, fun _ => loop_done (hs k (by omega) hp hP)⟩
  exact key n 0 (by omega) (fun j hj => by omega)

theorem geti2_some {m : List (List Int)} {i : Nat} {r : List Int} (h : m[i]? = some r) : geti2 m (i : Int) = r := by
  unfold geti2
  rw [Int.toNat_natCast, List.getD_eq_getElem?_getD, h]; rfl
theorem get_geti2 {m : List (List Int)} {i : Nat} (h : i < m.length) : m[i]? = some (geti2 m (i : Int)) := by
  rw [geti2_some (List.getElem?_eq_getElem h), List.getElem?_eq_getElem h]
theorem take_next2 {m : List (List Int)} {i : Nat} (h : i < m.length) : m.take (i + 1) = m.take i ++ [geti2 m (i : Int)] := by
  have g := get_geti2 h
  rw [List.getElem?_eq_getElem h] at g
  rw [List.take_succ_eq_append_getElem h, Option.some.inj g]

theorem copied_p {l : List (List Int)} (hl : l.length ≤ 5864062014634) (hb : ∀ r ∈ l, r.length ≤ 17592186043904) : gameroomlaw_copied_m l = some l := by
  unfold gameroomlaw_copied_m
  have h : loop (gameroomlaw_copied_L1 l) (([] : List (List Int)), 0) = some l := by
    refine loop_from (f := fun i => (l.take i, (i : Int))) l.length (by simp) (fun i hi => ?_) ?_
    · have hbl := hb _ (List.mem_of_getElem? (get_geti2 hi))
      simp only [gameroomlaw_copied_L1]
      rw [if_pos (decide_eq_true (by omega))]
      unfold gameroomlaw_copied_J2 gameroomlaw_ints_m gameroomlaw_copied_J3
      rw [asrt_pos (by omega), asrt_pos (by unfold bigN; omega), Option.bind_some, List.length_take, asrt_pos (by unfold bigR; omega), w64_of (by omega), List.nil_append, take_next2 hi]; rfl
    · simp only [gameroomlaw_copied_L1]
      rw [if_neg (by simp), List.take_length]
  rw [h]; rfl

def lenP (hands : List (List Int)) (i : Nat) : Prop := (geti2 hands (i : Int)).length = (geti2 hands 0).length ∧ 1 ≤ (geti2 hands (i : Int)).length ∧ (geti2 hands (i : Int)).length ≤ 4

theorem len_cond (hands : List (List Int)) (i : Nat) : ((((((geti2 hands (i : Int)).length : Nat) : Int) != (((geti2 hands 0).length : Nat) : Int)) || (decide ((((geti2 hands (i : Int)).length : Nat) : Int) < 1))) || (decide ((4 : Int) < (((geti2 hands (i : Int)).length : Nat) : Int)))) = true ↔ ¬ lenP hands i := by
  unfold lenP
  simp only [Bool.or_eq_true, bne_iff_ne, ne_eq, decide_eq_true_eq]
  omega

theorem lens_p {hands : List (List Int)} (h4 : hands.length = 4) :
    ((∀ i, i < 4 → lenP hands i) → loop (bridge_Best_L1 hands) 0 = some (.go ())) ∧ (¬ (∀ i, i < 4 → lenP hands i) → loop (bridge_Best_L1 hands) 0 = some (.ret (0, 11))) := by
  have hst : ∀ i : Nat, i < 4 → bridge_Best_L1 hands (i : Int) = bridge_Best_J3 hands (i : Int) := fun i hi => by
    simp only [bridge_Best_L1]
    rw [if_pos (decide_eq_true (by omega))]
  exact walk_loop (step := bridge_Best_L1 hands) (fun i => (i : Int)) (lenP hands) 4 (.ret (0, 11)) (.go ()) (fun i hi _ hP => by
    rw [hst i hi]
    unfold bridge_Best_J3
    rw [asrt_pos (by omega), asrt_pos (by omega), if_pos ((len_cond hands i).2 hP)]) (fun i hi _ hP => by
    rw [hst i hi]
    unfold bridge_Best_J3 bridge_Best_J4
    rw [asrt_pos (by omega), asrt_pos (by omega), if_neg (fun h => (len_cond hands i).1 h hP), w64_of (by omega)]; rfl) (fun _ => by
    simp only [bridge_Best_L1]
    rw [if_neg (by rw [h4]; decide)])

theorem flat_len {hands : List (List Int)} (h4 : hands.length = 4) : ∀ k, k ≤ 4 → (∀ j, j < k → lenP hands j) → (hands.take k).flatten.length ≤ 4 * k
  | 0, _, _ => by simp
  | k + 1, hk, hp => by
    have ih := flat_len h4 k (by omega) (fun j hj => hp j (by omega))
    have := (hp k (by omega)).2.2
    rw [take_next2 (by omega), List.flatten_append, List.length_append, List.flatten_singleton]
    omega

theorem law_loop {hands : List (List Int)} (h4 : hands.length = 4) (hb : ∀ r ∈ hands, r.length ≤ 17592186043904) :
    ∃ r, loop (gameroomlaw_BridgeBests_L1 hands) (0, ([] : List Int), 0) = some r ∧ ((∀ i, i < 4 → lenP hands i) → r = (0, hands.flatten)) ∧ (¬ (∀ i, i < 4 → lenP hands i) → r.1 = 11) := by
  have key := count_loop (step := gameroomlaw_BridgeBests_L1 hands) (mk := fun (s : Int × List Int) (i : Nat) => (s.1, s.2, (i : Int)))
    (I := fun i s => (s = (0, (hands.take i).flatten) ∧ ∀ j, j < i → lenP hands j) ∨ (s.1 = 11 ∧ ¬ ∀ i, i < 4 → lenP hands i))
    (Post := fun r => ((∀ i, i < 4 → lenP hands i) → r = (0, hands.flatten)) ∧ (¬ (∀ i, i < 4 → lenP hands i) → r.1 = 11)) 4 (0, []) (.inl ⟨rfl, fun j hj => by omega⟩) (by
    intro i s hi hI
    rcases hI with ⟨rfl, hp⟩ | ⟨h11, hn⟩
    · left
      have hbl := hb _ (List.mem_of_getElem? (get_geti2 (m := hands) (i := i) (by omega)))
      have hfl := flat_len h4 i (by omega) hp
      simp only [gameroomlaw_BridgeBests_L1]
      rw [if_pos (by rw [h4]; simp; omega)]
      unfold gameroomlaw_BridgeBests_J3 gameroomlaw_BridgeBests_J5 gameroomlaw_BridgeBests_J4
      rw [asrt_pos (by omega), asrt_pos (by omega), asrt_pos (fun _ => by omega), asrt_pos (fun _ => by omega)]
      by_cases hP : lenP hands i
      · refine ⟨(0, (hands.take (i + 1)).flatten), ?_, .inl ⟨rfl, fun j hj => by
          by_cases h : j = i
          · subst h; exact hP
          · exact hp j (by omega)⟩⟩
        rw [if_neg (fun h => (len_cond hands i).1 h hP), asrt_pos (by omega), asrt_pos (by unfold bigN; omega), w64_of (by omega), take_next2 (by omega), List.flatten_append, List.flatten_singleton]; rfl
      · refine ⟨(11, (hands.take i).flatten ++ geti2 hands (i : Int)), ?_, .inr ⟨rfl, fun h => hP (h i hi)⟩⟩
        rw [if_pos ((len_cond hands i).2 hP), asrt_pos (by omega), asrt_pos (by unfold bigN; omega), w64_of (by omega)]; rfl
    · right
      refine ⟨s, ?_, fun h => absurd h hn, fun _ => h11⟩
      simp only [gameroomlaw_BridgeBests_L1]
      rw [h11, if_neg (by simp)]
      rw [← h11]) (by
    intro s hI
    refine ⟨s, ?_, ?_⟩
    · simp only [gameroomlaw_BridgeBests_L1]
      rw [h4, if_neg (by simp)]
    · rcases hI with ⟨rfl, hp⟩ | ⟨h11, hn⟩
      · refine ⟨fun _ => by rw [List.take_of_length_le (by omega)], fun h => absurd hp h⟩
      · exact ⟨fun h => absurd h hn, fun _ => h11⟩)
  obtain ⟨r, e, h1, h2⟩ := key
  exact ⟨r, e, h1, h2⟩

theorem concat_p {hands : List (List Int)} (h4 : hands.length = 4) (hp : ∀ i, i < 4 → lenP hands i) : slices_Concat_m hands = some hands.flatten := by
  have hfl : ∀ k, k ≤ 4 → (hands.take k).flatten.length ≤ 16 := fun k hk => by
    have := flat_len h4 k hk (fun j hj => hp j (by omega))
    omega
  have hr : ∀ i : Nat, i < 4 → (geti2 hands (i : Int)).length ≤ 4 := fun i hi => (hp i hi).2.2
  have hg : ∀ n : Nat, n ≤ 16 → slices_Grow_m (n : Int) = some [] := fun n hn => by
    unfold slices_Grow_m slices_Grow_J1 slices_Grow_J2
    have e0 : w64 (0 - 0) = 0 := by decide
    rw [if_neg (by simp), e0, Int.sub_zero, w64_of (by omega)]
    split
    · rw [asrt_pos (by unfold bigN; omega), asrt_pos (by simp)]
      rfl
    · rfl
  have l1 : loop (slices_Concat_L1 hands) (0, 0) = some ((((hands.take 4).flatten.length : Nat)) : Int) := by
    refine loop_from (f := fun i => ((((hands.take i).flatten.length : Nat) : Int), (i : Int))) 4 (by rfl) (fun i hi => ?_) ?_
    · have := hfl i (by omega)
      have := hr i hi
      simp only [slices_Concat_L1]
      rw [if_pos (decide_eq_true (by omega))]
      unfold slices_Concat_J2 slices_Concat_J3
      rw [asrt_pos (by omega), w64_of (x := (((hands.take i).flatten.length : Nat) : Int) + _) (by omega), if_neg (by rw [decide_eq_true_eq]; omega), w64_of (by omega), take_next2 (by omega), List.flatten_append, List.flatten_singleton, List.length_append, Int.natCast_add]; rfl
    · simp only [slices_Concat_L1]
      rw [if_neg (by rw [h4]; decide)]
  have l2 : loop (slices_Concat_L2 hands) (([] : List Int), 0) = some (hands.take 4).flatten := by
    refine loop_from (f := fun i => ((hands.take i).flatten, (i : Int))) 4 (by rfl) (fun i hi => ?_) ?_
    · have := hfl i (by omega)
      have := hr i hi
      simp only [slices_Concat_L2]
      rw [if_pos (decide_eq_true (by omega))]
      unfold slices_Concat_J5 slices_Concat_J6
      rw [asrt_pos (by omega), asrt_pos (by unfold bigN; omega), w64_of (by omega), take_next2 (by omega), List.flatten_append, List.flatten_singleton]; rfl
    · simp only [slices_Concat_L2]
      rw [if_neg (by rw [h4]; decide)]
  unfold slices_Concat_m
  rw [l1, Option.bind_some]
  simp only [slices_Concat_K1]
  unfold slices_Concat_J1
  have := hfl 4 (by omega)
  rw [hg _ this, Option.bind_some, l2, List.take_of_length_le (by omega)]
  rfl

/-! ### The deal -/
structure DI (hands : List (List Int)) (k z : Nat) (d : List Int) : Prop where
  len : d.length = 52
  cell : ∀ c : Nat, c < 52 → (geti d (c : Int) = 4 ∧ (∀ p : Nat, p < k → (c : Int) ∉ geti2 hands (p : Int)) ∧ (c : Int) ∉ (geti2 hands (k : Int)).take z) ∨
    (∃ p : Nat, p < 4 ∧ geti d (c : Int) = (p : Int) ∧ ((p < k ∧ (c : Int) ∈ geti2 hands (p : Int)) ∨ (p = k ∧ (c : Int) ∈ (geti2 hands (k : Int)).take z)))

theorem fill4 : loop bridge_Best_L2 ((List.replicate 52 (0 : Int)), 0) = some (List.replicate 52 (4 : Int)) := by
  refine loop_from (f := fun z => (List.replicate z (4 : Int) ++ List.replicate (52 - z) 0, (z : Int))) 52 (by rfl) (fun z hz => ?_) ?_
  · simp only [bridge_Best_L2]
    rw [if_pos (decide_eq_true (by omega))]
    unfold bridge_Best_J8 bridge_Best_J9
    rw [asrt_pos (by omega), asrt_pos (by simp; omega), w64_of (by omega), Int.toNat_natCast, List.set_append_right _ _ (by simp), List.length_replicate, Nat.sub_self]
    have e : 52 - z = (52 - (z + 1)) + 1 := by omega
    rw [e, List.replicate_succ, List.set_cons_zero, ← List.singleton_append, ← List.append_assoc, ← List.replicate_succ']
    rfl
  · simp only [bridge_Best_L2]
    rw [if_neg (by decide)]
    rfl

theorem gset {d : List Int} {a c : Nat} {v : Int} (ha : a < d.length) : geti (d.set a v) (c : Int) = if a = c then v else geti d (c : Int) := by
  rw [geti_nat, geti_nat, List.getD_eq_getElem?_getD, List.getD_eq_getElem?_getD, List.getElem?_set]
  by_cases h : a = c
  · rw [if_pos h, if_pos h, if_pos ha]; rfl
  · rw [if_neg h, if_neg h]

theorem DI.step {hands : List (List Int)} {k z : Nat} {d : List Int} (H : DI hands k z d) (hk : k < 4) (hz : z < (geti2 hands (k : Int)).length) (hx : 0 ≤ geti (geti2 hands (k : Int)) (z : Int) ∧ geti (geti2 hands (k : Int)) (z : Int) ≤ 51) :
    DI hands k (z + 1) (d.set (geti (geti2 hands (k : Int)) (z : Int)).toNat (k : Int)) := by
  refine ⟨by rw [List.length_set, H.len], fun c hc => ?_⟩
  have hg : geti (d.set (geti (geti2 hands (k : Int)) (z : Int)).toNat (k : Int)) (c : Int) = if (geti (geti2 hands (k : Int)) (z : Int)).toNat = c then (k : Int) else geti d (c : Int) := by
    exact gset (by rw [H.len]; omega)
  rw [hg, take_nextI hz]
  by_cases h : (geti (geti2 hands (k : Int)) (z : Int)).toNat = c
  · rw [if_pos h]
    exact .inr ⟨k, hk, rfl, .inr ⟨rfl, List.mem_append_right _ (by rw [List.mem_singleton]; omega)⟩⟩
  · rw [if_neg h]
    rcases H.cell c hc with ⟨h1, h2, h3⟩ | ⟨p, hp, h1, h2⟩
    · refine .inl ⟨h1, h2, fun hm => ?_⟩
      rcases List.mem_append.1 hm with hm | hm
      · exact h3 hm
      · rw [List.mem_singleton] at hm
        omega
    · refine .inr ⟨p, hp, h1, ?_⟩
      rcases h2 with h2 | ⟨h2, h3⟩
      · exact .inl h2
      · exact .inr ⟨h2, List.mem_append_left _ h3⟩

theorem deal_p {hands : List (List Int)} (h4 : hands.length = 4) (hp : ∀ i, i < 4 → lenP hands i) (hc : ∀ p : Nat, p < 4 → CardsOk (geti2 hands (p : Int))) : ∃ D, loop (bridge_Best_L3 hands) (List.replicate 52 (4 : Int), 0) = some D ∧ DI hands 4 0 D := by
  have key := count_loop (step := bridge_Best_L3 hands) (mk := fun (d : List Int) (k : Nat) => (d, (k : Int))) (I := fun k d => DI hands k 0 d) (Post := fun D => DI hands 4 0 D) 4 (List.replicate 52 (4 : Int)) ⟨by simp, fun c hc => by
      left
      refine ⟨?_, fun p hp => by omega, by simp⟩
      rw [geti_nat, List.getD_eq_getElem?_getD, List.getElem?_replicate, if_pos hc]; rfl⟩ (by
    intro k d hk H
    left
    have hlen := (hp k hk).2.2
    have inner := count_loop (step := bridge_Best_L4 hands k) (mk := fun (d : List Int) (z : Nat) => (d, (z : Int))) (I := fun z d => DI hands k z d) (Post := fun d => DI hands (k + 1) 0 d) (geti2 hands (k : Int)).length d H (by
      intro z d hz H
      left
      have hx := hc k hk _ (List.mem_of_getElem? (get_geti hz))
      refine ⟨_, ?_, H.step hk hz hx⟩
      simp only [bridge_Best_L4]
      rw [if_pos (decide_eq_true (by omega))]
      unfold bridge_Best_J13 bridge_Best_J14
      have := H.len
      rw [asrt_pos (by omega), asrt_pos (by omega), asrt_pos (by omega), w64_of (by omega)]; rfl) (by
      intro d H
      refine ⟨d, ?_, H.len, fun c hc => ?_⟩
      · simp only [bridge_Best_L4]
        rw [if_neg (by simp)]
      · have := H.cell c hc
        rw [List.take_length] at this
        rcases this with ⟨h1, h2, h3⟩ | ⟨p, hp, h1, h2⟩
        · refine .inl ⟨h1, fun p hp => ?_, by simp⟩
          by_cases e : p = k
          · subst e; exact h3
          · exact h2 p (by omega)
        · refine .inr ⟨p, hp, h1, .inl ?_⟩
          rcases h2 with ⟨h2, h3⟩ | ⟨rfl, h3⟩
          · exact ⟨by omega, h3⟩
          · exact ⟨by omega, h3⟩)
    obtain ⟨d2, e2, H2⟩ := inner
    have e2' : loop (bridge_Best_L4 hands k) (d, 0) = some d2 := e2
    refine ⟨d2, ?_, H2⟩
    simp only [bridge_Best_L3]
    rw [if_pos (decide_eq_true (by omega))]
    unfold bridge_Best_J11
    rw [asrt_pos (by omega), e2', Option.bind_some]
    simp only [bridge_Best_K4, bridge_Best_J12]
    rw [w64_of (by omega)]; rfl) (by
    intro d H
    refine ⟨d, ?_, H⟩
    simp only [bridge_Best_L3]
    rw [if_neg (by rw [h4]; decide)])
  obtain ⟨D, e, H⟩ := key
  exact ⟨D, e, H⟩

theorem DI.mem {hands : List (List Int)} {D : List Int} (h4 : hands.length = 4) (H : DI hands 4 0 D) (hc : ∀ p : Nat, p < 4 → CardsOk (geti2 hands (p : Int))) (hnd : hands.flatten.Nodup) {p : Nat} (hp : p < 4) (x : Int) : x ∈ geti2 hands (p : Int) ↔ x ∈ handOf D p := by
  have hdis : ∀ p q : Nat, p < q → q < 4 → x ∈ geti2 hands (p : Int) → x ∉ geti2 hands (q : Int) := fun p q hpq hq h1 h2 => by
    have hpw := (List.pairwise_flatten.1 hnd).2
    have := List.pairwise_iff_getElem.1 hpw p q (by omega) (by omega) hpq x (by
      have g := get_geti2 (m := hands) (i := p) (by omega)
      rw [List.getElem?_eq_getElem (by omega)] at g
      rw [Option.some.inj g]; exact h1) x (by
      have g := get_geti2 (m := hands) (i := q) (by omega)
      rw [List.getElem?_eq_getElem (by omega)] at g
      rw [Option.some.inj g]; exact h2)
    exact this rfl
  have huniq : ∀ p q : Nat, p < 4 → q < 4 → x ∈ geti2 hands (p : Int) → x ∈ geti2 hands (q : Int) → p = q := fun p q hp hq h1 h2 => by
    rcases Nat.lt_trichotomy p q with h | h | h
    · exact absurd h2 (hdis p q h hq h1)
    · exact h
    · exact absurd h1 (hdis q p h hp h2)
  rw [mem_hand]
  have h0 : geti2 hands ((4 : Nat) : Int) = [] := by
    unfold geti2
    rw [Int.toNat_natCast, List.getD_eq_getElem?_getD, List.getElem?_eq_none (by omega)]; rfl
  constructor
  · intro hx
    have hxx := hc p hp x hx
    refine ⟨by omega, ?_⟩
    rcases H.cell x.toNat (by omega) with ⟨h1, h2, _⟩ | ⟨q, hq, h1, h2⟩
    · rw [Int.toNat_of_nonneg hxx.1] at h2
      exact absurd hx (h2 p hp)
    · rw [Int.toNat_of_nonneg hxx.1] at h1 h2
      rcases h2 with ⟨_, h2⟩ | ⟨_, h2⟩
      · rw [h1, huniq p q hp hq hx h2]
      · rw [h0] at h2
        simp at h2
  · rintro ⟨hxx, hg⟩
    rcases H.cell x.toNat (by omega) with ⟨h1, _⟩ | ⟨q, hq, h1, h2⟩
    · rw [Int.toNat_of_nonneg hxx.1] at h1
      omega
    · rw [Int.toNat_of_nonneg hxx.1] at h1 h2
      have : q = p := by omega
      subst this
      rcases h2 with ⟨_, h2⟩ | ⟨_, h2⟩
      · exact h2
      · rw [h0] at h2
        simp at h2

theorem DI.rel {hands : List (List Int)} {D : List Int} (h4 : hands.length = 4) (H : DI hands 4 0 D) (hc : ∀ p : Nat, p < 4 → CardsOk (geti2 hands (p : Int))) (hnd : hands.flatten.Nodup) : Rel D hands := by
  refine ⟨h4, fun p hp => ?_⟩
  have hn : (geti2 hands (p : Int)).Nodup := (List.pairwise_flatten.1 hnd).1 _ (List.mem_of_getElem? (get_geti2 (m := hands) (i := p) (by omega)))
  exact (List.perm_ext_iff_of_nodup hn (hand_nodup D p)).2 (fun x => H.mem h4 hc hnd hp x)

theorem DI.cons {hands : List (List Int)} {D : List Int} (H : DI hands 4 0 D) : Cons D D := by
  refine ⟨H.len, fun c hc => ?_⟩
  rcases H.cell c hc with ⟨h1, _⟩ | ⟨p, hp, h1, _⟩
  · exact .inl h1
  · exact .inr ⟨rfl, by omega, by omega⟩

theorem main_p {hands : List (List Int)} (s : Int) {ld : Nat} (h4 : hands.length = 4) (hp : ∀ i, i < 4 → lenP hands i) (hc : ∀ p : Nat, p < 4 → CardsOk (geti2 hands (p : Int))) (hnd : hands.flatten.Nodup) (hld : ld < 4) :
    ∃ v, bridge_Best_J6 hands s ld = some (v, 0) ∧ gameroomref_BestTricks_m hands s ld [] = some v := by
  obtain ⟨D, e, H⟩ := deal_p h4 hp hc
  have R := H.rel h4 hc hnd
  have hlens : ∀ p : Nat, p < 4 → (handOf D p).length = (geti2 hands 0).length := fun p hp' => by
    rw [← (R.row p hp').length_eq]
    exact (hp p hp').1
  have h0 := hp 0 (by omega)
  have h01 : 1 ≤ (geti2 hands 0).length := h0.2.1
  have h04 : (geti2 hands 0).length ≤ 4 := h0.2.2
  have hB : Bal D ld [] (geti2 hands 0).length := ⟨hld, by simp, H.len, h01, fun j hj => by
    rw [hlens _ (by omega), if_neg (by simp)]; rfl⟩
  obtain ⟨kn', eb, _⟩ := best_p s D 5 D ld [] (geti2 hands 0).length H.cons hld hlens h04 (by omega) (by
    intro d ld h _ _ hm
    cases hm)
  have hd := doc_r s (8 * (geti2 hands 0).length + 1) D ld [] (geti2 hands 0).length hands R hB (by intro x hx; cases hx) h04 (by simp only [List.length_nil]; omega)
  refine ⟨bv s (geti2 hands 0).length D ld, ?_, ?_⟩
  · unfold bridge_Best_J6
    rw [fill4, Option.bind_some]
    simp only [bridge_Best_K2]
    unfold bridge_Best_J7
    rw [e, Option.bind_some]
    simp only [bridge_Best_K3]
    unfold bridge_Best_J10
    rw [bridge_table_best_m_of _ _ _ _ _ eb]; rfl
  · have hbv : bv s (geti2 hands 0).length D ld = V s (8 * (geti2 hands 0).length + 1) D ld [] := if_neg (by omega)
    rw [hbv]
    exact gameroomref_BestTricks_m_of _ _ _ _ _ hd

theorem true_BridgeBests (x0 : List (List Int)) (x1 x2 : Int) (h0 : x0.length ≤ 5864062014634) (h0' : ∀ r ∈ x0, r.length ≤ 17592186043904 ∧ ∀ x ∈ r, inI x) (_h1 : inI x1) (_h2 : inI x2) :
    gameroomlaw_BridgeBests_m x0 x1 x2 = some true := by
  have hb : ∀ r ∈ x0, r.length ≤ 17592186043904 := fun r hr => (h0' r hr).1
  have hbad : ∀ (no : Int), no ≠ 0 → ∀ all, gameroomlaw_BridgeBests_J2 x0 x1 x2 (0, no) no all = some true := fun no hno all => by
    have hn : ¬ (no == 0) = true := by simpa using hno
    unfold gameroomlaw_BridgeBests_J2 gameroomlaw_BridgeBests_J6 gameroomlaw_BridgeBests_J7 gameroomlaw_BridgeBests_J8
    rw [if_neg hn, if_neg (by simp [hno]), if_neg (by simp [hno]), if_pos (by simpa using hno)]
    simp
  unfold gameroomlaw_BridgeBests_m
  rw [copied_p h0 hb, Option.bind_some]
  by_cases h4 : x0.length = 4
  · obtain ⟨r, er, ha, hn⟩ := law_loop h4 hb
    have hl := lens_p h4
    have hB : bridge_Best_m x0 x1 x2 = bridge_Best_J1 x0 x1 x2 := by
      unfold bridge_Best_m
      rw [if_neg (by rw [h4]; decide)]
    rw [hB]
    unfold bridge_Best_J1
    by_cases hp : ∀ i, i < 4 → lenP x0 i
    · have er' := ha hp
      subst er'
      rw [hl.1 hp, Option.bind_some]
      simp only [bridge_Best_K1]
      unfold bridge_Best_J2
      have hfl : x0.flatten.length ≤ 16 := by
        have := flat_len h4 4 (by omega) (fun j hj => hp j hj)
        rwa [List.take_of_length_le (by omega)] at this
      have hJ1 : ∀ r2, gameroomlaw_BridgeBests_J1 x0 x1 x2 r2 0 = gameroomlaw_BridgeBests_J6 x0 x1 x2 r2 (wrong x0.flatten) := fun r2 => by
        unfold gameroomlaw_BridgeBests_J1
        rw [er, Option.bind_some]
        simp only [gameroomlaw_BridgeBests_K1]
        unfold gameroomlaw_BridgeBests_J2
        rw [if_pos (by decide), cards_r (by omega), Option.bind_some]
      rw [concat_p h4 hp, Option.bind_some, check_p (by omega), Option.bind_some]
      have hw : (wrong x0.flatten = 3 ∨ wrong x0.flatten = 6) ∨ (wrong x0.flatten = 0 ∧ x0.flatten.any strB = false ∧ x0.flatten.Nodup) := by
        unfold wrong
        by_cases q : x0.flatten.any strB = true
        · rw [if_pos q]; exact .inl (.inl rfl)
        · rw [if_neg q]
          by_cases q2 : x0.flatten.Nodup
          · rw [if_pos q2]; exact .inr ⟨rfl, by simpa using q, q2⟩
          · rw [if_neg q2]; exact .inl (.inr rfl)
      have hne : ¬ ((x0.length : Int) != 4) = true := by rw [h4]; decide
      have hJbad : ∀ (no : Int), no ≠ 0 → gameroomlaw_BridgeBests_J6 x0 x1 x2 (0, no) no = some true := fun no hno => by
        unfold gameroomlaw_BridgeBests_J6 gameroomlaw_BridgeBests_J7 gameroomlaw_BridgeBests_J8
        rw [if_neg (by simp [hno]), if_neg (by simp [hno]), if_pos (by simpa using hno)]
        simp
      rcases hw with hw | ⟨hw, hany, hnd⟩
      · have hw0 : wrong x0.flatten ≠ 0 := by omega
        rw [if_pos (by simpa using hw0), Option.bind_some, if_neg hne, hJ1]
        exact hJbad _ hw0
      · rw [hw, if_neg (by decide)]
        rw [hw] at hJ1
        unfold bridge_Best_J5
        by_cases hs : x1 < 0 ∨ 4 < x1
        · rw [if_pos (by simpa using hs), Option.bind_some, if_neg hne, hJ1]
          unfold gameroomlaw_BridgeBests_J6 gameroomlaw_BridgeBests_J7 gameroomlaw_BridgeBests_J8
          rw [if_pos (by simpa using hs), if_neg (by simp), if_pos (by decide)]
          rfl
        · rw [if_neg (by simpa using hs)]
          by_cases hle : x2 < 0 ∨ 3 < x2
          · rw [if_pos (by simpa using hle), Option.bind_some, if_neg hne, hJ1]
            unfold gameroomlaw_BridgeBests_J6 gameroomlaw_BridgeBests_J7 gameroomlaw_BridgeBests_J8
            rw [if_neg (by simpa using hs), if_pos (by simpa using hle), if_pos (by decide)]
            rfl
          · rw [if_neg (by simpa using hle)]
            obtain ⟨ld, rfl⟩ : ∃ ld : Nat, x2 = (ld : Int) := ⟨x2.toNat, by omega⟩
            have hc : ∀ p : Nat, p < 4 → CardsOk (geti2 x0 (p : Int)) := fun p hp x hx => by
              have hm : x ∈ x0.flatten := List.mem_flatten.2 ⟨_, List.mem_of_getElem? (get_geti2 (m := x0) (i := p) (by omega)), hx⟩
              have : strB x = false := by
                rw [Bool.eq_false_iff]
                intro h
                rw [List.any_eq_true.2 ⟨x, hm, h⟩] at hany
                cases hany
              unfold strB at this
              rw [Bool.or_eq_false_iff, decide_eq_false_iff_not, decide_eq_false_iff_not] at this
              omega
            obtain ⟨v, e1, e2⟩ := main_p x1 (ld := ld) h4 hp hc hnd (by omega)
            rw [e1, Option.bind_some, if_neg hne, hJ1]
            unfold gameroomlaw_BridgeBests_J6 gameroomlaw_BridgeBests_J7 gameroomlaw_BridgeBests_J8 gameroomlaw_BridgeBests_J9
            rw [if_neg (by simpa using hs), if_neg (by simpa using hle), if_neg (by decide), if_pos (show ((0 : Int) == 0) = true from rfl), e2, Option.bind_some]
            simp
    · rw [hl.2 hp, Option.bind_some]
      simp only [bridge_Best_K1, Option.bind_some]
      rw [if_neg (by rw [h4]; decide)]
      unfold gameroomlaw_BridgeBests_J1
      rw [er, Option.bind_some]
      obtain ⟨r1, r2⟩ := r
      have h11 : r1 = 11 := hn hp
      subst h11
      simp only [gameroomlaw_BridgeBests_K1]
      exact hbad 11 (by decide) _
  · have hne : ((x0.length : Int) != 4) = true := by simp; omega
    have hB : bridge_Best_m x0 x1 x2 = some (0, 11) := by
      unfold bridge_Best_m
      rw [if_pos hne]
    rw [hB, Option.bind_some, if_pos hne]
    unfold gameroomlaw_BridgeBests_J1
    have e : loop (gameroomlaw_BridgeBests_L1 x0) (11, ([] : List Int), 0) = some (11, []) := loop_done (by
      simp only [gameroomlaw_BridgeBests_L1]
      rw [if_neg (by simp)])
    rw [e, Option.bind_some]
    simp only [gameroomlaw_BridgeBests_K1]
    exact hbad 11 (by decide) _
end Go.Proofs.Ytlpaklmfgldkoaa
