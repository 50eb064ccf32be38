/-
  FourDrops: threats, drops and the law.
-/
import Derived.Test.YtogecbgngnjhgaaGFc
import Derived.Test.YtogecbgngnjhgaaLibT
namespace Go.Proofs.Ytogecbgngnjhgaa
open Go Go.GL

theorem sameInts_eq {a b : List Int} (ha : a.length ≤ 17592186044416) : gameroomlaw_sameInts_m a b = some (decide (a = b)) := by
  unfold gameroomlaw_sameInts_m
  by_cases hl : a.length = b.length
  · rw [if_neg (by simp [hl])]
    unfold gameroomlaw_sameInts_J1
    have h := count_loop (step := gameroomlaw_sameInts_L1 a b) (fun (_ : Unit) k => (k : Int)) (fun k _ => ∀ i, i < k → a[i]? = b[i]?) (fun r => gameroomlaw_sameInts_K1 r = some (decide (a = b))) a.length () (fun i hi => by omega) ?_ ?_
    · obtain ⟨r, h1, h2⟩ := h
      have h1' : loop (gameroomlaw_sameInts_L1 a b) 0 = some r := h1
      rw [h1']
      exact h2
    · intro i _ hi hI
      obtain ⟨x, hx⟩ : ∃ x, a[i]? = some x := ⟨_, List.getElem?_eq_getElem hi⟩
      obtain ⟨y, hy⟩ : ∃ y, b[i]? = some y := ⟨_, List.getElem?_eq_getElem (by omega)⟩
      simp only [gameroomlaw_sameInts_L1, gameroomlaw_sameInts_J3]
      rw [if_pos (by simpa using hi), asrt_pos (idx_bd hx), asrt_pos (idx_bd hy), geti_some hx, geti_some hy]
      by_cases hxy : x = y
      · left
        rw [if_neg (by simp [hxy])]
        refine ⟨(), by simp only [gameroomlaw_sameInts_J4]; rw [w64_succ (by omega)]; rfl, fun j hj => ?_⟩
        by_cases hji : j = i
        · subst hji; rw [hx, hy, hxy]
        · exact hI j (by omega)
      · right
        rw [if_pos (by simp [hxy])]
        refine ⟨_, rfl, ?_⟩
        have hne : a ≠ b := fun h => hxy (by rw [h, hy] at hx; exact (Option.some.inj hx).symm)
        simp [gameroomlaw_sameInts_K1, hne]
    · intro _ hI
      refine ⟨Fl.go (), ?_, ?_⟩
      · simp only [gameroomlaw_sameInts_L1]
        rw [if_neg (by simp)]
      · have : a = b := by
          apply List.ext_getElem?
          intro i
          by_cases hi : i < a.length
          · exact hI i hi
          · rw [List.getElem?_eq_none (by omega), List.getElem?_eq_none (by omega)]
        simp [gameroomlaw_sameInts_K1, gameroomlaw_sameInts_J2, this]
  · rw [if_pos (by simp; omega)]
    have : a ≠ b := fun h => hl (by rw [h])
    simp [this]
theorem sameInts_r {a b : List Int} (ha : a.length ≤ 17592186044416) : gameroomref_sameInts_m a b = some (decide (a = b)) := by
  unfold gameroomref_sameInts_m
  by_cases hl : a.length = b.length
  · rw [if_neg (by simp [hl])]
    unfold gameroomref_sameInts_J1
    have h := count_loop (step := gameroomref_sameInts_L1 a b) (fun (_ : Unit) k => (k : Int)) (fun k _ => ∀ i, i < k → a[i]? = b[i]?) (fun r => gameroomref_sameInts_K1 r = some (decide (a = b))) a.length () (fun i hi => by omega) ?_ ?_
    · obtain ⟨r, h1, h2⟩ := h
      have h1' : loop (gameroomref_sameInts_L1 a b) 0 = some r := h1
      rw [h1']
      exact h2
    · intro i _ hi hI
      obtain ⟨x, hx⟩ : ∃ x, a[i]? = some x := ⟨_, List.getElem?_eq_getElem hi⟩
      obtain ⟨y, hy⟩ : ∃ y, b[i]? = some y := ⟨_, List.getElem?_eq_getElem (by omega)⟩
      simp only [gameroomref_sameInts_L1, gameroomref_sameInts_J3]
      rw [if_pos (by simpa using hi), asrt_pos (idx_bd hx), asrt_pos (idx_bd hy), geti_some hx, geti_some hy]
      by_cases hxy : x = y
      · left
        rw [if_neg (by simp [hxy])]
        refine ⟨(), by simp only [gameroomref_sameInts_J4]; rw [w64_succ (by omega)]; rfl, fun j hj => ?_⟩
        by_cases hji : j = i
        · subst hji; rw [hx, hy, hxy]
        · exact hI j (by omega)
      · right
        rw [if_pos (by simp [hxy])]
        refine ⟨_, rfl, ?_⟩
        have hne : a ≠ b := fun h => hxy (by rw [h, hy] at hx; exact (Option.some.inj hx).symm)
        simp [gameroomref_sameInts_K1, hne]
    · intro _ hI
      refine ⟨Fl.go (), ?_, ?_⟩
      · simp only [gameroomref_sameInts_L1]
        rw [if_neg (by simp)]
      · have : a = b := by
          apply List.ext_getElem?
          intro i
          by_cases hi : i < a.length
          · exact hI i hi
          · rw [List.getElem?_eq_none (by omega), List.getElem?_eq_none (by omega)]
        simp [gameroomref_sameInts_K1, gameroomref_sameInts_J2, this]
  · rw [if_pos (by simp; omega)]
    have : a ≠ b := fun h => hl (by rw [h])
    simp [this]

section
variable {W H k : Int} {c : List Int}

open Classical in
theorem over_p (B : Bd W H c k) (hg : okG W H c = true) (m : Int) : four_well_over_m W H c k m = some (decide (0 < wonN W H c k)) := by
  have hsm := B.small
  have hin := okG_in hg
  have hw : 0 < wonN W H c k ↔ ∃ p : Nat, p < c.length ∧ InRow W H c k p ∧ 0 < geti c p := by
    have e1 := won_place B (w := 1) (by omega)
    have e2 := won_place B (w := 2) (by omega)
    have e3 : 0 < wonN W H c k ↔ Won W H c k 1 ∨ Won W H c k 2 := by
      unfold wonN
      by_cases q1 : Won W H c k 1
      · rw [if_pos q1]
        by_cases q2 : Won W H c k 2
        · rw [if_pos q2]; simp [q1]
        · rw [if_neg q2]; simp [q1]
      · rw [if_neg q1]
        by_cases q2 : Won W H c k 2
        · rw [if_pos q2]; simp [q2]
        · rw [if_neg q2]; simp [q1, q2]
    rw [e3, e1, e2]
    constructor
    · rintro (⟨p, h1, h2, h3⟩ | ⟨p, h1, h2, h3⟩)
      · exact ⟨p, h1, h2, by rw [h3]; decide⟩
      · exact ⟨p, h1, h2, by rw [h3]; decide⟩
    · rintro ⟨p, h1, h2, h3⟩
      have := hin p h1
      obtain q | q : geti c p = 1 ∨ geti c p = 2 := by clear e1 e2 e3; omega
      · exact Or.inl ⟨p, h1, h2, q⟩
      · exact Or.inr ⟨p, h1, h2, q⟩
  unfold four_well_over_m
  have key := count_loop (step := four_well_over_L1 W H c k m) (fun (_ : Unit) (i : Nat) => (i : Int)) (fun n _ => ∀ p : Nat, p < n → InRow W H c k p → ¬ 0 < geti c p)
    (fun r => r = if 0 < wonN W H c k then .ret true else .go ()) c.length () (fun p hp => by omega) (by
      rintro i - hi hI
      have e1 : four_well_over_L1 W H c k m (i : Int) = four_well_over_J2 W H c k m i := if_pos (decide_eq_true (by omega))
      rw [e1]
      unfold four_well_over_J2 four_well_over_J3
      rw [asrt_pos (by omega), w64_of (x := (i : Int) + 1) (by omega)]
      by_cases hp : 0 < geti c i
      · rw [decide_eq_true hp, if_pos rfl, won_p B m hi hp, Option.bind_some, Bool.true_and]
        by_cases hr : InRow W H c k i
        · right
          rw [decide_eq_true hr, if_pos rfl]
          exact ⟨_, rfl, by rw [if_pos (hw.2 ⟨i, hi, hr, hp⟩)]⟩
        · left
          rw [decide_eq_false hr, if_neg (by decide)]
          refine ⟨(), rfl, fun p h1 h2 => ?_⟩
          by_cases e : p = i
          · subst e; exact absurd h2 hr
          · exact hI p (by omega) h2
      · left
        rw [decide_eq_false hp, if_neg (by decide), Option.bind_some, Bool.false_and, if_neg (by decide)]
        refine ⟨(), rfl, fun p h1 h2 => ?_⟩
        by_cases e : p = i
        · subst e; exact hp
        · exact hI p (by omega) h2) (by
      rintro - hI
      refine ⟨.go (), ?_, ?_⟩
      · simp only [four_well_over_L1]
        rw [if_neg (by simp)]
      · rw [if_neg]
        intro h
        obtain ⟨p, h1, h2, h3⟩ := hw.1 h
        exact hI p h1 h2 h3)
  obtain ⟨r, hr, rfl⟩ := key
  have hr' : loop (four_well_over_L1 W H c k m) 0 = _ := hr
  rw [hr', Option.bind_some]
  by_cases q : 0 < wonN W H c k
  · rw [if_pos q, decide_eq_true q]; rfl
  · rw [if_neg q, decide_eq_false q]; rfl

theorem at_r {l : List Int} (n : Int) (hl : l.length ≤ 17592186044416) : ∃ v, gameroomref_at_m l n = some v ∧ (0 ≤ v ↔ n ∈ l) := by
  refine ⟨fidx (fun x => x == n) l, ?_, ?_⟩
  · unfold gameroomref_at_m
    rw [search_loop (l := l) (fun x => x == n) (fun i => Fl.ret (i : Int)) (Fl.go ()) ?_ ?_ ?_]
    · unfold fidx
      cases l.findIdx? (fun x => x == n) <;> rfl
    · intro i x hx hp
      have hb := idx_bd hx
      simp only [gameroomref_at_L1, gameroomref_at_J2]
      rw [if_pos (by simpa using hb.2), asrt_pos hb, geti_some hx]
      exact if_pos hp
    · intro i x hx hp
      have hb := idx_bd hx
      simp only [gameroomref_at_L1, gameroomref_at_J2]
      rw [if_pos (by simpa using hb.2), asrt_pos hb, geti_some hx, if_neg (by simpa using hp)]
      simp only [gameroomref_at_J3]
      rw [w64_succ (by omega)]
    · simp only [gameroomref_at_L1]
      rw [if_neg (by simp)]
  · rw [fidx_neg, List.any_eq_true]
    constructor
    · rintro ⟨x, hx, h⟩
      rw [beq_iff_eq] at h
      rw [← h]; exact hx
    · intro h
      exact ⟨n, h, by simp⟩

theorem mem_wonL {i : Nat} (hi : i < c.length) : (i : Int) ∈ wonL W H c k ↔ InRow W H c k i := by
  classical
  unfold wonL
  simp only [List.mem_map, List.mem_filter, List.mem_range, decide_eq_true_eq]
  constructor
  · rintro ⟨p, ⟨h1, h2⟩, h3⟩
    obtain rfl : p = i := by omega
    exact h2
  · intro h
    exact ⟨i, ⟨hi, h⟩, rfl⟩
theorem wonL_len : (wonL W H c k).length ≤ c.length := by
  classical
  unfold wonL
  rw [List.length_map]
  have := List.length_filter_le (fun p => decide (InRow W H c k p)) (List.range c.length)
  rw [List.length_range] at this
  refine Nat.le_trans ?_ this
  apply Nat.le_of_eq
  congr

open Classical in
theorem threats_both (B : Bd W H c k) {who : Int} (hw : who = 1 ∨ who = 2) (m : Int) : ∃ l, four_Threats_J2 who k (W, H, c, m) = some (l, 0) ∧ gameroomref_ThreatsOf_m W H c who k = some l ∧ l.length ≤ 300 := by
  have hsm := B.small
  unfold four_Threats_J2 gameroomref_ThreatsOf_m
  have key := count_loop2' (step1 := four_Threats_L1 who k (W, H, c, m)) (step2 := gameroomref_ThreatsOf_L1 W H c who k) (fun (s : List Int) (i : Nat) => (c, s, (i : Int))) (fun s i => (s, (i : Int))) (fun i s => s.length ≤ i) (fun r1 r2 => r1 = r2 ∧ r1.length ≤ 300) c.length [] (by simp) (by
    intro i s hi hI
    have e1 : four_Threats_L1 who k (W, H, c, m) (c, s, (i : Int)) = four_Threats_J4 who k (W, H, c, m) c s i := if_pos (decide_eq_true (by simp; omega))
    have e2 : gameroomref_ThreatsOf_L1 W H c who k (s, (i : Int)) = gameroomref_ThreatsOf_J2 W H c who k s i := if_pos (decide_eq_true (by omega))
    rw [e1, e2]
    unfold four_Threats_J4 gameroomref_ThreatsOf_J2 four_Threats_J5 gameroomref_ThreatsOf_J3
    simp only
    rw [asrt_pos (by omega), asrt_pos (by omega), w64_of (x := (i : Int) + 1) (by omega)]
    by_cases h0 : geti c i = 0
    · have n0 : ¬ (geti c (i : Int) != 0) = true := by simpa using h0
      rw [if_neg n0, if_neg n0]
      have B' : Bd W H (c.set i who) k := B.of_len (by simp)
      have hat : geti (c.set i who) (i : Int) = who := by rw [geti_set' (by omega) hi, if_pos rfl]
      unfold four_Threats_J6 gameroomref_ThreatsOf_J4 four_Threats_J7 four_Threats_J5 gameroomref_ThreatsOf_J3
      simp only
      have ai : ∀ {α : Type} (x : Option α), asrt (0 ≤ (i : Int) ∧ (i : Int) < (c.length : Int)) x = x := fun x => asrt_pos (by omega)
      have asx : ∀ {α : Type} (x : Option α), asrt ((s.length : Int) + 1 ≤ bigN) x = x := fun x => asrt_pos (by unfold bigN; omega)
      rw [gridOf_r (by omega), Option.bind_some]
      simp only
      rw [ai, ai, Int.toNat_natCast, won_p B' m (by simpa using hi) (by rw [hat]; omega), WonOf_eq B', Option.bind_some, Option.bind_some, set_back hi h0]
      simp only
      obtain ⟨v, hv, hvi⟩ := at_r (l := wonL W H (c.set i who) k) (i : Int) (by have := wonL_len (W := W) (H := H) (k := k) (c := c.set i who); rw [List.length_set] at this; omega)
      rw [hv, Option.bind_some]
      rw [mem_wonL (by simpa using hi)] at hvi
      have wi : w64 ((i : Int) + 1) = ((i + 1 : Nat) : Int) := by rw [w64_of (by omega)]; rfl
      by_cases hr : InRow W H (c.set i who) k i
      · refine ⟨s ++ [(i : Int)], ?_, ?_, by simp; omega⟩
        · rw [if_pos (decide_eq_true hr), asx]; (try rw [ai]); rw [wi]
        · rw [if_pos (decide_eq_true (hvi.2 hr))]; (try rw [asx]); (try rw [ai]); rw [wi]
      · refine ⟨s, ?_, ?_, by omega⟩
        · rw [if_neg (by rw [decide_eq_true_eq]; exact hr)]; (try rw [ai]); rw [wi]
        · rw [if_neg (by rw [decide_eq_true_eq]; exact fun h => hr (hvi.1 h))]; (try rw [ai]); rw [wi]
    · have n0 : (geti c (i : Int) != 0) = true := by simpa using h0
      rw [if_pos n0, if_pos n0]
      exact ⟨s, rfl, rfl, by omega⟩) (by
    intro s hI
    refine ⟨s, s, ?_, ?_, rfl, by omega⟩
    · simp only [four_Threats_L1]; rw [if_neg (by simp)]
    · simp only [gameroomref_ThreatsOf_L1]; rw [if_neg (by simp)])
  obtain ⟨r1, r2, k1, k2, rfl, hl⟩ := key
  have k1' : loop (four_Threats_L1 who k (W, H, c, m)) (c, [], 0) = some r1 := k1
  have k2' : loop (gameroomref_ThreatsOf_L1 W H c who k) ([], 0) = some r1 := k2
  simp only
  rw [k1', k2']
  exact ⟨r1, rfl, rfl, hl⟩

theorem drop_both (col : Int) (hl' : c.length ≤ 17592186044416) (h1 : okW W H c = true) : ∃ d : Int × Int × List Int × Int, four_Drop_m W H c col k = some d ∧ gameroomref_DropOf_m W H c col k = some d ∧ d.2.2.1.length ≤ 300 := by
  have hg : okG W H c = true := by
    unfold okW at h1
    rw [Bool.and_eq_true] at h1
    exact h1.1
  have D := okG_dm hg
  have hsm := D.small
  have hW := D.w
  have hH := D.h
  obtain ⟨m, ho⟩ := opened_p W H hl'
  unfold four_Drop_m gameroomref_DropOf_m gameroomref_within_m
  rw [ho, if_pos h1]
  simp only [Option.bind_some, Fl.elim2]
  unfold four_Drop_J2 four_far_m
  simp only [Option.bind_some]
  by_cases hk : 1 ≤ k ∧ k ≤ 10
  · have B : Bd W H c k := ⟨D.w, D.h, D.len, hk⟩
    rw [if_neg (show ¬ (decide (k < 1) || decide (10 < k)) = true by simp; omega), if_neg (show ¬ (!(decide (1 ≤ k) && decide (k ≤ 10))) = true by simp; omega), mover_f hg, Option.bind_some]
    unfold gameroomref_DropOf_J1
    rw [mover_eq W H hl', Option.bind_some]
    by_cases h3 : (moverG c == 0) = true
    · rw [if_pos h3, if_pos h3]
      exact ⟨_, rfl, rfl, by simp⟩
    rw [if_neg h3, if_neg h3, over_p B hg, Option.bind_some]
    unfold gameroomref_DropOf_J2
    rw [WonOf_eq B, Option.bind_some]
    simp only
    by_cases h4 : 0 < wonN W H c k
    · rw [if_pos (decide_eq_true h4), if_pos (decide_eq_true h4)]
      exact ⟨_, rfl, rfl, by simp⟩
    have n4 : ¬ (decide (0 < wonN W H c k)) = true := by rw [decide_eq_true_eq]; exact h4
    rw [if_neg n4, if_neg n4]
    unfold gameroomref_DropOf_J3 gameroomref_within_m
    rw [Option.bind_some, w64_of (x := W - 1) (by omega)]
    by_cases h5 : 0 ≤ col ∧ col < W
    · rw [if_neg (show ¬ (decide (col < 0) || decide (W ≤ col)) = true by simp; omega), if_neg (show ¬ (!(decide (0 ≤ col) && decide (col ≤ W - 1))) = true by simp; omega)]
      unfold four_Drop_J3 gameroomref_DropOf_J4
      simp only
      rw [fall_p D h5, fallTo_r D h5, Option.bind_some, Option.bind_some]
      rcases fallN_at D (c := c) (col := col) h5 H.toNat (by omega) with hf | ⟨hf1, hf2, hf3⟩
      · rw [hf, if_pos (by decide), if_pos (by decide)]
        exact ⟨_, rfl, rfl, by simp⟩
      · rw [if_neg (by simp; omega), if_neg (by simp; omega)]
        unfold four_Drop_J4 gameroomref_DropOf_J5 four_Drop_J5
        simp only
        rw [mover_f hg, Option.bind_some, gridOf_r hl', Option.bind_some]
        simp only
        rw [asrt_pos ⟨hf1, hf2⟩]
        exact ⟨_, rfl, rfl, by simp; omega⟩
    · rw [if_pos (show (decide (col < 0) || decide (W ≤ col)) = true by simp only [Bool.or_eq_true, decide_eq_true_eq]; omega), if_pos (show (!(decide (0 ≤ col) && decide (col ≤ W - 1))) = true by simp only [Bool.not_eq_true', Bool.and_eq_false_iff, decide_eq_false_iff_not]; omega)]
      exact ⟨_, rfl, rfl, by simp⟩
  · rw [if_pos (show (decide (k < 1) || decide (10 < k)) = true by simp only [Bool.or_eq_true, decide_eq_true_eq]; omega), if_pos (show (!(decide (1 ≤ k) && decide (k ≤ 10))) = true by simp only [Bool.not_eq_true', Bool.and_eq_false_iff, decide_eq_false_iff_not]; omega)]
    exact ⟨_, rfl, rfl, by simp⟩
end

theorem true_FourDrops (W H : Int) (c : List Int) (col k who : Int) (_hw : inI W) (_hh : inI H) (hl : c.length ≤ 17592186043904) (_hy : ∀ y ∈ c, inI y) (_h0 : inI col) (_h1 : inI k) (_h2 : inI who) : gameroomlaw_FourDrops_m W H c col k who = some true := by
  have hl' : c.length ≤ 17592186044416 := by omega
  unfold gameroomlaw_FourDrops_m
  rw [gridOf_r hl', Option.bind_some]
  simp only [Option.bind_some]
  obtain ⟨m, ho⟩ := opened_p W H hl'
  by_cases h1 : okW W H c = true
  · obtain ⟨d, d1, d2, d3⟩ := drop_both (k := k) col hl' h1
    have hg : okG W H c = true := by
      unfold okW at h1
      rw [Bool.and_eq_true] at h1
      exact h1.1
    have D := okG_dm hg
    rw [d1, Option.bind_some]
    have fin : ∀ r4 : List Int × Int, (gameroomlaw_FourDrops_J2 W H c k who r4 = some true) → gameroomlaw_FourDrops_J1 W H c col k who d r4 = some true := by
      intro r4 h
      unfold gameroomlaw_FourDrops_J1 gameroomref_SameGrid_m
      rw [d2, Option.bind_some]
      simp only [bne_self_eq_false, beq_self_eq_true, Bool.and_self, if_true, Bool.not_false]
      rw [sameInts_r (by omega), decide_eq_true rfl]
      simp only [Option.bind_some, Bool.and_self, Bool.not_true, Bool.or_self, Bool.false_eq_true, if_false]
      exact h
    unfold four_Threats_m four_far_m
    rw [ho, if_pos h1, wellMay_r W H hl', h1]
    simp only [Option.bind_some, Fl.elim2, Bool.not_true, Bool.false_eq_true, if_false]
    by_cases h2 : (decide (k < 1) || decide ((10 : Int) < k)) = true
    · rw [if_pos h2, Option.bind_some]
      refine fin _ ?_
      unfold gameroomlaw_FourDrops_J2
      rw [if_pos h2]
      rfl
    rw [if_neg h2]
    by_cases h3 : ((who != 1) && (who != 2)) = true
    · rw [if_pos h3, Option.bind_some]
      refine fin _ ?_
      unfold gameroomlaw_FourDrops_J2
      rw [if_neg h2, if_pos h3]
      rfl
    rw [if_neg h3]
    have hk : 1 ≤ k ∧ k ≤ 10 := by
      simp only [Bool.or_eq_true, decide_eq_true_eq, not_or] at h2
      omega
    have hwho : who = 1 ∨ who = 2 := by
      simp only [Bool.and_eq_true, bne_iff_ne] at h3
      omega
    obtain ⟨l, t1, t2, t3⟩ := threats_both (c := c) ⟨D.w, D.h, D.len, hk⟩ hwho m
    rw [t1, Option.bind_some]
    refine fin _ ?_
    unfold gameroomlaw_FourDrops_J2
    rw [if_neg h2, if_neg h3]
    unfold gameroomlaw_FourDrops_J3
    rw [if_neg (by decide)]
    unfold gameroomlaw_FourDrops_J4
    simp only
    rw [if_pos (by decide), t2, Option.bind_some, if_pos (by decide), sameInts_eq (by omega), decide_eq_true rfl]
    rfl
  · rw [Bool.not_eq_true] at h1
    unfold four_Drop_m four_Threats_m
    rw [ho, wellMay_r W H hl', h1]
    rfl
end Go.Proofs.Ytogecbgngnjhgaa
