/-
  Hex: the shortest way, as the document reckons it.
-/
import Derived.Test.YtfmmlmiakkjaiaaHGd
import Derived.Test.YtfmmlmiakkjaiaaHSb
namespace Go.Proofs.Ytfmmlmiakkjaiaa
open Go Go.GL

theorem sumN_upd {f g : Nat → Nat} {b : Nat} : ∀ n, b < n → (∀ i, i < n → i ≠ b → g i = f i) → sumN g n + f b = sumN f n + g b
  | 0, h, _ => by omega
  | n + 1, h, he => by
    by_cases e : b = n
    · subst e
      have : sumN g b = sumN f b := sumN_congr fun i hi => he i (by omega) (by omega)
      simp only [sumN]; omega
    · have := sumN_upd n (by omega) (fun i hi hb => he i (by omega) hb)
      have := he n (by omega) (by omega)
      simp only [sumN]; omega
theorem sumN_one {f : Nat → Nat} {b : Nat} : ∀ n, b < n → f b ≤ sumN f n
  | 0, h => by omega
  | n + 1, h => by
    by_cases e : b = n
    · subst e; simp only [sumN]; omega
    · have := sumN_one (f := f) n (show b < n by omega)
      simp only [sumN]; omega
theorem sumN_bd {f : Nat → Nat} {k : Nat} : ∀ n, (∀ i, i < n → f i ≤ k) → sumN f n ≤ n * k
  | 0, _ => by simp [sumN]
  | n + 1, h => by
    have := sumN_bd n (fun i hi => h i (by omega))
    have := h n (by omega)
    simp only [sumN, Nat.add_mul]; omega

section
variable {W : Int} {c : List Int} {who : Int}

def okS (c : List Int) (who : Int) (b : Nat) : Prop := b < c.length ∧ geti c b ≠ 3 - who
instance (b : Nat) : Decidable (okS c who b) := by unfold okS; infer_instance
def costS (c : List Int) (who : Int) (b : Nat) : Nat := if geti c b = who then 0 else 1
theorem costS_le (b : Nat) : costS c who b ≤ 1 := by unfold costS; split <;> omega
def WayS (W : Int) (c : List Int) (who : Int) : Nat → Nat → Prop := WayC (HA W) (fun b => sdW W who b = 0) (okS c who) (costS c who)
def goalS (W : Int) (c : List Int) (who : Int) (b : Nat) : Prop := b < c.length ∧ sdW W who b = W - 1

theorem WayS.ok {n b : Nat} (h : WayS W c who n b) : okS c who b := by
  cases h with
  | start _ h => exact h
  | step _ _ h => exact h

/-- The document's costs. -/
structure CostOk (c : List Int) (who : Int) (cost : List Int) : Prop where
  len : cost.length = c.length
  yes : ∀ b : Nat, okS c who b → geti cost b = costS c who b
  no : ∀ b : Nat, b < c.length → ¬ okS c who b → geti cost b = 1000000

def finS (far : List Int) (b : Nat) : Nat := if geti far b < 1000000 then 1 else 0

structure FI (W : Int) (c : List Int) (who : Int) (far : List Int) : Prop where
  len : far.length = c.length
  bd : ∀ b : Nat, b < c.length → 0 ≤ geti far b ∧ geti far b ≤ 1000000
  fin : ∀ b : Nat, b < c.length → geti far b < 1000000 → geti far b ≤ sumN (finS far) c.length ∧ WayS W c who (geti far b).toNat b
  st : ∀ b : Nat, okS c who b → sdW W who b = 0 → geti far b ≤ costS c who b

theorem FI.cnt {far : List Int} (_h : FI W c who far) : sumN (finS far) c.length ≤ c.length := by
  have := sumN_bd (f := finS far) (k := 1) c.length (fun i _ => by unfold finS; split <;> omega)
  omega

theorem FI.relax {far : List Int} (h : FI W c who far) {a b : Nat} (ha : a < c.length) (hb : okS c who b) (hf : geti far a < 1000000) (had : HA W a b) (hlt : geti far a + costS c who b < geti far b) : FI W c who (far.set b (geti far a + costS c who b)) := by
  have hbl := hb.1
  have hl := h.len
  obtain ⟨h1, h2⟩ := h.fin a ha hf
  have hba := h.bd a ha
  have hbb := h.bd b hbl
  have hcb := costS_le (c := c) (who := who) b
  have hset : ∀ d : Nat, geti (far.set b (geti far a + costS c who b)) (d : Int) = if d = b then geti far a + costS c who b else geti far d := by
    intro d
    rw [geti_set' (by omega) (by omega)]
    by_cases e : d = b
    · subst e; simp
    · rw [if_neg (by omega), if_neg e]
  have hc := sumN_upd (f := finS far) (g := finS (far.set b (geti far a + costS c who b))) c.length hbl (fun i hi e => by unfold finS; rw [hset, if_neg e])
  have e1 : finS (far.set b (geti far a + costS c who b)) b = 1 := by unfold finS; rw [hset, if_pos rfl, if_pos (by omega)]
  have hge : finS far b ≤ 1 := by unfold finS; split <;> omega
  refine ⟨by simpa using hl, fun d hd => ?_, fun d hd hfd => ?_, fun d hd hs => ?_⟩
  · rw [hset]
    by_cases e : d = b
    · rw [if_pos e]; omega
    · rw [if_neg e]; exact h.bd d hd
  · rw [hset] at hfd ⊢
    by_cases e : d = b
    · subst e
      rw [if_pos rfl]
      refine ⟨?_, ?_⟩
      · by_cases q : geti far d < 1000000
        · have := (h.fin d hd q).1
          omega
        · have : finS far d = 0 := by unfold finS; rw [if_neg q]
          omega
      · have := WayC.step h2 had hb
        rw [show (geti far a + (costS c who d : Nat)).toNat = (geti far a).toNat + costS c who d by omega]
        exact this
    · rw [if_neg e] at hfd ⊢
      have := (h.fin d hd hfd).1
      exact ⟨by omega, (h.fin d hd hfd).2⟩
  · rw [hset]
    by_cases e : d = b
    · subst e
      have := h.st d hd hs
      rw [if_pos rfl]; omega
    · rw [if_neg e]; exact h.st d hd hs

def PF (W : Int) (c : List Int) (who : Int) (f0 : List Int) (D : Nat → Nat → Prop) (s : List Int × Bool) : Prop :=
  (∀ b : Nat, b < c.length → geti s.1 b ≤ geti f0 b) ∧ (s.2 = true → ∃ b : Nat, b < c.length ∧ geti s.1 b < geti f0 b) ∧ (s.2 = false → s.1 = f0 ∧ ∀ a b : Nat, D a b → a < c.length → geti f0 a < 1000000 → okS c who b → HA W a b → geti f0 b ≤ geti f0 a + costS c who b)

theorem relax_b (B : Dm W W c) {cost : List Int} (hC : CostOk c who cost) {f0 : List Int} {a : Nat} (ha : a < c.length) {s : List Int × Bool} (hI : FI W c who s.1) (hP : PF W c who f0 (fun a' _ => a' < a) s) :
    ∃ s', loop (gameroomref_HexShortest_L4 W c cost a) (s.1, s.2, 0) = some s' ∧ FI W c who s'.1 ∧ PF W c who f0 (fun a' _ => a' < a + 1) s' := by
  classical
  have hsm := B.small
  have key := count_loop (step := gameroomref_HexShortest_L4 W c cost a) (fun (s : List Int × Bool) (i : Nat) => (s.1, s.2, (i : Int))) (fun n s => FI W c who s.1 ∧ PF W c who f0 (fun a' b' => a' < a ∨ (a' = a ∧ b' < n)) s) (fun s => FI W c who s.1 ∧ PF W c who f0 (fun a' _ => a' < a + 1) s) c.length s ⟨hI, hP.1, hP.2.1, fun h => ⟨(hP.2.2 h).1, fun a' b' hd => (hP.2.2 h).2 a' b' (by omega)⟩⟩ (by
    rintro i ⟨g, ch⟩ hi ⟨h1, h3, h4, h5⟩
    left
    simp only at h1 h3 h4 h5 ⊢
    have hl : g.length = c.length := h1.len
    have hba := h1.bd a ha
    have hbi := h1.bd i hi
    have hcnt := h1.cnt
    have hci : geti cost i = if okS c who i then (costS c who i : Int) else 1000000 := by
      by_cases q : okS c who i
      · rw [if_pos q]; exact hC.yes i q
      · rw [if_neg q]; exact hC.no i hi q
    have hc1 := costS_le (c := c) (who := who) i
    have hok : (geti cost i < 1000000) ↔ okS c who i := by
      rw [hci]; split <;> simp_all <;> omega
    simp only [gameroomref_HexShortest_L4]
    rw [if_pos (decide_eq_true (by omega))]
    unfold gameroomref_HexShortest_J11 gameroomref_HexShortest_J12
    rw [asrt_pos (by omega), asrt_pos (fun _ => by omega), hexNear_r B ha hi, w64_of (x := (i : Int) + 1) (by omega), Int.toNat_natCast]
    have e : (if (decide (geti g (a : Int) < 1000000) && decide (geti cost (i : Int) < 1000000)) = true then some (decide (HA W a i)) else some false) = some (if (decide (geti g (a : Int) < 1000000) && decide (geti cost (i : Int) < 1000000)) = true then decide (HA W a i) else false) := by
      split <;> rfl
    rw [e, Option.bind_some, asrt_pos (fun _ => by omega), asrt_pos (fun _ => by omega), asrt_pos (fun _ => by omega)]
    by_cases hq : (geti g a < 1000000 ∧ okS c who i ∧ HA W a i) ∧ geti g a + costS c who i < geti g i
    · obtain ⟨⟨q1, q2, q3⟩, q4⟩ := hq
      have hfa := h1.fin a ha q1
      have hce : geti cost i = costS c who i := hC.yes i q2
      rw [hce, w64_of (x := geti g a + (costS c who i : Nat)) (by omega), if_pos (by
        rw [decide_eq_true q3, decide_eq_true q4, decide_eq_true q1, decide_eq_true (show ((costS c who i : Nat) : Int) < 1000000 by omega)]
        rfl), asrt_pos (by omega), asrt_pos (by omega), asrt_pos (by omega)]
      have hset : ∀ d : Nat, geti (g.set i (geti g a + costS c who i)) (d : Int) = if d = i then geti g a + costS c who i else geti g d := by
        intro d
        rw [geti_set' (by omega) (by omega)]
        by_cases e : d = i
        · subst e; simp
        · rw [if_neg (by omega), if_neg e]
      refine ⟨(g.set i (geti g a + costS c who i), true), rfl, h1.relax ha q2 q1 q3 q4, fun b hb => ?_, fun _ => ?_, fun h => by cases h⟩
      · rw [hset]
        have := h3 b hb
        by_cases e : b = i
        · subst e; rw [if_pos rfl]; omega
        · rw [if_neg e]; exact this
      · have := h3 i hi
        refine ⟨i, hi, ?_⟩
        simp only
        rw [hset, if_pos rfl]; omega
    · rw [if_neg (by
        intro h
        simp only [Bool.and_eq_true, decide_eq_true_eq] at h
        obtain ⟨⟨⟨r1, r2⟩, r3⟩, r4⟩ := h
        rw [if_pos ⟨r1, r2⟩, decide_eq_true_eq] at r3
        have hfa := h1.fin a ha r1
        have hce : geti cost i = costS c who i := hC.yes i (hok.1 r2)
        rw [hce, w64_of (by omega)] at r4
        exact hq ⟨⟨r1, hok.1 r2, r3⟩, r4⟩)]
      refine ⟨(g, ch), rfl, h1, h3, h4, fun hc => ⟨(h5 hc).1, fun a' b' hd m1 m2 m3 had => ?_⟩⟩
      have hg := (h5 hc).1
      rcases Classical.em (a' < a ∨ (a' = a ∧ b' < i)) with h6 | h6
      · exact (h5 hc).2 a' b' h6 m1 m2 m3 had
      · obtain rfl : a' = a := by omega
        obtain rfl : b' = i := by omega
        rw [← hg] at m2 ⊢
        have : ¬ geti g a' + costS c who b' < geti g b' := fun h => hq ⟨⟨m2, m3, had⟩, h⟩
        omega) (by
    rintro ⟨g, ch⟩ ⟨h1, h3, h4, h5⟩
    refine ⟨(g, ch), ?_, h1, h3, h4, fun hc => ⟨(h5 hc).1, fun a' b' hd m1 m2 m3 had => (h5 hc).2 a' b' ?_ m1 m2 m3 had⟩⟩
    · simp only [gameroomref_HexShortest_L4]
      rw [if_neg (by simp)]
    · have := m3.1
      omega)
  obtain ⟨s', hs, h⟩ := key
  exact ⟨s', hs, h⟩

theorem relax_a (B : Dm W W c) {cost : List Int} (hC : CostOk c who cost) {f0 : List Int} (hI : FI W c who f0) :
    ∃ s', loop (gameroomref_HexShortest_L3 W c cost) (f0, false, 0) = some s' ∧ FI W c who s'.1 ∧ PF W c who f0 (fun _ _ => True) s' := by
  have hsm := B.small
  have key := count_loop (step := gameroomref_HexShortest_L3 W c cost) (fun (s : List Int × Bool) (i : Nat) => (s.1, s.2, (i : Int))) (fun n s => FI W c who s.1 ∧ PF W c who f0 (fun a' _ => a' < n) s) (fun s => FI W c who s.1 ∧ PF W c who f0 (fun _ _ => True) s) c.length (f0, false) ⟨hI, fun _ _ => Int.le_refl _, (fun h => by cases h), fun _ => ⟨rfl, fun a b hd => by omega⟩⟩ (by
    rintro i s hi ⟨h1, h2⟩
    left
    obtain ⟨s', k1, k2, k3⟩ := relax_b B hC hi h1 h2
    refine ⟨s', ?_, k2, k3⟩
    simp only [gameroomref_HexShortest_L3]
    rw [if_pos (decide_eq_true (by omega))]
    unfold gameroomref_HexShortest_J9
    rw [k1, Option.bind_some]
    simp only [gameroomref_HexShortest_K4, gameroomref_HexShortest_J10]
    rw [w64_of (by omega)]
    rfl) (by
    rintro s ⟨h1, h3, h4, h5⟩
    refine ⟨s, ?_, h1, h3, h4, fun hc => ⟨(h5 hc).1, fun a' b' _ m1 m2 m3 had => (h5 hc).2 a' b' m1 m1 m2 m3 had⟩⟩
    simp only [gameroomref_HexShortest_L3]
    rw [if_neg (by simp)])
  obtain ⟨s', hs, h⟩ := key
  exact ⟨s', hs, h⟩

/-- Settled. -/
def FinF (W : Int) (c : List Int) (who : Int) (g : List Int) : Prop := FI W c who g ∧ ∀ a b : Nat, a < c.length → geti g a < 1000000 → okS c who b → HA W a b → geti g b ≤ geti g a + costS c who b

theorem settleF (B : Dm W W c) {cost : List Int} (hC : CostOk c who cost) : ∀ (k : Nat) (g : List Int), FI W c who g → sumN (fun b => (geti g (b : Int)).toNat) c.length < k → ∃ g', loop (gameroomref_HexShortest_L2 W c cost) (g, true) = some g' ∧ FinF W c who g'
  | 0, _, _, h => by omega
  | k + 1, g, hI, hk => by
    obtain ⟨⟨g1, ch⟩, k1, k2, k3, k4, k5⟩ := relax_a B hC hI
    have e1 : gameroomref_HexShortest_L2 W c cost (g, true) = some (.next (g1, ch)) := by
      simp only [gameroomref_HexShortest_L2, if_true]
      unfold gameroomref_HexShortest_J8
      rw [k1, Option.bind_some]
      rfl
    cases ch with
    | false =>
      obtain ⟨q1, q2⟩ := k5 rfl
      simp only at q1 k2
      subst q1
      refine ⟨g1, loop_next' e1 (loop_done (by simp [gameroomref_HexShortest_L2])), k2, fun a b m1 m2 m3 had => q2 a b trivial m1 m2 m3 had⟩
    | true =>
      obtain ⟨b, hb, hlt⟩ := k4 rfl
      have hlt' : sumN (fun b => (geti g1 (b : Int)).toNat) c.length < sumN (fun b => (geti g (b : Int)).toNat) c.length := by
        refine sumN_lt _ (fun i hi => ?_) ⟨b, hb, ?_⟩
        · have := k3 i hi
          simp only at this
          omega
        · have := (k2.bd b hb)
          simp only at this hlt
          omega
      obtain ⟨g', r1, r2⟩ := settleF B hC k g1 k2 (by omega)
      exact ⟨g', loop_next' e1 r1, r2⟩

theorem FinF.le {g : List Int} (h : FinF W c who g) {n b : Nat} (hw : WayS W c who n b) : geti g b < 1000000 ∧ geti g b ≤ n ∨ 1000 < c.length := by
  by_cases hl : 1000 < c.length
  · exact .inr hl
  left
  have hcnt := h.1.cnt
  induction hw with
  | @start b h1 h2 =>
    have := h.1.st _ h2 h1
    have := costS_le (c := c) (who := who) b
    omega
  | @step n a b h1 h2 h3 ih =>
    have ha : a < c.length := (WayS.ok h1).1
    have k1 := h.2 _ _ ha ih.1 h3 h2
    have k2 := (h.1.fin _ ha ih.1).1
    have := costS_le (c := c) (who := who) b
    refine ⟨?_, ?_⟩
    · omega
    · omega

theorem sd_r (B : Dm W W c) (hw : who = 1 ∨ who = 2) {b : Nat} (hb : b < c.length) {α : Type} (f : Int → Option α) : (if (who == 2) = true then asrt (W ≠ 0) (f (Int.tmod b W)) else f (w64 (Int.tdiv b W))) = f (sdW W who b) := by
  have hW := B.w
  obtain ⟨x1, y1, _⟩ := B.xy (p := (b : Int)) (by omega)
  rw [asrt_pos (by omega), Int.tmod_eq_emod_of_nonneg (by omega), Int.tdiv_eq_ediv_of_nonneg (by omega), w64_of (by omega)]
  unfold sdW
  rcases hw with rfl | rfl <;> rfl

theorem init_r (B : Dm W W c) (hw : who = 1 ∨ who = 2) (hc : ∀ i : Nat, i < c.length → 0 ≤ geti c i ∧ geti c i ≤ 2) :
    ∃ cost far, loop (gameroomref_HexShortest_L1 W c who) (List.replicate c.length 0, List.replicate c.length 0, 0) = some (cost, far) ∧ CostOk c who cost ∧ FI W c who far := by
  have hsm := B.small
  have hW := B.w
  have key := count_loop (step := gameroomref_HexShortest_L1 W c who) (fun (s : List Int × List Int) (i : Nat) => (s.1, s.2, (i : Int)))
    (fun n s => s.1.length = c.length ∧ s.2.length = c.length ∧ ∀ b : Nat, b < n → geti s.1 b = (if okS c who b then (costS c who b : Int) else 1000000) ∧ geti s.2 b = (if okS c who b ∧ sdW W who b = 0 then (costS c who b : Int) else 1000000))
    (fun s => s.1.length = c.length ∧ s.2.length = c.length ∧ ∀ b : Nat, b < c.length → geti s.1 b = (if okS c who b then (costS c who b : Int) else 1000000) ∧ geti s.2 b = (if okS c who b ∧ sdW W who b = 0 then (costS c who b : Int) else 1000000)) c.length (List.replicate c.length 0, List.replicate c.length 0) ⟨by simp, by simp, fun b hb => by omega⟩ (by
      rintro i ⟨g, f⟩ hi ⟨h1, h2, h3⟩
      left
      simp only at h1 h2 h3
      have hci := hc i hi
      have hb1 := costS_le (c := c) (who := who) i
      simp only [gameroomref_HexShortest_L1]
      rw [if_pos (decide_eq_true (by omega))]
      unfold gameroomref_HexShortest_J2 gameroomref_HexShortest_J4
      rw [asrt_pos (by omega), asrt_pos (by omega), asrt_pos (by omega), asrt_pos (by omega), w64_of (x := 3 - who) (by omega), Int.toNat_natCast]
      simp only [asrt_pos (show 0 ≤ (i : Int) ∧ (i : Int) < (c.length : Int) by omega)]
      have fin : ∀ g' : List Int, g'.length = c.length → (∀ d : Nat, geti g' d = if d = i then (if okS c who i then (costS c who i : Int) else 1000000) else geti g d) → ∃ s', gameroomref_HexShortest_J5 W c who f i g' = some (.next ((fun (s : List Int × List Int) (i : Nat) => (s.1, s.2, (i : Int))) s' (i + 1))) ∧ s'.1.length = c.length ∧ s'.2.length = c.length ∧ ∀ b : Nat, b < i + 1 → geti s'.1 b = (if okS c who b then (costS c who b : Int) else 1000000) ∧ geti s'.2 b = (if okS c who b ∧ sdW W who b = 0 then (costS c who b : Int) else 1000000) := by
        intro g' hg' hge
        unfold gameroomref_HexShortest_J5
        rw [asrt_pos (by omega), sd_r B hw hi (fun d => gameroomref_HexShortest_J6 c f i g' d)]
        unfold gameroomref_HexShortest_J6 gameroomref_HexShortest_J3
        rw [asrt_pos (fun _ => by omega), w64_of (x := (i : Int) + 1) (by omega), Int.toNat_natCast, asrt_pos (by omega), asrt_pos (by omega)]
        have hgi : geti g' i = if okS c who i then (costS c who i : Int) else 1000000 := by rw [hge, if_pos rfl]
        have hset : ∀ (v : Int) (d : Nat), geti (f.set i v) (d : Int) = if d = i then v else geti f d := by
          intro v d
          rw [geti_set' (by omega) (by omega)]
          by_cases e : d = i
          · subst e; simp
          · rw [if_neg (by omega), if_neg e]
        have hlt : geti g' i < 1000000 ↔ okS c who i := by
          rw [hgi]; split <;> simp_all <;> omega
        by_cases hq : okS c who i ∧ sdW W who i = 0
        · rw [if_pos (by
            rw [Bool.and_eq_true, decide_eq_true_eq, beq_iff_eq]
            exact ⟨hq.2, hlt.2 hq.1⟩), List.set_set]
          refine ⟨(g', f.set i (geti g' i)), rfl, hg', by simpa using h2, fun b hb => ?_⟩
          simp only
          rw [hge, hset]
          by_cases e : b = i
          · subst e
            rw [if_pos rfl, if_pos rfl, hgi, if_pos hq.1, if_pos hq]
            exact ⟨rfl, rfl⟩
          · rw [if_neg e, if_neg e]
            exact h3 b (by omega)
        · rw [if_neg (by
            rw [Bool.and_eq_true, decide_eq_true_eq, beq_iff_eq]
            exact fun h => hq ⟨hlt.1 h.2, h.1⟩)]
          refine ⟨(g', f.set i 1000000), rfl, hg', by simpa using h2, fun b hb => ?_⟩
          simp only
          rw [hge, hset]
          by_cases e : b = i
          · subst e
            rw [if_pos rfl, if_pos rfl, if_neg hq]
            exact ⟨rfl, rfl⟩
          · rw [if_neg e, if_neg e]
            exact h3 b (by omega)
      have hsetg : ∀ (v : Int) (d : Nat), geti (g.set i v) (d : Int) = if d = i then v else geti g d := by
        intro v d
        rw [geti_set' (by omega) (by omega)]
        by_cases e : d = i
        · subst e; simp
        · rw [if_neg (by omega), if_neg e]
      have hne : who ≠ 3 - who := by omega
      by_cases q1 : geti c i = who
      · have q2 : ¬ geti c i = 3 - who := by omega
        have hok : okS c who i := ⟨hi, q2⟩
        rw [if_pos (by rw [beq_iff_eq]; exact q1), if_neg (by rw [beq_iff_eq]; exact q2), List.set_set]
        refine fin _ (by simpa using h1) fun d => ?_
        rw [Int.toNat_natCast, hsetg, if_pos hok]
        unfold costS
        rw [if_pos q1]
        rfl
      · rw [if_neg (by rw [beq_iff_eq]; exact q1)]
        by_cases q2 : geti c i = 3 - who
        · have hok : ¬ okS c who i := fun h => h.2 q2
          rw [if_pos (by rw [beq_iff_eq]; exact q2), List.set_set]
          refine fin _ (by simpa using h1) fun d => ?_
          rw [Int.toNat_natCast, hsetg, if_neg hok]
        · have hok : okS c who i := ⟨hi, q2⟩
          rw [if_neg (by rw [beq_iff_eq]; exact q2)]
          refine fin _ (by simpa using h1) fun d => ?_
          rw [Int.toNat_natCast, hsetg, if_pos hok]
          unfold costS
          rw [if_neg q1]
          rfl) (by
      rintro ⟨g, f⟩ h
      refine ⟨(g, f), ?_, h⟩
      simp only [gameroomref_HexShortest_L1]
      rw [if_neg (by simp)])
  obtain ⟨⟨cost, far⟩, hr, h1, h2, h3⟩ := key
  simp only at h1 h2 h3
  refine ⟨cost, far, hr, ⟨h1, fun b hb => ?_, fun b hb hn => ?_⟩, ⟨h2, fun b hb => ?_, fun b hb hf => ?_, fun b hb hs => ?_⟩⟩
  · rw [(h3 b hb.1).1, if_pos hb]
  · rw [(h3 b hb).1, if_neg hn]
  · rw [(h3 b hb).2]
    have := costS_le (c := c) (who := who) b
    split <;> omega
  · have hone := sumN_one (f := finS far) c.length hb
    have e1 : finS far b = 1 := by unfold finS; rw [if_pos hf]
    rw [(h3 b hb).2] at hf ⊢
    by_cases q : okS c who b ∧ sdW W who b = 0
    · rw [if_pos q]
      have := costS_le (c := c) (who := who) b
      refine ⟨by omega, ?_⟩
      rw [Int.toNat_natCast]
      exact WayC.start q.2 q.1
    · rw [if_neg q] at hf
      omega
  · rw [(h3 b hb.1).2, if_pos ⟨hb, hs⟩]
    exact Int.le_refl _

theorem shortest_r (B : Dm W W c) (H : Int) (hw : who = 1 ∨ who = 2) (hc : ∀ i : Nat, i < c.length → 0 ≤ geti c i ∧ geti c i ≤ 2) :
    ∃ k, gameroomref_HexShortest_m W H c who = some k ∧ AnsS (WayS W c who) (goalS W c who) k := by
  have hsm := B.small
  have hW := B.w
  obtain ⟨cost, far, hr, hC, hF⟩ := init_r B hw hc
  obtain ⟨g, k1, k2⟩ := settleF B hC _ far hF (Nat.lt_succ_self _)
  unfold gameroomref_HexShortest_m
  rw [asrt_pos (by unfold bigN; omega), asrt_pos (by unfold bigN; omega), Int.toNat_natCast, hr, Option.bind_some]
  simp only [gameroomref_HexShortest_K1]
  unfold gameroomref_HexShortest_J1
  rw [k1, Option.bind_some]
  simp only [gameroomref_HexShortest_K2]
  unfold gameroomref_HexShortest_J7
  have key := count_loop (step := gameroomref_HexShortest_L5 W c who g) (fun (s : Int) (i : Nat) => (s, (i : Int)))
    (fun n s => (s ≤ 1000000 ∧ ∀ b : Nat, b < n → sdW W who b = W - 1 → s ≤ geti g b) ∧ (s < 1000000 → ∃ b : Nat, b < c.length ∧ sdW W who b = W - 1 ∧ geti g b = s))
    (fun s => (s ≤ 1000000 ∧ ∀ b : Nat, b < c.length → sdW W who b = W - 1 → s ≤ geti g b) ∧ (s < 1000000 → ∃ b : Nat, b < c.length ∧ sdW W who b = W - 1 ∧ geti g b = s)) c.length 1000000 ⟨⟨by omega, fun b hb => by omega⟩, fun h => by omega⟩ (by
      rintro i s hi ⟨⟨h0, h1⟩, h2⟩
      left
      have hgl := k2.1.len
      have hbd := k2.1.bd i hi
      simp only [gameroomref_HexShortest_L5]
      rw [if_pos (decide_eq_true (by omega))]
      unfold gameroomref_HexShortest_J14
      rw [asrt_pos (by omega), sd_r B hw hi (fun d => gameroomref_HexShortest_J16 W c g s i d)]
      unfold gameroomref_HexShortest_J16 gameroomref_HexShortest_J15
      rw [asrt_pos (fun _ => by omega), w64_of (x := W - 1) (by omega), w64_of (x := (i : Int) + 1) (by omega), asrt_pos (by omega)]
      by_cases hq : sdW W who i = W - 1 ∧ geti g i < s
      · rw [if_pos (by
          rw [Bool.and_eq_true, decide_eq_true_eq, beq_iff_eq]
          exact hq)]
        refine ⟨geti g i, rfl, ⟨by omega, fun b hb hs => ?_⟩, fun _ => ⟨i, hi, hq.1, rfl⟩⟩
        by_cases e : b = i
        · subst e; exact Int.le_refl _
        · have := h1 b (by omega) hs
          omega
      · rw [if_neg (by
          rw [Bool.and_eq_true, decide_eq_true_eq, beq_iff_eq]
          exact hq)]
        refine ⟨s, rfl, ⟨h0, fun b hb hs => ?_⟩, h2⟩
        by_cases e : b = i
        · subst e
          have : ¬ geti g b < s := fun h => hq ⟨hs, h⟩
          omega
        · exact h1 b (by omega) hs) (by
      rintro s h
      refine ⟨s, ?_, h⟩
      simp only [gameroomref_HexShortest_L5]
      rw [if_neg (by simp)])
  obtain ⟨s, hs, ⟨h0, h1⟩, h2⟩ := key
  have hs' : loop (gameroomref_HexShortest_L5 W c who g) (1000000, 0) = some s := hs
  rw [hs', Option.bind_some]
  simp only [gameroomref_HexShortest_K5]
  unfold gameroomref_HexShortest_J13 gameroomref_HexShortest_J17
  by_cases hq : s = 1000000
  · refine ⟨-1, by rw [if_pos (by rw [beq_iff_eq]; exact hq)], .inl ⟨rfl, fun n b hg hWy => ?_⟩⟩
    have := h1 b hg.1 hg.2
    rcases k2.le hWy with k | k <;> omega
  · refine ⟨s, by rw [if_neg (by rw [beq_iff_eq]; exact hq)], .inr ?_⟩
    obtain ⟨b, hb, hsd, hgb⟩ := h2 (by omega)
    have hbb := k2.1.bd b hb
    have hfin := k2.1.fin b hb (by omega)
    refine ⟨(geti g b).toNat, b, by omega, ⟨hb, hsd⟩, hfin.2, fun m b' hg' hWy => ?_⟩
    have := h1 b' hg'.1 hg'.2
    rcases k2.le hWy with k | k <;> omega
end
end Go.Proofs.Ytfmmlmiakkjaiaa
