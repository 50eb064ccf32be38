/-
  Hex: the program's rounds end, and what they tell is the shortest way.
-/
import Derived.Test.YtgogihcmnkncjaaHSd
namespace Go.Proofs.Ytgogihcmnkncjaa
open Go Go.GL

section
variable {W : Int} {c : List Int} {who : Int}

def kS (c : List Int) (b : Nat) : Nat := if geti c b = 0 then 1 else 0
theorem kS_cost {b : Nat} (hw : who = 1 ∨ who = 2) (hc : 0 ≤ geti c b ∧ geti c b ≤ 2) (hb : okS c who b) : kS c b = costS c who b := by
  have := hb.2
  unfold kS costS
  split <;> split <;> omega
theorem kS_le (b : Nat) : kS c b ≤ 1 := by unfold kS; split <;> omega
theorem cost_p {b : Nat} (H : Int) (hb : b < c.length) (hc : 0 ≤ geti c b ∧ geti c b ≤ 2) : hex_Shortest_1_m (b : Int) W H c = some (kS c b : Int) := by
  unfold hex_Shortest_1_m minI kS
  rw [asrt_pos (by omega)]
  by_cases h : geti c b = 0
  · rw [if_neg (by omega), if_pos h, h]; rfl
  · rw [if_neg h]
    split
    · rfl
    · rw [show geti c b = 1 by omega]; rfl

def ST (W : Int) (c : List Int) (who : Int) (s : List Int × List (List Int)) : Prop := ∀ b : Nat, okS c who b → sdW W who b = 0 → 0 ≤ geti s.1 b ∧ geti s.1 b ≤ costS c who b
theorem ST.mono {s s' : List Int × List (List Int)} (h : ST W c who s) (hle : LeS c s s') : ST W c who s' := fun b hb hs => by
  have h1 := h b hb hs
  have := hle b hb.1 h1.1
  omega
theorem LeS.trans {s1 s2 s3 : List Int × List (List Int)} (h : LeS c s1 s2) (k : LeS c s2 s3) : LeS c s1 s3 := fun d hd h0 => by
  have h1 := h d hd h0
  have := k d hd h1.1
  omega
theorem LeS.put {s : List Int × List (List Int)} (hl : s.1.length = c.length) {b v : Nat} (hb : b < c.length) (hq : ¬ (0 ≤ geti s.1 b ∧ geti s.1 b ≤ v)) (r : List (List Int)) : LeS c s (s.1.set b (v : Int), r) := fun d hd h0 => by
  simp only
  rw [set_at (by omega)]
  by_cases e : d = b
  · subst e
    rw [if_pos rfl]; omega
  · rw [if_neg e]; omega

/-- All neighbours of a place are put. -/
theorem nb_p (B : Dm W W c) (hw : who = 1 ∨ who = 2) (hc : ∀ i : Nat, i < c.length → 0 ≤ geti c i ∧ geti c i ≤ 2) {s0 : List Int × List (List Int)} {n i a : Nat} (h0 : SI W c who s0) (hP : PR W c who s0 n i) (hi : i ≤ (geti2 s0.2 (n : Int)).length) (hn : n < s0.2.length) (ha : a < c.length) (hfa : geti s0.1 a = n) :
    ∃ s, hex_near_1_m (ydOf (fun x s => (hex_Shortest_L4 W W c who (n : Int)) (x, s))) (.next (s0.1, s0.2)) (a : Int) W = some (.next s) ∧ (SI W c who s ∧ PR W c who s n i ∧ LeS c s0 s ∧ (∃ t, geti2 s.2 (n : Int) = geti2 s0.2 (n : Int) ++ t) ∧ geti s.1 a = n ∧ n < s.2.length ∧ (geti2 s.2 (n : Int)).length + sumN (phiS c.length s.1) c.length ≤ (geti2 s0.2 (n : Int)).length + sumN (phiS c.length s0.1) c.length) ∧ ∀ b : Nat, b < c.length → HA W a b → okS c who b → 0 ≤ geti s.1 b ∧ geti s.1 b ≤ n + costS c who b := by
  have hsm := B.small
  refine near_run B (L := fun x s => (hex_Shortest_L4 W W c who (n : Int)) (x, s)) (fun s => SI W c who s ∧ PR W c who s n i ∧ LeS c s0 s ∧ (∃ t, geti2 s.2 (n : Int) = geti2 s0.2 (n : Int) ++ t) ∧ geti s.1 a = n ∧ n < s.2.length ∧ (geti2 s.2 (n : Int)).length + sumN (phiS c.length s.1) c.length ≤ (geti2 s0.2 (n : Int)).length + sumN (phiS c.length s0.1) c.length) (fun b s => okS c who b → 0 ≤ geti s.1 b ∧ geti s.1 b ≤ n + costS c who b) ha (s0.1, s0.2) ⟨h0, hP, fun d _ h => ⟨h, Int.le_refl _⟩, ⟨[], by simp⟩, hfa, hn, Nat.le_refl _⟩ ?_
  rintro b ⟨far, r⟩ hb had ⟨h1, h2, h3, ⟨t, h4⟩, h5, h6, h7⟩
  simp only at h4 h5 h6 h7 ⊢
  have hl := h1.len
  have hrows := h1.rows
  simp only at hl hrows
  have hk1 := kS_le (c := c) b
  simp only [hex_Shortest_L4]
  rw [cost_p W hb (hc b hb), Option.bind_some, w64_of (by omega), show (n : Int) + (kS c b : Nat) = ((n + kS c b : Nat) : Int) by omega, put_p B hw hl hb (by omega) (show r.length ≤ 1000 by omega) (h1.row hsm _), Option.bind_some]
  by_cases q : okS c who b ∧ ¬ (0 ≤ geti far b ∧ geti far b ≤ ((n + kS c b : Nat) : Int))
  · rw [if_pos q]
    obtain ⟨q1, q2⟩ := q
    have hkc := kS_cost hw (hc b hb) q1
    have hWa : WayS W c who (n + kS c b) b := by
      have h8 := (h1.fin a ha (by simp only; omega)).1
      simp only at h8
      rw [h5, Int.toNat_natCast] at h8
      rw [hkc]
      exact WayC.step h8 had q1
    have hS' := h1.put q1 q2 hWa (.inl (by simp only; omega)) (by omega)
    have hle : LeS c (far, r) (far.set b ((n + kS c b : Nat) : Int), addR r (n + kS c b) (b : Int)) := LeS.put (s := (far, r)) hl hb q2 _
    have hpre : i ≤ (geti2 r (n : Int)).length := by rw [h4, List.length_append]; omega
    have hset := set_at (far := far) (b := b) (by omega) ((n + kS c b : Nat) : Int)
    refine ⟨_, rfl, ⟨hS', PR.put h1 h2 hpre hb q2 (by omega), LeS.trans h3 hle, ?_, ?_, ?_, ?_⟩, fun _ => ?_, fun d hd hod => ?_⟩
    · simp only
      rw [geti2_add]
      by_cases e : n = n + kS c b
      · rw [if_pos e, ← e, h4]
        exact ⟨t ++ [(b : Int)], by simp⟩
      · rw [if_neg e]; exact ⟨t, h4⟩
    · simp only
      rw [hset]
      by_cases e : a = b
      · subst e
        rw [h5] at q2
        omega
      · rw [if_neg e]; exact h5
    · simp only
      rw [add_len]; omega
    · simp only
      have hphi := sumN_upd (f := phiS c.length far) (g := phiS c.length (far.set b ((n + kS c b : Nat) : Int))) c.length hb (fun i _ e => by unfold phiS; rw [hset, if_neg e])
      have e2 : phiS c.length (far.set b ((n + kS c b : Nat) : Int)) b = n + kS c b := by unfold phiS; rw [hset, if_pos rfl, if_pos (by omega), Int.toNat_natCast]
      have e3 : n + kS c b + 1 ≤ phiS c.length far b := by
        unfold phiS
        split <;> omega
      have hlr : (geti2 (addR r (n + kS c b) (b : Int)) (n : Int)).length ≤ (geti2 r (n : Int)).length + 1 := by
        rw [geti2_add]
        by_cases e : n = n + kS c b
        · rw [if_pos e, ← e]; simp
        · rw [if_neg e]; omega
      omega
    · simp only
      rw [hset, if_pos rfl, hkc]; omega
    · simp only at hod ⊢
      have h10 := hd hod
      have h11 := hle d hod.1 h10.1
      simp only at h11
      omega
  · rw [if_neg q]
    refine ⟨_, rfl, ⟨h1, h2, h3, ⟨t, h4⟩, h5, h6, h7⟩, fun hob => ?_, fun d hd => hd⟩
    have hkc := kS_cost hw (hc b hb) hob
    have : 0 ≤ geti far b ∧ geti far b ≤ ((n + kS c b : Nat) : Int) := by
      by_cases q2 : 0 ≤ geti far b ∧ geti far b ≤ ((n + kS c b : Nat) : Int)
      · exact q2
      · exact absurd ⟨hob, q2⟩ q
    simp only
    omega

/-- One round. -/
theorem round_p (B : Dm W W c) (hw : who = 1 ∨ who = 2) (hc : ∀ i : Nat, i < c.length → 0 ≤ geti c i ∧ geti c i ≤ 2) (r2 : List Int) (hr2 : r2.length = c.length) (n : Nat) : ∀ (m : Nat) (s : List Int × List (List Int)) (i : Nat), SI W c who s → ST W c who s → PR W c who s n i → i ≤ (geti2 s.2 (n : Int)).length → n < s.2.length → (geti2 s.2 (n : Int)).length + sumN (phiS c.length s.1) c.length - i < m →
    ∃ r, loop (hex_Shortest_L3 W W c who r2 (n : Int)) (s.1, s.2, (i : Int)) = some r ∧ ((∃ s', r = .go s' ∧ SI W c who s' ∧ ST W c who s' ∧ PR W c who s' (n + 1) 0 ∧ n < s'.2.length) ∨ (r = .ret ((n : Int), 0) ∧ AnsS (WayS W c who) (goalS W c who) n))
  | 0, _, _, _, _, _, _, _, h => by omega
  | m + 1, s, i, h1, h2, h3, h4, h5, h6 => by
    have hsm := B.small
    have hW := B.w
    have hrow := h1.row hsm n
    by_cases hil : i < (geti2 s.2 (n : Int)).length
    · have hx := get_geti hil
      obtain ⟨a, ha, hxa, hfa0, hfan⟩ := h1.mem n _ (List.mem_of_getElem? hx)
      have stepE : hex_Shortest_L3 W W c who r2 (n : Int) (s.1, s.2, (i : Int)) = if geti s.1 a < n then some (.next (s.1, s.2, ((i + 1 : Nat) : Int))) else hex_Shortest_J10 W W c who (n : Int) s.1 s.2 (i : Int) := by
        simp only [hex_Shortest_L3]
        rw [asrt_pos (by omega), if_pos (decide_eq_true (by omega))]
        unfold hex_Shortest_J8 hex_Shortest_J9
        rw [hxa, asrt_pos (by omega), asrt_pos (by omega), asrt_pos (by omega), w64_of (by omega)]
        by_cases e : geti s.1 a < n
        · rw [if_pos (decide_eq_true e), if_pos e]; rfl
        · rw [if_neg (by rw [decide_eq_true_eq]; exact e), if_neg e]
      by_cases e : geti s.1 a < n
      · rw [if_pos e] at stepE
        have hP' : PR W c who s n (i + 1) := by
          intro k j hkj b hb hj hf
          by_cases e2 : k = n ∧ j = i
          · obtain ⟨rfl, rfl⟩ := e2
            rw [hx, hxa] at hj
            have : b = a := by have := Option.some.inj hj; omega
            subst this
            omega
          · exact h3 k j (by omega) b hb hj hf
        obtain ⟨r, k1, k2⟩ := round_p B hw hc r2 hr2 n m s (i + 1) h1 h2 hP' (by omega) h5 (by omega)
        exact ⟨r, loop_next' stepE k1, k2⟩
      · rw [if_neg e] at stepE
        have hfa : geti s.1 a = n := by omega
        unfold hex_Shortest_J10 at stepE
        rw [hxa, along_p B ha, Option.bind_some, w64_of (x := W - 1) (by omega)] at stepE
        by_cases hg : sdW W who a = W - 1
        · rw [if_pos (by rw [beq_iff_eq]; exact hg)] at stepE
          refine ⟨_, loop_done stepE, .inr ⟨rfl, .inr ⟨n, a, rfl, ⟨ha, hg⟩, ?_, fun k b hgb hWb => ?_⟩⟩⟩
          · have h8 := (h1.fin a ha hfa0).1
            rw [hfa, Int.toNat_natCast] at h8
            exact h8
          · by_cases hk : k < n
            · have h9 := PR.le h1 h3 h2 hWb (.inl hk)
              exact absurd hgb.2 (h3.use h1 hgb.1 h9.1 (by omega)).2
            · omega
        · rw [if_neg (by rw [beq_iff_eq]; exact hg)] at stepE
          unfold hex_Shortest_J11 hex_near_m at stepE
          rw [hxa, Option.bind_some] at stepE
          obtain ⟨s', k1, ⟨k2, k3, k4, ⟨t, k5⟩, k6, k7, k8⟩, k9⟩ := nb_p B hw hc h1 h3 h4 h5 ha hfa
          simp only at stepE
          rw [k1, Option.bind_some] at stepE
          simp only [hex_Shortest_K4, hex_Shortest_J9] at stepE
          rw [w64_of (by omega)] at stepE
          have hlen' : (geti2 s.2 (n : Int)).length ≤ (geti2 s'.2 (n : Int)).length := by rw [k5, List.length_append]; omega
          have hP' : PR W c who s' n (i + 1) := by
            intro k j hkj b hb hj hf
            by_cases e2 : k = n ∧ j = i
            · obtain ⟨rfl, rfl⟩ := e2
              rw [k5, List.getElem?_append_left hil, hx, hxa] at hj
              have : b = a := by have := Option.some.inj hj; omega
              subst this
              exact ⟨fun d hd hod => k9 d hod.1 hd hod, hg⟩
            · exact k3 k j (by omega) b hb hj hf
          obtain ⟨r, l1, l2⟩ := round_p B hw hc r2 hr2 n m s' (i + 1) k2 (h2.mono k4) hP' (by omega) k7 (by omega)
          exact ⟨r, loop_next' stepE l1, l2⟩
    · refine ⟨.go s, loop_done ?_, .inl ⟨s, rfl, h1, h2, ?_, h5⟩⟩
      · simp only [hex_Shortest_L3]
        rw [asrt_pos (by omega), if_neg (by rw [decide_eq_true_eq]; omega)]
      · intro k j hkj b hb hj hf
        have hkn : k ≤ n := by omega
        by_cases e : k = n
        · subst e
          have := (List.getElem?_eq_some_iff.1 hj).1
          exact h3 k j (.inr ⟨rfl, by omega⟩) b hb hj hf
        · exact h3 k j (.inl (by omega)) b hb hj hf

theorem rounds_p (B : Dm W W c) (hw : who = 1 ∨ who = 2) (hc : ∀ i : Nat, i < c.length → 0 ≤ geti c i ∧ geti c i ≤ 2) (r2 : List Int) (hr2 : r2.length = c.length) : ∀ (m : Nat) (s : List Int × List (List Int)) (n : Nat), SI W c who s → ST W c who s → PR W c who s n 0 → n ≤ s.2.length → c.length + 2 - n < m →
    ∃ r, loop (hex_Shortest_L2 W W c who r2) (s.1, s.2, (n : Int)) = some r ∧ ((r = .go () ∧ AnsS (WayS W c who) (goalS W c who) (-1)) ∨ ∃ k, r = .ret (k, 0) ∧ AnsS (WayS W c who) (goalS W c who) k)
  | 0, _, _, _, _, _, _, h => by omega
  | m + 1, s, n, h1, h2, h3, h4, h5 => by
    have hsm := B.small
    have hrows := h1.rows
    by_cases hn : n < s.2.length
    · obtain ⟨r, k1, k2⟩ := round_p B hw hc r2 hr2 n _ s 0 h1 h2 h3 (by omega) hn (Nat.lt_succ_self _)
      have stepE : hex_Shortest_L2 W W c who r2 (s.1, s.2, (n : Int)) = hex_Shortest_K3 (n : Int) r := by
        simp only [hex_Shortest_L2]
        rw [if_pos (decide_eq_true (by omega))]
        unfold hex_Shortest_J6
        have k1' : loop (hex_Shortest_L3 W W c who r2 (n : Int)) (s.1, s.2, 0) = some r := k1
        rw [k1', Option.bind_some]
      rcases k2 with ⟨s', rfl, l1, l2, l3, l4⟩ | ⟨rfl, l1⟩
      · obtain ⟨r, q1, q2⟩ := rounds_p B hw hc r2 hr2 m s' (n + 1) l1 l2 l3 (by omega) (by omega)
        refine ⟨r, loop_next' ?_ q1, q2⟩
        rw [stepE]
        simp only [hex_Shortest_K3, hex_Shortest_J7, hex_Shortest_J12]
        rw [w64_of (by omega)]
        rfl
      · refine ⟨.ret ((n : Int), 0), loop_done ?_, .inr ⟨_, rfl, l1⟩⟩
        rw [stepE]
        simp only [hex_Shortest_K3]
    · refine ⟨.go (), loop_done ?_, .inl ⟨rfl, .inl ⟨rfl, fun k b hgb hWb => ?_⟩⟩⟩
      · simp only [hex_Shortest_L2]
        rw [if_neg (by rw [decide_eq_true_eq]; omega)]
      · have h9 := PR.le h1 h3 h2 hWb (.inr (by omega))
        have h10 := geti2_pos (h1.fin b hgb.1 h9.1).2
        exact (h3.use h1 hgb.1 h9.1 (by omega)).2 hgb.2

theorem start_p (B : Dm W W c) (hw : who = 1 ∨ who = 2) (hc : ∀ i : Nat, i < c.length → 0 ≤ geti c i ∧ geti c i ≤ 2) :
    ∃ s, loop (hex_Shortest_L1 W W c who) (List.replicate c.length (-1), [], 0) = some s ∧ SI W c who s ∧ ST W c who s := by
  have hsm := B.small
  have hrep : ∀ b : Nat, b < c.length → geti (List.replicate c.length (-1)) (b : Int) = -1 := fun b hb => geti_some (by rw [List.getElem?_replicate, if_pos hb])
  have key := count_loop (step := hex_Shortest_L1 W W c who) (fun (s : List Int × List (List Int)) (i : Nat) => (s.1, s.2, (i : Int)))
    (fun n s => SI W c who s ∧ ∀ b : Nat, b < n → okS c who b → sdW W who b = 0 → 0 ≤ geti s.1 b ∧ geti s.1 b ≤ costS c who b)
    (fun s => SI W c who s ∧ ST W c who s) c.length (List.replicate c.length (-1), []) ⟨⟨by simp, fun b hb h => by
        simp only at h
        rw [hrep b hb] at h; omega, fun k x hx => by simp [geti2] at hx, by simp, by
        have e1 := sumN_bd (f := lenS []) (k := 0) (c.length + 2) (fun i _ => by unfold lenS geti2; simp)
        have e2 := sumN_bd (f := phiS c.length (List.replicate c.length (-1))) (k := c.length + 5) c.length (fun i hi => by unfold phiS; rw [hrep i hi]; simp)
        simp only
        omega⟩, fun b hb => by omega⟩ (by
    rintro i ⟨far, r⟩ hi ⟨h1, h2⟩
    left
    have hl := h1.len
    have hrows := h1.rows
    simp only at hl hrows h2
    simp only [hex_Shortest_L1]
    rw [if_pos (decide_eq_true (by omega))]
    unfold hex_Shortest_J3 hex_Shortest_J4
    rw [along_p B hi, Option.bind_some, w64_of (by omega)]
    by_cases hs : sdW W who i = 0
    · rw [if_pos (by rw [beq_iff_eq]; exact hs), cost_p W hi (hc i hi), Option.bind_some]
      have hk1 := kS_le (c := c) i
      rw [put_p B hw hl hi (by omega) (show r.length ≤ 1000 by omega) (h1.row hsm _), Option.bind_some]
      by_cases q : okS c who i ∧ ¬ (0 ≤ geti far i ∧ geti far i ≤ ((kS c i : Nat) : Int))
      · rw [if_pos q]
        obtain ⟨q1, q2⟩ := q
        have hkc := kS_cost hw (hc i hi) q1
        have hWi : WayS W c who (kS c i) i := by
          rw [hkc]
          exact WayC.start hs q1
        have hor : kS c i ≤ r.length ∨ (sumN (visS far) c.length = 0 ∧ kS c i ≤ 1) := by
          by_cases hr : r.length = 0
          · refine .inr ⟨?_, hk1⟩
            have := sumN_bd (f := visS far) (k := 0) c.length (fun b hb => by
              unfold visS
              split
              · rename_i q3
                have := geti2_pos (h1.fin b hb q3).2
                simp only at this
                omega
              · omega)
            omega
          · exact .inl (by omega)
        have hS' := h1.put q1 q2 hWi hor (by omega)
        have hle : LeS c (far, r) (far.set i ((kS c i : Nat) : Int), addR r (kS c i) (i : Int)) := LeS.put (s := (far, r)) hl hi q2 _
        refine ⟨_, rfl, hS', fun b hb hob hsb => ?_⟩
        by_cases e : b = i
        · subst e
          simp only
          rw [set_at (by omega), if_pos rfl, hkc]; omega
        · have h3 := h2 b (by omega) hob hsb
          have h4 := hle b hob.1 h3.1
          simp only at h4 ⊢
          omega
      · rw [if_neg q]
        refine ⟨(far, r), rfl, h1, fun b hb hob hsb => ?_⟩
        by_cases e : b = i
        · subst e
          have hkc := kS_cost hw (hc b hi) hob
          have : 0 ≤ geti far b ∧ geti far b ≤ ((kS c b : Nat) : Int) := by
            by_cases q2 : 0 ≤ geti far b ∧ geti far b ≤ ((kS c b : Nat) : Int)
            · exact q2
            · exact absurd ⟨hob, q2⟩ q
          simp only
          omega
        · exact h2 b (by omega) hob hsb
    · rw [if_neg (by rw [beq_iff_eq]; exact hs)]
      refine ⟨(far, r), rfl, h1, fun b hb hob hsb => ?_⟩
      by_cases e : b = i
      · subst e; exact absurd hsb hs
      · exact h2 b (by omega) hob hsb) (by
    rintro ⟨far, r⟩ ⟨h1, h2⟩
    refine ⟨(far, r), ?_, h1, fun b hb hs => h2 b hb.1 hb hs⟩
    simp only [hex_Shortest_L1]
    rw [if_neg (by simp)])
  obtain ⟨s, hs, h⟩ := key
  exact ⟨s, hs, h⟩

theorem shortest_p (B : Dm W W c) (hw : who = 1 ∨ who = 2) (hc : ∀ i : Nat, i < c.length → 0 ≤ geti c i ∧ geti c i ≤ 2) (h1 : c.length ≤ 100) :
    ∃ k, hex_Shortest_J1 W W c who = some (k, 0) ∧ AnsS (WayS W c who) (goalS W c who) k := by
  have hsm := B.small
  have hW := B.w
  have hpos : 1 ≤ c.length := by
    have := B.idx (x := 0) (y := 0) (by omega) (by omega)
    omega
  unfold hex_Shortest_J1
  rw [rep_m1 ⟨hpos, h1⟩, Option.bind_some]
  obtain ⟨s, k1, k2, k3⟩ := start_p B hw hc
  rw [k1, Option.bind_some]
  simp only [hex_Shortest_K1]
  unfold hex_Shortest_J2
  have hP : PR W c who s 0 0 := fun k j hkj => by omega
  obtain ⟨r, q1, q2⟩ := rounds_p B hw hc (List.replicate c.length (-1)) (by simp) _ s 0 k2 k3 hP (by omega) (Nat.lt_succ_self _)
  have q1' : loop (hex_Shortest_L2 W W c who (List.replicate c.length (-1))) (s.1, s.2, 0) = some r := q1
  rw [q1', Option.bind_some]
  rcases q2 with ⟨rfl, q3⟩ | ⟨k, rfl, q3⟩
  · exact ⟨-1, by simp [hex_Shortest_K2, hex_Shortest_J5], q3⟩
  · exact ⟨k, by simp [hex_Shortest_K2], q3⟩
end
end Go.Proofs.Ytgogihcmnkncjaa
