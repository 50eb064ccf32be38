/-
  FourCounts: the counts and the law.
-/
import Derived.Test.YtnplejebgbdfpaaCFc
import Derived.Test.YtnplejebgbdfpaaLibT
namespace Go.Proofs.Ytnplejebgbdfpaa
open Go Go.GL

theorem lead_set {c : List Int} {q : Nat} {who : Int} (hq : q < c.length) (h0 : geti c (q : Int) = 0) (hw : who = 1 ∨ who = 2) : leadG (c.set q who) = leadG c + (if who = 1 then 1 else -1) := by
  have hx : c[q] = 0 := by
    have := get_geti hq
    rw [h0, List.getElem?_eq_getElem hq] at this
    exact Option.some.inj this
  unfold leadG
  rw [List.count_set hq, List.count_set hq, hx]
  rcases hw with rfl | rfl
  · simp; omega
  · simp; omega

theorem mover_set {c : List Int} {q : Nat} {who : Int} (hq : q < c.length) (h0 : geti c (q : Int) = 0) (hw : who = 1 ∨ who = 2) (hm : moverG c = who) : moverG (c.set q who) = 3 - who := by
  have hl := lead_set hq h0 hw
  unfold moverG at hm ⊢
  rw [hl]
  rcases hw with rfl | rfl
  · rw [if_pos rfl]
    have h : leadG c = 0 := by
      by_cases h : leadG c = 0
      · exact h
      · rw [if_neg h] at hm
        split at hm <;> simp at hm
    rw [h]; rfl
  · have h : leadG c = 1 := by
      by_cases h : leadG c = 0
      · rw [if_pos h] at hm; simp at hm
      · rw [if_neg h] at hm
        by_cases h2 : leadG c = 1
        · exact h2
        · rw [if_neg h2] at hm; simp at hm
    rw [h]; decide

theorem pow_b {n : Nat} (hn : n ≤ 6) : (1 : Int) ≤ 10 ^ n ∧ (10 : Int) ^ n ≤ 1000000 := by
  obtain rfl | rfl | rfl | rfl | rfl | rfl | rfl : n = 0 ∨ n = 1 ∨ n = 2 ∨ n = 3 ∨ n = 4 ∨ n = 5 ∨ n = 6 := by omega
  all_goals decide

open Classical in
theorem count_both (W H k m : Int) : ∀ (n : Nat) (c : List Int) (who : Int), n ≤ 6 → Bd W H c k → (who = 1 ∨ who = 2) → moverG c = who → NW W H c k →
    ∃ r, four_Count_1_mF (n + 1) who n W W H c k m = some (r, c) ∧ gameroomref_CountDrops_mF (n + 1) W H c k n = some r ∧ 0 ≤ r ∧ r ≤ 10 ^ n := by
  intro n
  induction n with
  | zero =>
    intro c who _ B hw hm hN
    exact ⟨1, rfl, rfl, by decide, by decide⟩
  | succ n ih =>
    intro c who hn6 B hw hm hN
    have hW := B.w
    have hH := B.h
    have hsm := B.small
    obtain ⟨p1, p2⟩ := pow_b (n := n) (by omega)
    show ∃ r, four_Count_1_B (four_Count_1_mF (n + 1)) who ((n + 1 : Nat) : Int) W W H c k m = some (r, c) ∧ gameroomref_CountDrops_B (gameroomref_CountDrops_mF (n + 1)) W H c k ((n + 1 : Nat) : Int) = some r ∧ _
    unfold four_Count_1_B gameroomref_CountDrops_B
    have e : ¬ (((n + 1 : Nat) : Int) == 0) = true := by simp; omega
    rw [if_neg e, if_neg e]
    unfold four_Count_1_J1 gameroomref_CountDrops_J1
    rw [WonOf_eq B, Option.bind_some, wonN_nw hN]
    simp only
    rw [if_neg (show ¬ (decide ((0 : Int) < 0)) = true by decide)]
    unfold gameroomref_CountDrops_J2
    have wl : w64 (((n + 1 : Nat) : Int) - 1) = (n : Int) := by rw [w64_of (by omega)]; omega
    generalize hT : (10 : Int) ^ n = T at *
    have key := count_loop2' (step1 := four_Count_1_L1 (four_Count_1_mF (n + 1)) who ((n + 1 : Nat) : Int) W W H c k m) (step2 := gameroomref_CountDrops_L1 (gameroomref_CountDrops_mF (n + 1)) W H c k ((n + 1 : Nat) : Int)) (fun (s : Int) (i : Nat) => (c, s, (i : Int))) (fun s i => (s, (i : Int))) (fun i s => 0 ≤ s ∧ s ≤ (i : Int) * T) (fun r1 r2 => r1 = (r2, c) ∧ 0 ≤ r2 ∧ r2 ≤ 10 * T) W.toNat 0 ⟨by omega, by simp⟩ (by
      intro i s hi hI
      have hiT : (i : Int) * T ≤ 10000000 ∧ ((i + 1 : Nat) : Int) * T = (i : Int) * T + T := by
        constructor
        · have := Int.mul_le_mul (show (i : Int) ≤ 10 by omega) p2 (by omega) (by omega)
          omega
        · rw [Int.natCast_add, Int.add_mul]; omega
      have e1 : four_Count_1_L1 (four_Count_1_mF (n + 1)) who ((n + 1 : Nat) : Int) W W H c k m (c, s, (i : Int)) = four_Count_1_J3 (four_Count_1_mF (n + 1)) who ((n + 1 : Nat) : Int) W W H c k m c s i := if_pos (decide_eq_true (by omega))
      have e2 : gameroomref_CountDrops_L1 (gameroomref_CountDrops_mF (n + 1)) W H c k ((n + 1 : Nat) : Int) (s, (i : Int)) = gameroomref_CountDrops_J4 (gameroomref_CountDrops_mF (n + 1)) W H c k ((n + 1 : Nat) : Int) s i := if_pos (decide_eq_true (by omega))
      have wi : w64 ((i : Int) + 1) = ((i + 1 : Nat) : Int) := by rw [w64_of (by omega)]; rfl
      rw [e1, e2]
      unfold four_Count_1_J3 gameroomref_CountDrops_J4
      rw [fall_p B.dm (by omega), fallTo_r B.dm (by omega), Option.bind_some, Option.bind_some]
      rcases fallN_at B.dm (c := c) (col := (i : Int)) (by omega) H.toNat (by omega) with hf | ⟨hf1, hf2, hf3⟩
      · rw [hf, if_pos (by decide), if_neg (by decide)]
        unfold four_Count_1_J4 gameroomref_CountDrops_J5
        rw [wi]
        exact ⟨s, rfl, rfl, by omega, by omega⟩
      · generalize fallN W c (i : Int) H.toNat = q' at hf1 hf2 hf3 ⊢
        obtain ⟨q, rfl⟩ : ∃ q : Nat, q' = q := ⟨q'.toNat, by omega⟩
        have hq : q < c.length := by omega
        have B' : Bd W H (c.set q who) k := B.of_len (by simp)
        have hat : geti (c.set q who) (q : Int) = who := by rw [geti_set' (by omega) hq, if_pos rfl]
        have hback := set_back (who := who) hq hf3
        rw [if_neg (by simp), if_pos (by simp)]
        unfold four_Count_1_J5 four_Count_1_J6 four_Count_1_J4 gameroomref_CountDrops_J6 gameroomref_CountDrops_J5
        have ai : ∀ {α : Type} (x : Option α), asrt (0 ≤ (q : Int) ∧ (q : Int) < (c.length : Int)) x = x := fun x => asrt_pos (by omega)
        rw [gridOf_r (by omega), mover_eq W H (by omega), Option.bind_some, Option.bind_some, hm]
        simp only [ai]
        rw [Int.toNat_natCast, won_p B' m (by simpa using hq) (by rw [hat]; omega), Option.bind_some, hback, wi, wl]
        by_cases hin : InRow W H (c.set q who) k q
        · rw [decide_eq_true hin]
          simp only [Bool.not_true, Bool.false_eq_true, if_false]
          have hr : gameroomref_CountDrops_mF (n + 1) W H (c.set q who) k (n : Int) = some (if n = 0 then 1 else 0) := by
            show gameroomref_CountDrops_B (gameroomref_CountDrops_mF n) W H (c.set q who) k (n : Int) = _
            unfold gameroomref_CountDrops_B
            by_cases hn0 : n = 0
            · rw [if_pos (by simp; omega), if_pos hn0]
            · rw [if_neg (by simp; omega), if_neg hn0]
              unfold gameroomref_CountDrops_J1
              rw [WonOf_eq B', Option.bind_some, wonN_set B hq hw hN, if_pos hin]
              simp only
              rw [if_pos (decide_eq_true (by omega))]
          rw [hr, Option.bind_some]
          by_cases hn0 : n = 0
          · refine ⟨s + 1, ?_, ?_, by omega, by omega⟩
            · rw [if_pos (by simp; omega), w64_of (by omega)]
            · rw [if_pos hn0, w64_of (by omega)]
          · refine ⟨s, ?_, ?_, by omega, by omega⟩
            · rw [if_neg (by simp; omega)]
            · rw [if_neg hn0, w64_of (by omega), Int.add_zero]
        · rw [decide_eq_false hin]
          simp only [Bool.not_false, if_true]
          obtain ⟨r, h1, h2, h3, h4⟩ := ih (c.set q who) (3 - who) (by omega) B' (by omega) (mover_set hq hf3 hw hm) (nw_set B hq hw hN hin)
          rw [w64_of (x := 3 - who) (by omega), h1, h2, Option.bind_some, Option.bind_some]
          simp only
          rw [hback, w64_of (x := s + r) (by omega)]
          exact ⟨s + r, rfl, rfl, by omega, by omega⟩) (by
      intro s hI
      have hiT : ((W.toNat : Nat) : Int) * T ≤ 10 * T := Int.mul_le_mul_of_nonneg_right (by omega) (by omega)
      refine ⟨(s, c), s, ?_, ?_, rfl, by omega, by omega⟩
      · simp only [four_Count_1_L1]; rw [if_neg (by simp; omega)]
      · simp only [gameroomref_CountDrops_L1]; rw [if_neg (by simp; omega)])
    obtain ⟨r1, r2, k1, k2, rfl, h1, h2⟩ := key
    have k1' : loop (four_Count_1_L1 (four_Count_1_mF (n + 1)) who ((n + 1 : Nat) : Int) W W H c k m) (c, 0, 0) = some (r2, c) := k1
    have k2' : loop (gameroomref_CountDrops_L1 (gameroomref_CountDrops_mF (n + 1)) W H c k ((n + 1 : Nat) : Int)) (0, 0) = some r2 := k2
    rw [k1', k2']
    refine ⟨r2, rfl, rfl, h1, ?_⟩
    rw [Int.pow_succ, hT]; omega

theorem true_FourCounts (W H k plies : Int) (_h0 : inI W) (_h1 : inI H) (_h2 : inI k) (_h3 : inI plies) : gameroomlaw_FourCounts_m W H k plies = some true := by
  unfold gameroomlaw_FourCounts_m four_Count_m four_far_m
  by_cases hr : (1 ≤ W ∧ W ≤ 10) ∧ (1 ≤ H ∧ H ≤ 10) ∧ (1 ≤ k ∧ k ≤ 10) ∧ 0 ≤ plies ∧ plies ≤ 6
  · obtain ⟨hW, hH, hk, hp⟩ := hr
    have fW : (decide (W < 1) || decide ((10 : Int) < W)) = false := by rw [Bool.or_eq_false_iff, decide_eq_false_iff_not, decide_eq_false_iff_not]; omega
    have fH : (decide (H < 1) || decide ((10 : Int) < H)) = false := by rw [Bool.or_eq_false_iff, decide_eq_false_iff_not, decide_eq_false_iff_not]; omega
    have fk : (decide (k < 1) || decide ((10 : Int) < k)) = false := by rw [Bool.or_eq_false_iff, decide_eq_false_iff_not, decide_eq_false_iff_not]; omega
    have fp : decide (plies < 0) = false := decide_eq_false (by omega)
    have fp2 : decide ((6 : Int) < plies) = false := decide_eq_false (by omega)
    have fall : ((((((((decide (W < 1)) || (decide ((10 : Int) < W))) || (decide (H < 1))) || (decide ((10 : Int) < H))) || (decide (k < 1))) || (decide ((10 : Int) < k))) || (decide (plies < 0))) || (decide ((6 : Int) < plies))) = false := by
      simp only [Bool.or_eq_false_iff, decide_eq_false_iff_not]
      omega
    have hm := mul_bd' (b := W) (W := H) (by omega) (by omega)
    have hpos := Int.mul_nonneg (show 0 ≤ W by omega) (show 0 ≤ H by omega)
    obtain ⟨n, rfl⟩ : ∃ n : Nat, plies = n := ⟨plies.toNat, by omega⟩
    have hwm : w64 (W * H) = W * H := w64_of (by omega)
    generalize hc : List.replicate (W * H).toNat (0 : Int) = c
    have B : Bd W H c k := ⟨hW, hH, by rw [← hc, List.length_replicate]; omega, hk⟩
    have hz : ∀ i : Int, 0 ≤ i → i < c.length → geti c i = 0 := by
      intro i h1 h2
      obtain ⟨j, rfl⟩ : ∃ j : Nat, i = j := ⟨i.toNat, by omega⟩
      apply geti_some
      rw [← hc] at h2 ⊢
      rw [List.length_replicate] at h2
      rw [List.getElem?_replicate, if_pos (by omega)]
    have hN : NW W H c k := by
      have : ∀ w : Int, 0 < w → ¬ Won W H c k w := by
        intro w h0 hw
        obtain ⟨p, h1, h2, h3⟩ := (won_place B h0).1 hw
        rw [hz p (by omega) (by omega)] at h3
        clear hz hw
        omega
      exact ⟨this 1 (by omega), this 2 (by omega)⟩
    have hmv : moverG c = 1 := by
      unfold moverG leadG
      rw [← hc, List.count_replicate, List.count_replicate]
      rfl
    obtain ⟨r, r1, r2, r3, r4⟩ := count_both W H k 0 n c 1 (by omega) B (Or.inl rfl) hmv hN
    rw [fall, fW, fH, fk, fp, fp2]
    simp only [Bool.not_false, if_true, Option.bind_some, Bool.or_self, Bool.false_eq_true, if_false]
    unfold four_Count_J1 four_Count_J2
    rw [hwm, asrt_pos (by unfold bigN; omega), hc, four_Count_1_m_of _ _ _ _ _ _ _ _ _ r1, Option.bind_some, Option.bind_some]
    unfold gameroomlaw_FourCounts_J1 gameroomlaw_FourCounts_J2
    simp only
    rw [if_pos (by decide), hwm, asrt_pos (by unfold bigN; omega), if_pos (by decide), hc, gameroomref_CountDrops_m_of _ _ _ _ _ _ r2, Option.bind_some]
    simp
  · have fall : ((((((((decide (W < 1)) || (decide ((10 : Int) < W))) || (decide (H < 1))) || (decide ((10 : Int) < H))) || (decide (k < 1))) || (decide ((10 : Int) < k))) || (decide (plies < 0))) || (decide ((6 : Int) < plies))) = true := by
      simp only [Bool.or_eq_true, decide_eq_true_eq]
      omega
    have e1 : ∀ a : Bool, (((if (!a) = true then some (decide (H < 1) || decide ((10 : Int) < H)) else some false) : Option Bool).bind fun r2 => ((if (!(a || r2)) = true then some (decide (k < 1) || decide ((10 : Int) < k)) else some false) : Option Bool).bind fun r3 => if ((((a || r2) || r3) || (decide (plies < 0))) || (decide ((6 : Int) < plies))) = true then (some (0, 3)) else four_Count_J1 W H k plies) = if (((((a || (decide (H < 1) || decide ((10 : Int) < H))) || (decide (k < 1) || decide ((10 : Int) < k)))) || (decide (plies < 0))) || (decide ((6 : Int) < plies))) = true then (some (0, 3)) else four_Count_J1 W H k plies := by
      intro a
      cases a <;> cases (decide (H < 1) || decide ((10 : Int) < H)) <;> cases (decide (k < 1) || decide ((10 : Int) < k)) <;> rfl
    rw [Option.bind_some, e1, if_pos, Option.bind_some, if_pos fall]
    · rfl
    · simp only [Bool.or_eq_true, decide_eq_true_eq]
      omega
end Go.Proofs.Ytnplejebgbdfpaa
