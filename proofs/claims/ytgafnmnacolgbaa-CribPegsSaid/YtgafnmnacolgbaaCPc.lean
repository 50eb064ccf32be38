/-
  CribPegs: equal ranks at the end, points, and the law.
-/
import Derived.Test.YtgafnmnacolgbaaCPb
namespace Go.Proofs.Ytgafnmnacolgbaa
open Go Go.GL

/-- The card so many places ahead of the last has the last one's rank. -/
def Eqv (l : List Int) (j : Nat) : Prop := pf (geti l ((l.length - 1 - j : Nat) : Int)) = pf (geti l ((l.length - 1 : Nat) : Int))

theorem same_p {l : List Int} (hl : l.length ≤ 13) (h0 : 0 < l.length) (hc : ∀ x ∈ l, Card x) : ∃ s : Nat, loop (crib_Peg_L2 l) 1 = some (s : Int) ∧ 1 ≤ s ∧ s ≤ l.length ∧ (∀ j, 1 ≤ j → j < s → Eqv l j) ∧ (s < l.length → ¬ Eqv l s) := by
  classical
  have e1 : w64 ((l.length : Int) - 1) = ((l.length - 1 : Nat) : Int) := by rw [w64_of (by omega)]; omega
  have key := count_loop (step := crib_Peg_L2 l) (fun (_ : Unit) (i : Nat) => (i : Int) + 1) (fun n _ => ∀ j, 1 ≤ j → j < n + 1 → Eqv l j) (fun r => ∃ s : Nat, r = (s : Int) ∧ 1 ≤ s ∧ s ≤ l.length ∧ (∀ j, 1 ≤ j → j < s → Eqv l j) ∧ (s < l.length → ¬ Eqv l s)) (l.length - 1) () (fun j h1 h2 => by omega) (by
    rintro i - hi hI
    have hm1 : geti l ((l.length - 1 - (i + 1) : Nat) : Int) ∈ l := geti_mem (by omega)
    have hm2 : geti l ((l.length - 1 : Nat) : Int) ∈ l := geti_mem (by omega)
    simp only [crib_Peg_L2, crib_Peg_J9]
    have hd : decide ((i : Int) + 1 < (l.length : Int)) = true := decide_eq_true (by omega)
    rw [e1, w64_of (x := ((l.length - 1 : Nat) : Int) - ((i : Int) + 1)) (by omega), show ((l.length - 1 : Nat) : Int) - ((i : Int) + 1) = ((l.length - 1 - (i + 1) : Nat) : Int) by omega, asrt_pos (by intro _; omega), if_pos hd, pip_p (hc _ hm1), Option.bind_some, asrt_pos (by intro _; omega), if_pos hd, pip_p (hc _ hm2), Option.bind_some, hd, w64_of (by omega)]
    by_cases q : Eqv l (i + 1)
    · left
      refine ⟨(), by rw [if_pos (by unfold Eqv at q; simp [q])]; rfl, fun j h1 h2 => ?_⟩
      by_cases e : j = i + 1
      · rw [e]; exact q
      · exact hI j h1 (by omega)
    · right
      exact ⟨(i : Int) + 1, by rw [if_neg (by unfold Eqv at q; simpa using q)], i + 1, by omega, by omega, by omega, hI, fun _ => q⟩) (by
    rintro - hI
    have hd : decide (((l.length - 1 : Nat) : Int) + 1 < (l.length : Int)) = false := decide_eq_false (by omega)
    refine ⟨((l.length - 1 : Nat) : Int) + 1, ?_, l.length, by omega, by omega, by omega, fun j h1 h2 => hI j h1 (by omega), fun h => by omega⟩
    simp only [crib_Peg_L2]
    rw [asrt_pos (by intro h; rw [hd] at h; cases h), if_neg (by rw [hd]; simp), Option.bind_some, asrt_pos (by intro h; rw [hd] at h; cases h), if_neg (by rw [hd]; simp), Option.bind_some, if_neg (by rw [hd]; simp)])
  obtain ⟨r, hr, s, rfl, h⟩ := key
  exact ⟨s, hr, h⟩

/-- No five cards of one rank. -/
theorem four {l : List Int} (hc : ∀ x ∈ l, Card x) (hn : l.Nodup) {s : Nat} (h1 : s ≤ l.length) (h : ∀ j, 1 ≤ j → j < s → Eqv l j) : s ≤ 4 := by
  rcases Nat.lt_or_ge 4 s with h5 | h5
  · exfalso
    have hm2 : geti l ((l.length - 1 : Nat) : Int) ∈ l := geti_mem (by omega)
    have c2 := hc _ hm2
    have hlen : (l.drop (l.length - 5)).length = 5 := by rw [List.length_drop]; omega
    have hp := perm_of_sub (a := l.drop (l.length - 5)) (b := ivl (4 * (geti l ((l.length - 1 : Nat) : Int) / 4)) 4) (hn.sublist (List.drop_sublist _ _)) (fun x hx => by
      obtain ⟨i, hi, he⟩ := List.mem_iff_getElem.1 hx
      have e1 : geti (l.drop (l.length - 5)) (i : Int) = x := by rw [geti_nat, List.getD_eq_getElem?_getD, List.getElem?_eq_getElem hi, Option.getD_some, he]
      rw [drop_get] at e1
      have cx := hc _ (List.mem_of_mem_drop hx)
      have hpf : pf x = pf (geti l ((l.length - 1 : Nat) : Int)) := by
        rw [← e1]
        by_cases q : i = 4
        · rw [show l.length - 5 + i = l.length - 1 by omega]
        · have := h (4 - i) (by omega) (by omega)
          unfold Eqv at this
          rw [show l.length - 5 + i = l.length - 1 - (4 - i) by omega]; exact this
      rw [ivl_mem]
      unfold pf at hpf
      unfold Card at cx c2
      omega) (by rw [ivl_length, hlen]; decide)
    have := hp.length_eq
    rw [ivl_length, hlen] at this
    omega
  · exact h5

open Classical in
theorem inner_r {l : List Int} (hl : l.length ≤ 13) (hc : ∀ x ∈ l, Card x) {k : Nat} (hk : k ≤ l.length) (hk0 : 2 ≤ k) : loop (gameroomref_PegOf_L3 l) (true, ((l.length - k : Nat) : Int)) = some (decide (∀ j, j < k → pf (geti l ((l.length - k + j : Nat) : Int)) = pf (geti l ((l.length - 1 : Nat) : Int)))) := by
  have e1 : w64 ((l.length : Int) - 1) = ((l.length - 1 : Nat) : Int) := by rw [w64_of (by omega)]; omega
  refine loop_from (r := decide (∀ j, j < k → pf (geti l ((l.length - k + j : Nat) : Int)) = pf (geti l ((l.length - 1 : Nat) : Int)))) (fun i => (decide (∀ j, j < i → pf (geti l ((l.length - k + j : Nat) : Int)) = pf (geti l ((l.length - 1 : Nat) : Int))), ((l.length - k + i : Nat) : Int))) k ?_ ?_ ?_
  · rw [decide_eq_true (fun j hj => by omega)]; rfl
  · intro i hi
    have hm1 : geti l ((l.length - k + i : Nat) : Int) ∈ l := geti_mem (by omega)
    have hm2 : geti l ((l.length - 1 : Nat) : Int) ∈ l := geti_mem (by omega)
    simp only [gameroomref_PegOf_L3, gameroomref_PegOf_J11, gameroomref_PegOf_J12]
    rw [if_pos (decide_eq_true (by omega)), e1, asrt_pos (by intro _; omega), w64_of (x := ((l.length - k + i : Nat) : Int) + 1) (by omega), show ((l.length - k + i : Nat) : Int) + 1 = ((l.length - k + (i + 1) : Nat) : Int) by omega]
    by_cases q : ∀ j, j < i → pf (geti l ((l.length - k + j : Nat) : Int)) = pf (geti l ((l.length - 1 : Nat) : Int))
    · rw [decide_eq_true q, if_pos rfl, pip_r (hc _ hm1), Option.bind_some, asrt_pos (by intro _; omega), if_pos rfl, pip_r (hc _ hm2), Option.bind_some]
      congr 3
      rw [Bool.eq_iff_iff, Bool.and_eq_true, beq_iff_eq, decide_eq_true_eq]
      constructor
      · rintro ⟨_, h⟩ j hj
        by_cases e : j = i
        · rw [e]; exact h
        · exact q j (by omega)
      · intro h; exact ⟨rfl, h i (by omega)⟩
    · rw [decide_eq_false q, if_neg (by simp), Option.bind_some, asrt_pos (by intro h; cases h), if_neg (by simp), Option.bind_some, decide_eq_false (fun h => q (fun j hj => h j (by omega)))]
      rfl
  · simp only [gameroomref_PegOf_L3]
    rw [if_neg (by rw [decide_eq_true_eq]; omega)]

theorem eqv_all {l : List Int} {k : Nat} (hk : k ≤ l.length) (hk0 : 2 ≤ k) : (∀ j, j < k → pf (geti l ((l.length - k + j : Nat) : Int)) = pf (geti l ((l.length - 1 : Nat) : Int))) ↔ ∀ j, 1 ≤ j → j < k → Eqv l j := by
  unfold Eqv
  constructor
  · intro h j h1 h2
    have := h (k - 1 - j) (by omega)
    rwa [show l.length - k + (k - 1 - j) = l.length - 1 - j by omega] at this
  · intro h j hj
    by_cases q : j = k - 1
    · rw [show l.length - k + j = l.length - 1 by omega]
    · have := h (k - 1 - j) (by omega) (by omega)
      rwa [show l.length - 1 - (k - 1 - j) = l.length - k + j by omega] at this

/-- One turn of the document's loop over the ranks. -/
theorem turn_r {l : List Int} (hl : l.length ≤ 13) (hc : ∀ x ∈ l, Card x) {s : Nat} (h1 : 1 ≤ s) (h2 : s ≤ l.length) (h3 : ∀ j, 1 ≤ j → j < s → Eqv l j) (h4 : s < l.length → ¬ Eqv l s) {n2 : Int} (hn : 0 ≤ n2 ∧ n2 ≤ 2) {k : Nat} (hk : 2 ≤ k) (hk2 : k ≤ 4) :
    gameroomref_PegOf_L2 l n2 (k : Int) = if k ≤ s then some (.done (.ret (n2 + geti ([0, 0, 2, 6, 12] : List Int) k))) else some (.next ((k - 1 : Nat) : Int)) := by
  classical
  simp only [gameroomref_PegOf_L2, gameroomref_PegOf_J7, gameroomref_PegOf_J8]
  rw [if_pos (decide_eq_true (by omega)), w64_of (x := (k : Int) - 1) (by omega), show (k : Int) - 1 = ((k - 1 : Nat) : Int) by omega]
  by_cases q : l.length < k
  · rw [if_pos (decide_eq_true (by omega)), if_neg (by omega)]
  · rw [if_neg (by simp; omega)]
    unfold gameroomref_PegOf_J9
    rw [w64_of (x := (l.length : Int) - (k : Int)) (by omega), show (l.length : Int) - (k : Int) = ((l.length - k : Nat) : Int) by omega, inner_r hl hc (by omega) hk, Option.bind_some]
    simp only [gameroomref_PegOf_K3]
    unfold gameroomref_PegOf_J10 gameroomref_PegOf_J8
    rw [w64_of (x := (k : Int) - 1) (by omega), show (k : Int) - 1 = ((k - 1 : Nat) : Int) by omega]
    have hb : 0 ≤ geti ([0, 0, 2, 6, 12] : List Int) k ∧ geti ([0, 0, 2, 6, 12] : List Int) k ≤ 12 := by
      obtain rfl | rfl | rfl : k = 2 ∨ k = 3 ∨ k = 4 := by omega
      all_goals decide
    have hiff : (∀ j, j < k → pf (geti l ((l.length - k + j : Nat) : Int)) = pf (geti l ((l.length - 1 : Nat) : Int))) ↔ k ≤ s := by
      rw [eqv_all (by omega) hk]
      constructor
      · intro h
        rcases Nat.lt_or_ge s k with e | e
        · exact absurd (h s h1 e) (h4 (by omega))
        · exact e
      · intro h j a b; exact h3 j a (by omega)
    by_cases e : k ≤ s
    · rw [if_pos (decide_eq_true (hiff.2 e)), if_pos e, asrt_pos (by omega), w64_of (by omega)]
    · rw [if_neg (by rw [decide_eq_true_eq]; exact fun h => e (hiff.1 h)), if_neg e]

theorem tail_both {l : List Int} (hl : l.length ≤ 13) (h0 : 0 < l.length) (hc : ∀ x ∈ l, Card x) (hn : l.Nodup) {n2 : Int} (hn2 : 0 ≤ n2 ∧ n2 ≤ 2) : ∃ v, 0 ≤ v ∧ crib_Peg_J7 l n2 = some (v, 0) ∧ gameroomref_PegOf_J5 l n2 = some v := by
  obtain ⟨s, hs, h1, h2, h3, h4⟩ := same_p hl h0 hc
  have h5 := four hc hn h2 h3
  have t := fun k (hk : 2 ≤ k) (hk2 : k ≤ 4) => turn_r (n2 := n2) hl hc h1 h2 h3 h4 hn2 hk hk2
  unfold crib_Peg_J7 gameroomref_PegOf_J5
  rw [hs, Option.bind_some]
  simp only [crib_Peg_K2]
  unfold crib_Peg_J8
  have t4 := t 4 (by decide) (by decide)
  have t3 := t 3 (by decide) (by decide)
  have t2 := t 2 (by decide) (by decide)
  by_cases q : 1 < s
  · rw [if_pos (decide_eq_true (by omega))]
    obtain rfl | rfl | rfl : s = 2 ∨ s = 3 ∨ s = 4 := by omega
    · rw [if_neg (by decide)] at t4 t3
      rw [if_pos (by decide)] at t2
      have : loop (gameroomref_PegOf_L2 l n2) 4 = some (.ret (n2 + 2)) := loop_next' t4 (loop_next' t3 (loop_done t2))
      rw [this]
      refine ⟨n2 + 2, by omega, ?_, rfl⟩
      rw [show w64 (((2 : Nat) : Int) * w64 (((2 : Nat) : Int) - 1)) = 2 by decide, w64_of (by omega)]
    · rw [if_neg (by decide)] at t4
      rw [if_pos (by decide)] at t3
      have : loop (gameroomref_PegOf_L2 l n2) 4 = some (.ret (n2 + 6)) := loop_next' t4 (loop_done t3)
      rw [this]
      refine ⟨n2 + 6, by omega, ?_, rfl⟩
      rw [show w64 (((3 : Nat) : Int) * w64 (((3 : Nat) : Int) - 1)) = 6 by decide, w64_of (by omega)]
    · rw [if_pos (by decide)] at t4
      have : loop (gameroomref_PegOf_L2 l n2) 4 = some (.ret (n2 + 12)) := loop_done t4
      rw [this]
      refine ⟨n2 + 12, by omega, ?_, rfl⟩
      rw [show w64 (((4 : Nat) : Int) * w64 (((4 : Nat) : Int) - 1)) = 12 by decide, w64_of (by omega)]
  · rw [if_neg (by simp; omega)]
    rw [if_neg (by omega)] at t4 t3 t2
    have : loop (gameroomref_PegOf_L2 l n2) 4 = some (.go ()) := loop_next' t4 (loop_next' t3 (loop_next' t2 (loop_done (by
      simp only [gameroomref_PegOf_L2]; rw [if_neg (by decide)]))))
    rw [this, Option.bind_some]
    simp only [gameroomref_PegOf_K2]
    obtain ⟨v, x, y, hv, a1, a2, a3, a4⟩ := rows_both hl hc hn2 l.length (by omega)
    refine ⟨v, hv, ?_, ?_⟩
    · unfold crib_Peg_J10; rw [a1, Option.bind_some, a2]
    · unfold gameroomref_PegOf_J6; rw [a3, Option.bind_some, a4]

/-- The points of all cards. -/
def sumP (l : List Int) : Int := (l.map pts).foldl (· + ·) 0
theorem sumP_take {l : List Int} {i : Nat} (h : i < l.length) : sumP (l.take (i + 1)) = sumP (l.take i) + pts (geti l (i : Int)) := by
  unfold sumP
  rw [List.take_add_one, get_geti h, List.map_append, List.foldl_append]; rfl
theorem sumP_bd {l : List Int} : ∀ i : Nat, i ≤ l.length → 0 ≤ sumP (l.take i) ∧ sumP (l.take i) ≤ 10 * i
  | 0, _ => by simp [sumP]
  | i + 1, h => by
    have ih := sumP_bd (l := l) i (by omega)
    have := pts_bd (geti l (i : Int))
    rw [sumP_take (by omega)]
    omega

theorem peg_both {l : List Int} (hl : l.length ≤ 13) (h0 : 0 < l.length) (hc : ∀ x ∈ l, Card x) (hn : l.Nodup) : ∃ r4 r2, gameroomref_PegOf_m l = some r4 ∧ crib_Peg_J2 l = some r2 ∧ (r4 < 0 → r2 = (0, 9)) ∧ (0 ≤ r4 → r2 = (r4, 0)) := by
  have b := fun i => sumP_bd (l := l) i
  have a1 := loop_from (step := crib_Peg_L1 l) (s0 := (0, 0)) (r := sumP l) (fun i => (sumP (l.take i), (i : Int))) l.length rfl (by
    intro i hi
    have hm : geti l (i : Int) ∈ l := geti_mem hi
    have hp := pts_bd (geti l (i : Int))
    have := b i (by omega)
    simp only [crib_Peg_L1, crib_Peg_J4, crib_Peg_J5]
    rw [if_pos (decide_eq_true (by omega)), asrt_pos (by omega), points_p (hc _ hm), Option.bind_some, sumP_take hi, w64_of (x := (i : Int) + 1) (by omega), w64_of (by omega)]
    rfl) (by
    simp only [crib_Peg_L1]
    rw [if_neg (by simp), List.take_length])
  have a2 := loop_from (step := gameroomref_PegOf_L1 l) (s0 := (0, 0)) (r := sumP l) (fun i => (sumP (l.take i), (i : Int))) l.length rfl (by
    intro i hi
    have hm : geti l (i : Int) ∈ l := geti_mem hi
    have hp := pts_bd (geti l (i : Int))
    have := b i (by omega)
    simp only [gameroomref_PegOf_L1, gameroomref_PegOf_J2, gameroomref_PegOf_J3]
    rw [if_pos (decide_eq_true (by omega)), asrt_pos (by omega), points_r (hc _ hm), Option.bind_some, sumP_take hi, w64_of (x := (i : Int) + 1) (by omega), w64_of (by omega)]
    rfl) (by
    simp only [gameroomref_PegOf_L1]
    rw [if_neg (by simp), List.take_length])
  unfold gameroomref_PegOf_m crib_Peg_J2
  rw [a1, a2, Option.bind_some, Option.bind_some]
  simp only [gameroomref_PegOf_K1, crib_Peg_K1]
  generalize sumP l = S at *
  unfold gameroomref_PegOf_J1 crib_Peg_J3
  by_cases q : 31 < S
  · rw [if_pos (decide_eq_true q), if_pos (decide_eq_true q)]
    exact ⟨-1, (0, 9), rfl, rfl, fun _ => rfl, fun h => by omega⟩
  · rw [if_neg (by simpa using q), if_neg (by simpa using q)]
    unfold gameroomref_PegOf_J4 crib_Peg_J6
    by_cases q2 : ((S == 15) || (S == 31)) = true
    · rw [if_pos q2, if_pos q2]
      obtain ⟨v, hv, h1, h2⟩ := tail_both hl h0 hc hn (n2 := 2) (by decide)
      exact ⟨v, (v, 0), h2, h1, fun h => by omega, fun _ => rfl⟩
    · rw [if_neg q2, if_neg q2]
      obtain ⟨v, hv, h1, h2⟩ := tail_both hl h0 hc hn (n2 := 0) (by decide)
      exact ⟨v, (v, 0), h2, h1, fun h => by omega, fun _ => rfl⟩

theorem true_CribPegs (l : List Int) (hl : l.length ≤ 17592186043904) (_hy : ∀ y ∈ l, inI y) : gameroomlaw_CribPegs_m l = some true := by
  unfold gameroomlaw_CribPegs_m gameroomlaw_ints_m crib_Peg_m
  rw [asrt_pos (by unfold bigN; omega), Option.bind_some, List.nil_append]
  by_cases hs : 1 ≤ l.length ∧ l.length ≤ 13
  · rw [if_neg (by simp; omega)]
    unfold crib_Peg_J1
    rw [check_p hl, cards_r hl, Option.bind_some]
    by_cases hw : wrong l = 0
    · obtain ⟨hc, hn⟩ := wrong_0 hw
      obtain ⟨r4, r2, h4, h2, hneg, hpos⟩ := peg_both hs.2 (by omega) hc hn
      rw [hw, if_neg (by decide), h2, Option.bind_some, if_pos (by simp; omega), Option.bind_some]
      unfold gameroomlaw_CribPegs_J1
      rw [if_neg (by decide)]
      unfold gameroomlaw_CribPegs_J2 gameroomlaw_CribPegs_J3
      rw [h4, Option.bind_some]
      by_cases q : r4 < 0
      · rw [if_pos (decide_eq_true q), hneg q]; rfl
      · rw [if_neg (by simpa using q), hpos (by omega)]; simp
    · rw [if_pos (by simpa using hw), Option.bind_some, if_pos (by simp; omega), Option.bind_some]
      unfold gameroomlaw_CribPegs_J1
      rw [if_pos (by simpa using hw)]; simp
  · rw [if_pos (by simp; omega), Option.bind_some, if_neg (by simp; omega)]
    rfl
end Go.Proofs.Ytgafnmnacolgbaa
