/-
  Gammon: what boards may be; the board as the one to move sees it.
-/
import Derived.Test.YtbmhcapeikebgaaNGS
import Derived.Test.YtbmhcapeikebgaaVA
import Derived.Test.YtbmhcapeikebgaaLibT
namespace Go.Proofs.Ytbmhcapeikebgaa
open Go Go.GL

def okP (b : List Int) (n : Nat) : Prop := ∀ i : Nat, i < n → -15 ≤ geti b (i : Int) ∧ geti b (i : Int) ≤ 15
def wsum (W : Int) (b : List Int) (n : Nat) : Int := W + sm n (fun i => if 0 < geti b (i : Int) then geti b (i : Int) else 0)
def ksum (K : Int) (b : List Int) (n : Nat) : Int := K + sm n (fun i => if 0 < geti b (i : Int) then 0 else - geti b (i : Int))

theorem wsum_bd {W : Int} {b : List Int} {n : Nat} (h : okP b n) (hW : 0 ≤ W ∧ W ≤ 15) (hn : n ≤ 26) : 0 ≤ wsum W b n ∧ wsum W b n ≤ 405 := by
  have := sm_bd (f := fun i => if 0 < geti b (i : Int) then geti b (i : Int) else 0) (a := 0) (b := 15) n (fun i hi => by have := h i hi; split <;> omega)
  unfold wsum
  omega
theorem ksum_bd {W : Int} {b : List Int} {n : Nat} (h : okP b n) (hW : 0 ≤ W ∧ W ≤ 15) (hn : n ≤ 26) : 0 ≤ ksum W b n ∧ ksum W b n ≤ 405 := by
  have := sm_bd (f := fun i => if 0 < geti b (i : Int) then 0 else - geti b (i : Int)) (a := 0) (b := 15) n (fun i hi => by have := h i hi; split <;> omega)
  unfold ksum
  omega
theorem wsum_succ (W : Int) (b : List Int) (n : Nat) : wsum W b (n + 1) = wsum W b n + (if 0 < geti b (n : Int) then geti b (n : Int) else 0) := by
  unfold wsum; rw [sm_succ]; omega
theorem ksum_succ (W : Int) (b : List Int) (n : Nat) : ksum W b (n + 1) = ksum W b n + (if 0 < geti b (n : Int) then 0 else - geti b (n : Int)) := by
  unfold ksum; rw [sm_succ]; omega

section
variable {b : List Int} {W K : Int} (hl : b.length = 26) (hW : 0 ≤ W ∧ W ≤ 15) (hK : 0 ≤ K ∧ K ≤ 15)
include hl hW hK

open Classical in
theorem may_p : gammon_May_J2 b W K = some (decide (okP b 26 ∧ wsum W b 26 ≤ 15 ∧ ksum K b 26 ≤ 15)) := by
  have key := count_loop (step := gammon_May_L1 b) (fun (_ : Unit) (i : Nat) => (wsum W b i, ksum K b i, (i : Int))) (fun n _ => okP b n) (fun r => gammon_May_K1 r = some (decide (okP b 26 ∧ wsum W b 26 ≤ 15 ∧ ksum K b 26 ≤ 15))) 26 () (fun i h => by omega) (by
    rintro i - hi hI
    have e1 : gammon_May_L1 b (wsum W b i, ksum K b i, (i : Int)) = gammon_May_J4 b (wsum W b i) (ksum K b i) i := if_pos (decide_eq_true (by omega))
    have h1 := wsum_bd hI hW (by omega)
    have h2 := ksum_bd hI hK (by omega)
    rw [e1]
    unfold gammon_May_J4 gammon_May_J6 gammon_May_J5
    rw [asrt_pos (by omega)]
    by_cases q : -15 ≤ geti b (i : Int) ∧ geti b (i : Int) ≤ 15
    · left
      refine ⟨(), ?_, fun k hk => ?_⟩
      · rw [if_neg (by simp; omega), w64_of (x := (i : Int) + 1) (by omega), w64_of (x := 0 - geti b (i : Int)) (by omega), wsum_succ, ksum_succ]
        unfold maxI
        by_cases z : 0 < geti b (i : Int)
        · rw [if_neg (show ¬ geti b (i : Int) < 0 by omega), if_pos (show 0 - geti b (i : Int) < 0 by omega), if_pos z, if_pos z, w64_of (by omega), w64_of (by omega)]; rfl
        · by_cases z0 : geti b (i : Int) = 0
          · rw [z0]; simp only [Int.lt_irrefl, if_false, Int.sub_zero, Int.neg_zero]; rw [w64_of (by omega), w64_of (by omega)]; rfl
          · rw [if_pos (show geti b (i : Int) < 0 by omega), if_neg (show ¬ 0 - geti b (i : Int) < 0 by omega), if_neg z, if_neg z, w64_of (by omega), w64_of (by omega), show (0 : Int) - geti b (i : Int) = - geti b (i : Int) by omega]; rfl
      · by_cases e : k = i
        · rw [e]; exact q
        · exact hI k (by omega)
    · right
      refine ⟨.ret false, by rw [if_pos (by simp; omega)], ?_⟩
      rw [decide_eq_false (fun h => q (h.1 i hi))]; rfl) (by
    rintro - hI
    refine ⟨.go (wsum W b 26, ksum K b 26), by simp only [gammon_May_L1]; rw [if_neg (by simp; omega)], ?_⟩
    simp only [gammon_May_K1, gammon_May_J3]
    congr 1
    rw [← Bool.decide_and, decide_eq_decide]
    exact ⟨fun h => ⟨hI, h⟩, fun h => h.2⟩)
  obtain ⟨r, hr, hp⟩ := key
  have hr' : loop (gammon_May_L1 b) (W, K, 0) = some r := by
    rw [← hr]; unfold wsum ksum sm; rw [Int.add_zero, Int.add_zero]; rfl
  unfold gammon_May_J2
  rw [hr', Option.bind_some, hp]

open Classical in
theorem may_r (h0 : geti b 0 = 0) (h25 : geti b 25 = 0) : gameroomref_GammonMay_J1 b W K = some (decide (okP b 26 ∧ wsum W b 26 ≤ 15 ∧ ksum K b 26 ≤ 15)) := by
  have h0' : geti b ((0 : Nat) : Int) = 0 := h0
  have h25' : geti b ((25 : Nat) : Int) = 0 := h25
  have w0 : wsum W b (0 + 1) = W := by rw [wsum_succ, h0']; unfold wsum sm; simp
  have k0 : ksum K b (0 + 1) = K := by rw [ksum_succ, h0']; unfold ksum sm; simp
  have w26 : wsum W b 26 = wsum W b 25 := by rw [wsum_succ, h25']; simp
  have k26 : ksum K b 26 = ksum K b 25 := by rw [ksum_succ, h25']; simp
  have key := count_loop (step := gameroomref_GammonMay_L1 b) (fun (_ : Unit) (i : Nat) => (wsum W b (i + 1), ksum K b (i + 1), ((i + 1 : Nat) : Int))) (fun n _ => okP b (n + 1)) (fun r => gameroomref_GammonMay_K1 r = some (decide (okP b 26 ∧ wsum W b 26 ≤ 15 ∧ ksum K b 26 ≤ 15))) 24 () (fun i h => by
      obtain rfl : i = 0 := by omega
      rw [h0']; omega) (by
    rintro i - hi hI
    have e1 : gameroomref_GammonMay_L1 b (wsum W b (i + 1), ksum K b (i + 1), ((i + 1 : Nat) : Int)) = gameroomref_GammonMay_J3 b (wsum W b (i + 1)) (ksum K b (i + 1)) ((i + 1 : Nat) : Int) := if_pos (decide_eq_true (by omega))
    have h1 := wsum_bd hI hW (by omega)
    have h2 := ksum_bd hI hK (by omega)
    rw [e1]
    unfold gameroomref_GammonMay_J3 gameroomref_GammonMay_J5 gameroomref_GammonMay_J4 gameroomref_within_m
    rw [asrt_pos (by omega), Option.bind_some]
    by_cases q : -15 ≤ geti b ((i + 1 : Nat) : Int) ∧ geti b ((i + 1 : Nat) : Int) ≤ 15
    · left
      refine ⟨(), ?_, fun k hk => ?_⟩
      · rw [if_neg (by rw [decide_eq_true q.1, decide_eq_true q.2]; decide), w64_of (x := ((i + 1 : Nat) : Int) + 1) (by omega), wsum_succ W b (i + 1), ksum_succ K b (i + 1)]
        by_cases z : 0 < geti b ((i + 1 : Nat) : Int)
        · rw [if_pos (decide_eq_true z), if_pos z, if_pos z, w64_of (by omega), Int.add_zero]; rfl
        · rw [if_neg (by simpa using z), if_neg z, if_neg z, w64_of (by omega), Int.add_zero, Int.sub_eq_add_neg]; rfl
      · by_cases e : k = i + 1
        · rw [e]; exact q
        · exact hI k (by omega)
    · right
      refine ⟨.ret false, by rw [if_pos (by rw [← Bool.decide_and, decide_eq_false q]; rfl)], ?_⟩
      rw [decide_eq_false (fun h => q (h.1 (i + 1) (by omega)))]; rfl) (by
    rintro - hI
    refine ⟨.go (wsum W b 25, ksum K b 25), by simp only [gameroomref_GammonMay_L1]; rw [if_neg (by simp)], ?_⟩
    simp only [gameroomref_GammonMay_K1, gameroomref_GammonMay_J2]
    congr 1
    rw [← Bool.decide_and, decide_eq_decide, w26, k26]
    refine ⟨fun h => ⟨fun i hi => ?_, h⟩, fun h => h.2⟩
    by_cases e : i = 25
    · rw [e, h25']; omega
    · exact hI i (by omega))
  obtain ⟨r, hr, hp⟩ := key
  have hr' : loop (gameroomref_GammonMay_L1 b) (W, K, 1) = some r := by
    rw [← hr, w0, k0]; rfl
  unfold gameroomref_GammonMay_J1
  rw [hr', Option.bind_some, hp]
end

/-- What a board may be. -/
def MayB (b : List Int) (W K t : Int) : Prop := b.length = 26 ∧ geti b 0 = 0 ∧ geti b 25 = 0 ∧ (0 ≤ W ∧ W ≤ 15) ∧ (0 ≤ K ∧ K ≤ 15) ∧ (t = 0 ∨ t = 1) ∧ okP b 26 ∧ wsum W b 26 ≤ 15 ∧ ksum K b 26 ≤ 15

open Classical in
theorem may_m (b : List Int) (W K t : Int) : gammon_May_m b W K t = some (decide (MayB b W K t)) := by
  unfold gammon_May_m
  by_cases hl : b.length = 26
  · rw [asrt_pos (by intro _; omega), asrt_pos (by intro _; omega)]
    by_cases h : geti b 0 = 0 ∧ geti b 25 = 0 ∧ 0 ≤ W ∧ 0 ≤ K ∧ (t = 0 ∨ t = 1)
    · rw [if_neg (by simp [h.1, h.2.1, hl]; omega)]
      unfold gammon_May_J1
      by_cases h2 : W ≤ 15 ∧ K ≤ 15
      · rw [if_neg (by simp; omega), may_p hl ⟨h.2.2.1, h2.1⟩ ⟨h.2.2.2.1, h2.2⟩]
        congr 1
        rw [decide_eq_decide]
        exact ⟨fun z => ⟨hl, h.1, h.2.1, ⟨h.2.2.1, h2.1⟩, ⟨h.2.2.2.1, h2.2⟩, h.2.2.2.2, z⟩, fun z => z.2.2.2.2.2.2⟩
      · rw [if_pos (by simp; omega), decide_eq_false]
        intro z
        exact h2 ⟨z.2.2.2.1.2, z.2.2.2.2.1.2⟩
    · rw [if_pos, decide_eq_false]
      · intro z
        exact h ⟨z.2.1, z.2.2.1, z.2.2.2.1.1, z.2.2.2.2.1.1, z.2.2.2.2.2.1⟩
      · simp only [Bool.or_eq_true, bne_iff_ne, decide_eq_true_eq, ne_eq]
        omega
  · rw [asrt_pos (by intro z; simp at z; omega), asrt_pos (by intro z; simp at z; omega), if_pos, decide_eq_false (fun z => hl z.1)]
    simp only [Bool.or_eq_true, bne_iff_ne, decide_eq_true_eq, ne_eq]
    omega

open Classical in
theorem may_rm (b : List Int) (W K t : Int) : gameroomref_GammonMay_m b W K t = some (decide (MayB b W K t)) := by
  unfold gameroomref_GammonMay_m gameroomref_within_m
  by_cases hl : b.length = 26
  · rw [asrt_pos (by intro _; omega), asrt_pos (by intro _; omega)]
    by_cases h : geti b 0 = 0 ∧ geti b 25 = 0
    · rw [if_pos (by simp [h.1, h.2, hl]), Option.bind_some]
      by_cases h1 : 0 ≤ W ∧ W ≤ 15
      · rw [if_pos (by simp [h.1, h.2, hl, h1.1, h1.2]), Option.bind_some]
        by_cases h2 : 0 ≤ K ∧ K ≤ 15
        · rw [if_pos (by simp [h.1, h.2, hl, h1.1, h1.2, h2.1, h2.2]), Option.bind_some]
          by_cases h3 : t = 0 ∨ t = 1
          · rw [if_neg (by simp [h.1, h.2, hl, h1.1, h1.2, h2.1, h2.2]; omega), may_r hl h1 h2 h.1 h.2]
            congr 1
            rw [decide_eq_decide]
            exact ⟨fun z => ⟨hl, h.1, h.2, h1, h2, h3, z⟩, fun z => z.2.2.2.2.2.2⟩
          · rw [if_pos (by simp [h.1, h.2, hl, h1.1, h1.2, h2.1, h2.2]; omega), decide_eq_false (fun z => h3 z.2.2.2.2.2.1)]
        · have e : (decide ((0 : Int) ≤ K) && decide (K ≤ 15)) = false := by simp; omega
          rw [e, if_neg (by simp), Option.bind_some, if_pos (by simp), decide_eq_false (fun z => h2 z.2.2.2.2.1)]
      · have e : (decide ((0 : Int) ≤ W) && decide (W ≤ 15)) = false := by simp; omega
        rw [e, if_neg (by simp), Option.bind_some, if_neg (by simp), Option.bind_some, if_pos (by simp), decide_eq_false (fun z => h1 z.2.2.2.1)]
    · have e : ((((b.length : Int) != 26) || ((geti b 0) != 0)) || ((geti b 25) != 0)) = true := by
        simp only [Bool.or_eq_true, bne_iff_ne, ne_eq]; omega
      rw [e, if_neg (by simp), Option.bind_some, if_neg (by simp), Option.bind_some, if_neg (by simp), Option.bind_some, if_pos (by simp), decide_eq_false (fun z => h ⟨z.2.1, z.2.2.1⟩)]
  · have e : ((b.length : Int) != 26) = true := by simp only [bne_iff_ne, ne_eq]; omega
    rw [e, asrt_pos (by intro z; simp at z), asrt_pos (by intro z; simp at z), if_neg (by simp), Option.bind_some, if_neg (by simp), Option.bind_some, if_neg (by simp), Option.bind_some, if_pos (by simp), decide_eq_false (fun z => hl z.1)]

/-- Men at a distance, of the one to move. -/
def mn (t : Int) (b : List Int) (j : Nat) : Int := if t = 0 then geti b (j : Int) else - geti b ((25 - j : Nat) : Int)
/-- The side. -/
def sd (t bar : Int) (b : List Int) : Nat → Int := fun j => if j = 25 then bar else mn t b j

theorem side_p {b : List Int} {W K t : Int} (h : MayB b W K t) : gammon_sideOf_m b W K t = some (mr 26 (sd t (if t = 0 then W else K) b), if t = 0 then K else W) := by
  obtain ⟨hl, h0, h25, hW, hK, ht, hok, -⟩ := h
  have hb : b = mr 26 (fun j => geti b (j : Int)) := by
    have := mr_self b
    rw [hl] at this
    rw [this]
    exact mr_congr fun j hj => by rw [← this, geti_nat]
  unfold gammon_sideOf_m
  rcases ht with rfl | rfl
  · have hp : putL (pad 26 (List.replicate 26 (0 : Int))) 0 (List.take 26 b) = b := by
      rw [List.take_of_length_le (by omega)]
      unfold putL
      rw [List.take_zero, List.nil_append, List.drop_eq_nil_of_le (by rw [pad_length]; omega), List.append_nil]
    rw [if_pos (by decide), asrt_pos (by decide), hp, asrt_pos (by omega)]
    unfold gammon_sideOf_J2
    rw [hp, if_pos rfl, if_pos rfl, show Int.toNat 25 = 25 from rfl]
    congr 2
    rw [hb, mr_set]
    exact mr_congr fun j hj => by unfold sd mn; rw [if_pos rfl, ← hb]
  · rw [if_neg (by decide), if_neg (by decide), if_neg (by decide)]
    have key := loop_from (step := gammon_sideOf_L1 b) (s0 := (List.replicate 26 (0 : Int), 0)) (r := mr 26 (fun j => - geti b ((25 - j : Nat) : Int))) (fun i => (mr 26 (fun j => if 25 - j < i then - geti b ((25 - j : Nat) : Int) else 0), (i : Int))) 26 (by
      show (_, _) = (_, _)
      rw [mr_rep]; rfl) (by
      intro i hi
      have q := hok i hi
      have e1 : ∀ s : List Int, gammon_sideOf_L1 b (s, (i : Int)) = gammon_sideOf_J4 b s i := fun s => if_pos (decide_eq_true (by omega))
      rw [e1]
      unfold gammon_sideOf_J4 gammon_sideOf_J5
      rw [asrt_pos (by omega), w64_of (x := 25 - (i : Int)) (by omega), asrt_pos (by omega), asrt_pos (by rw [mr_length]; omega), w64_of (by omega), w64_of (by omega), show (25 - (i : Int)).toNat = 25 - i by omega, mr_set]
      congr 3
      exact mr_congr fun j hj => by
        by_cases e : j = 25 - i
        · rw [if_pos e, if_pos (by omega), show 25 - j = i by omega]; omega
        · rw [if_neg e]
          by_cases e2 : 25 - j < i
          · rw [if_pos e2, if_pos (by omega)]
          · rw [if_neg e2, if_neg (by omega)]) (by
      simp only [gammon_sideOf_L1]
      rw [if_neg (by simp; omega)]
      congr 2 <;> exact mr_congr fun j hj => if_pos (by omega))
    unfold gammon_sideOf_J1
    rw [key, Option.bind_some]
    simp only [gammon_sideOf_K1]
    unfold gammon_sideOf_J3 gammon_sideOf_J6
    rw [asrt_pos (by decide), asrt_pos (by rw [mr_length]; decide), show Int.toNat 25 = 25 from rfl, mr_set]
    congr 2 <;> exact mr_congr fun j hj => by unfold sd mn; rw [if_neg (show ¬ (1 : Int) = 0 by decide)]

theorem last_p (σ : Nat → Int) (o : Int) : ∃ r : Nat, gammon_side_last_m (mr 26 σ) o = some (r : Int) ∧ r ≤ 25 ∧ (∀ i, r < i → i ≤ 25 → σ i ≤ 0) ∧ (0 < r → 0 < σ r) := by
  have key := count_loop (step := gammon_side_last_L1 (mr 26 σ)) (fun (_ : Unit) (k : Nat) => ((25 - k : Nat) : Int)) (fun k _ => ∀ i, 25 - k < i → i ≤ 25 → σ i ≤ 0) (fun x => ∃ r : Nat, gammon_side_last_K1 x = some (r : Int) ∧ r ≤ 25 ∧ (∀ i, r < i → i ≤ 25 → σ i ≤ 0) ∧ (0 < r → 0 < σ r)) 25 () (fun i h => by omega) (by
    rintro k - hk hI
    have e1 : gammon_side_last_L1 (mr 26 σ) ((25 - k : Nat) : Int) = gammon_side_last_J2 (mr 26 σ) ((25 - k : Nat) : Int) := if_pos (decide_eq_true (by omega))
    rw [e1]
    unfold gammon_side_last_J2 gammon_side_last_J3
    rw [asrt_pos (by omega), mr_geti (by omega)]
    by_cases q : 0 < σ (25 - k)
    · right
      exact ⟨.ret ((25 - k : Nat) : Int), by rw [if_pos (decide_eq_true q)], 25 - k, rfl, by omega, hI, fun _ => q⟩
    · left
      refine ⟨(), ?_, fun i h1 h2 => ?_⟩
      · rw [if_neg (by simpa using q), w64_of (by omega)]
        congr 2
        omega
      · by_cases e : i = 25 - k
        · rw [e]; omega
        · exact hI i (by omega) h2) (by
    rintro - hI
    refine ⟨.go (), by simp only [gammon_side_last_L1]; rw [if_neg (by simp)], 0, rfl, by omega, fun i h1 h2 => hI i (by omega) h2, fun h => by omega⟩)
  obtain ⟨r, hr, hp⟩ := key
  have hr' : loop (gammon_side_last_L1 (mr 26 σ)) 25 = some r := hr
  unfold gammon_side_last_m
  rw [hr', Option.bind_some]
  exact hp

open Classical in
/-- A step, plainly. -/
noncomputable def stp (σ : Nat → Int) (o : Int) (at_ pips : Nat) : Option ((Nat → Int) × Int) :=
  if σ at_ < 1 ∨ (0 < σ 25 ∧ at_ ≠ 25) then none
  else if at_ ≤ pips then (if (∃ i, i ≤ 25 ∧ 6 < i ∧ 0 < σ i) ∨ (at_ < pips ∧ ∃ i, i ≤ 25 ∧ at_ < i ∧ 0 < σ i) then none else some (fun j => if j = at_ then σ at_ - 1 else σ j, o))
  else if σ (at_ - pips) < -1 then none
  else if σ (at_ - pips) = -1 then some (fun j => if j = at_ then σ at_ - 1 else if j = at_ - pips then 1 else σ j, o + 1)
  else some (fun j => if j = at_ then σ at_ - 1 else if j = at_ - pips then σ (at_ - pips) + 1 else σ j, o)

theorem step_p {σ : Nat → Int} {o : Int} {at_ pips : Nat} (hσ : ∀ i, i ≤ 25 → -15 ≤ σ i ∧ σ i ≤ 15) (ho : 0 ≤ o ∧ o ≤ 15) (ha : 1 ≤ at_ ∧ at_ ≤ 25) (hp : 1 ≤ pips ∧ pips ≤ 6) :
    ∃ q, gammon_side_step_m (mr 26 σ) o at_ pips = some q ∧ (stp σ o at_ pips = none → q.2.2 = false) ∧ ∀ σ' o', stp σ o at_ pips = some (σ', o') → q = (mr 26 σ', o', true) := by
  have g : ∀ k : Nat, k ≤ 25 → geti (mr 26 σ) (k : Int) = σ k := fun k hk => mr_geti (by omega)
  have g25 : geti (mr 26 σ) 25 = σ 25 := g 25 (by omega)
  unfold gammon_side_step_m stp
  rw [asrt_pos (by omega), asrt_pos (by intro _; omega), g at_ (by omega), g25]
  by_cases c1 : σ at_ < 1 ∨ (0 < σ 25 ∧ at_ ≠ 25)
  · rw [if_pos c1, if_pos (by simp only [Bool.or_eq_true, Bool.and_eq_true, decide_eq_true_eq, bne_iff_ne, ne_eq]; omega)]
    exact ⟨_, rfl, fun _ => rfl, fun _ _ h => by cases h⟩
  · rw [if_neg c1, if_neg (by simp only [Bool.or_eq_true, Bool.and_eq_true, decide_eq_true_eq, bne_iff_ne, ne_eq]; omega)]
    unfold gammon_side_step_J1
    obtain ⟨r, hr, hr1, hr2, hr3⟩ := last_p σ o
    have ex : ∀ c : Nat, (∃ i, i ≤ 25 ∧ c < i ∧ 0 < σ i) ↔ c < r := fun c => by
      constructor
      · rintro ⟨i, h1, h2, h3⟩
        by_cases z : r < i
        · have := hr2 i z h1; omega
        · omega
      · intro h; exact ⟨r, hr1, h, hr3 (by omega)⟩
    have last : ∀ (s3 : List Int) (s4 : Int) (x : Int), s3.length = 26 → geti s3 (at_ : Int) = x → -15 ≤ x → x ≤ 16 → gammon_side_step_J2 at_ s3 s4 = some (s3.set at_ (x - 1), s4, true) := fun s3 s4 x h1 h2 h3 h4 => by
      unfold gammon_side_step_J2
      rw [asrt_pos (by omega), asrt_pos (by omega), asrt_pos (by omega), h2, w64_of (by omega), Int.toNat_natCast]
    have ba := hσ at_ ha.2
    rw [hr, Option.bind_some]
    by_cases c2 : at_ ≤ pips
    · rw [if_pos c2, w64_of (by omega), if_pos (decide_eq_true (by omega))]
      by_cases c3 : (∃ i, i ≤ 25 ∧ 6 < i ∧ 0 < σ i) ∨ (at_ < pips ∧ ∃ i, i ≤ 25 ∧ at_ < i ∧ 0 < σ i)
      · rw [if_pos c3]
        rw [ex, ex] at c3
        rw [if_pos (by simp only [Bool.or_eq_true, Bool.and_eq_true, decide_eq_true_eq]; omega)]
        exact ⟨_, rfl, fun _ => rfl, fun _ _ h => by cases h⟩
      · rw [if_neg c3]
        rw [ex, ex] at c3
        rw [if_neg (by simp only [Bool.or_eq_true, Bool.and_eq_true, decide_eq_true_eq]; omega), last _ _ _ (mr_length _ _) (g at_ ha.2) (by omega) (by omega)]
        refine ⟨_, rfl, (fun h => by cases h), fun σ' o' h => ?_⟩
        cases h
        rw [mr_set]
    · have hw : w64 ((at_ : Int) - (pips : Int)) = ((at_ - pips : Nat) : Int) := by rw [w64_of (by omega)]; omega
      have bt := hσ (at_ - pips) (by omega)
      rw [if_neg c2, hw, if_neg (by simp; omega), asrt_pos (by omega), g (at_ - pips) (by omega)]
      by_cases c3 : σ (at_ - pips) < -1
      · rw [if_pos c3, if_pos (decide_eq_true c3)]
        exact ⟨_, rfl, fun _ => rfl, fun _ _ h => by cases h⟩
      · rw [if_neg c3, if_neg (by simpa using c3), asrt_pos (by omega)]
        by_cases c4 : σ (at_ - pips) = -1
        · rw [if_pos c4, if_pos (by rw [c4]; decide), asrt_pos (by omega), asrt_pos (by rw [mr_length]; omega), Int.toNat_natCast, mr_set, last _ _ (σ at_) (mr_length _ _) (by rw [mr_geti (by omega), if_neg (by omega)]) (by omega) (by omega), w64_of (by omega), mr_set]
          refine ⟨_, rfl, (fun h => by cases h), fun σ' o' h => ?_⟩
          cases h
          rfl
        · rw [if_neg c4, if_neg (by simpa using c4), asrt_pos (by omega), asrt_pos (by omega), asrt_pos (by rw [mr_length]; omega), Int.toNat_natCast, mr_set, last _ _ (σ at_) (mr_length _ _) (by rw [mr_geti (by omega), if_neg (by omega)]) (by omega) (by omega), mr_set, w64_of (by omega)]
          refine ⟨_, rfl, (fun h => by cases h), fun σ' o' h => ?_⟩
          cases h
          rfl

/-- The board of a side. -/
def brd (t : Int) (σ : Nat → Int) : Nat → Int := fun i => if i = 0 ∨ i = 25 then 0 else if t = 0 then σ i else - σ (25 - i)

theorem board_p {σ : Nat → Int} {o t : Int} (ht : t = 0 ∨ t = 1) (hσ : ∀ i, i ≤ 25 → -17 ≤ σ i ∧ σ i ≤ 17) : gammon_side_board_m (mr 26 σ) o t = some (mr 26 (brd t σ), if t = 0 then σ 25 else o, if t = 0 then o else σ 25, t) := by
  have g : ∀ k : Nat, k ≤ 25 → geti (mr 26 σ) (k : Int) = σ k := fun k hk => mr_geti (by omega)
  have g25 : geti (mr 26 σ) 25 = σ 25 := g 25 (by omega)
  have key : loop (gammon_side_board_L1 (mr 26 σ) t (List.replicate 26 (0 : Int))) (List.replicate 26 (0 : Int), 1) = some (mr 26 (brd t σ)) := by
    refine loop_from (fun k => (mr 26 (fun i => if (t = 0 ∧ i < k + 1) ∨ (t = 1 ∧ 25 - i < k + 1) then brd t σ i else 0), ((k + 1 : Nat) : Int))) 24 ?_ ?_ ?_
    · show (_, _) = (_, _)
      rw [mr_rep]
      congr 1
      exact mr_congr fun i hi => by
        by_cases z : (t = 0 ∧ i < 0 + 1) ∨ (t = 1 ∧ 25 - i < 0 + 1)
        · rw [if_pos z]; unfold brd; rw [if_pos (by omega)]
        · rw [if_neg z]
    · intro k hk
      have e1 : ∀ s : List Int, gammon_side_board_L1 (mr 26 σ) t (List.replicate 26 (0 : Int)) (s, ((k + 1 : Nat) : Int)) = gammon_side_board_J4 (mr 26 σ) t (List.replicate 26 (0 : Int)) s ((k + 1 : Nat) : Int) := fun s => if_pos (decide_eq_true (by omega))
      have q := hσ (k + 1) (by omega)
      rw [e1]
      unfold gammon_side_board_J4 gammon_side_board_J5
      rcases ht with rfl | rfl
      · rw [if_pos (by decide), asrt_pos (by omega), asrt_pos (by rw [List.length_replicate]; omega), w64_of (by omega), g _ (by omega), Int.toNat_natCast, mr_set]
        congr 3
        exact mr_congr fun i hi => by
          by_cases e : i = k + 1
          · rw [if_pos e, if_pos (by omega), e]; unfold brd; rw [if_neg (by omega), if_pos rfl]
          · rw [if_neg e]
            by_cases e2 : i < k + 1
            · rw [if_pos (by omega), if_pos (by omega)]
            · rw [if_neg (by omega), if_neg (by omega)]
      · rw [if_neg (by decide), asrt_pos (by omega), w64_of (x := 25 - ((k + 1 : Nat) : Int)) (by omega), asrt_pos (by rw [List.length_replicate]; omega), g _ (by omega), w64_of (x := 0 - σ (k + 1)) (by omega), w64_of (x := ((k + 1 : Nat) : Int) + 1) (by omega), show (25 - ((k + 1 : Nat) : Int)).toNat = 24 - k by omega, mr_set]
        congr 3
        exact mr_congr fun i hi => by
          by_cases e : i = 24 - k
          · rw [if_pos e, if_pos (by omega), e]; unfold brd; rw [if_neg (by omega), if_neg (by decide), show 25 - (24 - k) = k + 1 by omega]; omega
          · rw [if_neg e]
            by_cases e2 : 25 - i < k + 1
            · rw [if_pos (by omega), if_pos (by omega)]
            · rw [if_neg (by omega), if_neg (by omega)]
    · simp only [gammon_side_board_L1]
      rw [if_neg (by simp)]
      congr 2
      exact mr_congr fun i hi => by
        by_cases z : (t = 0 ∧ i < 24 + 1) ∨ (t = 1 ∧ 25 - i < 24 + 1)
        · rw [if_pos z]
        · rw [if_neg z]; unfold brd; rw [if_pos (by omega)]
  unfold gammon_side_board_m gammon_side_board_J1 gammon_side_board_J2
  rw [asrt_pos (by decide), asrt_pos (by decide), g25, show Int.toNat 26 = 26 from rfl, key]
  rcases ht with rfl | rfl
  · rw [if_neg (by decide), if_pos rfl, if_pos rfl, Option.bind_some]; rfl
  · rw [if_pos (by decide), if_neg (by decide), if_neg (by decide), Option.bind_some]; rfl
end Go.Proofs.Ytbmhcapeikebgaa
