/-
  Tours: the law.
-/
import Derived.Test.YtlpaklmfgldkoaaDoorTOd
import Derived.Test.YtlpaklmfgldkoaaDoorLibT
namespace Go.Proofs.YtlpaklmfgldkoaaDoor
open Go Go.GL

section
variable {w h : Nat}

theorem same_r {r : List Int} (hl : r.length ≤ 1000) : gameroomlaw_sameInts_m r r = some true := by
  unfold gameroomlaw_sameInts_m gameroomlaw_sameInts_J1
  rw [if_neg (by simp)]
  have e : loop (gameroomlaw_sameInts_L1 r r) 0 = some (.go ()) := by
    refine loop_from (f := fun i => (i : Int)) r.length (by rfl) (fun i hi => ?_) ?_
    · simp only [gameroomlaw_sameInts_L1]
      rw [if_pos (decide_eq_true (by omega))]
      unfold gameroomlaw_sameInts_J3 gameroomlaw_sameInts_J4
      rw [asrt_pos (by omega), asrt_pos (by omega), if_neg (by simp), w64_of (by omega)]; rfl
    · simp only [gameroomlaw_sameInts_L1]
      rw [if_neg (by simp)]
  rw [e]; rfl

theorem way0 {f : Nat} (hf : f < w * h) : Way w h f [(f : Int)] f (w * h - 1) := ⟨by simp; omega, rfl, rfl, by simp, hf, hf⟩

theorem at_one (hw : 1 ≤ w ∧ w ≤ 8) (hh : 1 ≤ h ∧ h ≤ 8) {f : Int} : tour_at_m w h [f] = some (field w h, if 0 ≤ f ∧ f < ((w * h : Nat) : Int) then 0 else 5) := by
  rw [at_good hw hh (by simp)]
  simp only [List.mem_singleton, forall_eq]
theorem at_two (hw : 1 ≤ w ∧ w ≤ 8) (hh : 1 ≤ h ∧ h ≤ 8) {f t : Int} : tour_at_m w h [f, t] = some (field w h, if (0 ≤ f ∧ f < ((w * h : Nat) : Int)) ∧ (0 ≤ t ∧ t < ((w * h : Nat) : Int)) then 0 else 5) := by
  rw [at_good hw hh (by simp)]
  simp only [List.mem_cons, List.not_mem_nil, or_false, forall_eq_or_imp, forall_eq]

theorem count_ok (hw : 1 ≤ w ∧ w ≤ 8) (hh : 1 ≤ h ∧ h ≤ 8) (h20 : w * h ≤ 20) {f : Nat} (hf : f < w * h) : ∃ a b, tour_Count_m w h f = some (a, b, 0) ∧ gameroomref_KnightTours_m w h [(f : Int)] = some (a, b) := by
  refine ⟨w64 (cnt w (w * h) f false (w * h - 1) [(f : Int)] f), w64 (cnt w (w * h) f true (w * h - 1) [(f : Int)] f), ?_, ?_⟩
  · unfold tour_Count_m tour_Count_J1
    rw [at_one hw hh, if_pos (by omega), Option.bind_some, if_neg (by simp), field_len, if_neg (by rw [decide_eq_true_eq]; omega), asrt_pos (by omega), shlN (by omega), w64_of (x := ((w * h : Nat) : Int) - 1) (by omega), show ((w * h : Nat) : Int) - 1 = ((w * h - 1 : Nat) : Int) by omega]
    have hc := count_p hw hh h20 (f := f) (w * h - 1) [(f : Int)] f (2 ^ f) 0 0 (way0 hf) (Nat.pow_lt_pow_right (by omega) (by omega)) (fun b hb => by
      rw [Nat.testBit_two_pow, decide_eq_decide, List.mem_singleton]
      omega) (by decide) (by decide)
    rw [Int.zero_add, Int.zero_add] at hc
    rw [tour_Count_1_m_of _ _ _ _ _ _ _ _ hc]
    rfl
  · exact gameroomref_KnightTours_m_of _ _ _ _ (tours_r hw hh _ _ _ (way0 hf))

theorem greedy_ok (hw : 1 ≤ w ∧ w ≤ 8) (hh : 1 ≤ h ∧ h ≤ 8) {f : Nat} (hf : f < w * h) : ∃ r, tour_Greedy_m w h f = some (r, 0) ∧ gameroomref_KnightGreedy_m w h f = some r ∧ r.length ≤ 64 := by
  have hN := wh64 hw hh
  obtain ⟨r, r1, r2, r3⟩ := greedy_both hw hh (w * h - 1) [] f (List.replicate (w * h) false) (by simp; omega) (by simp) (fun x hx => by
    simp at hx
    exact ⟨f, hf, hx⟩) ⟨by simp, fun b hb => by
      rw [getb_nat, List.getD_eq_getElem?_getD, List.getElem?_replicate, if_pos hb]
      simp⟩
  refine ⟨r, ?_, ?_, by omega⟩
  · unfold tour_Greedy_m tour_Greedy_J1
    rw [at_one hw hh, if_pos (by omega), Option.bind_some, if_neg (by simp), field_len, asrt_pos (by unfold bigN; omega), Int.toNat_natCast, r1]
    rfl
  · unfold gameroomref_KnightGreedy_m
    have r2' : loop (gameroomref_KnightGreedy_L1 w h) [(f : Int)] = some r := r2
    rw [r2']
    rfl
end

theorem true_TourCounts (x0 x1 x2 x3 x4 : Int) (_h0 : inI x0) (_h1 : inI x1) (_h2 : inI x2) (_h3 : inI x3) (_h4 : inI x4) : gameroomlaw_TourCounts_m x0 x1 x2 x3 x4 = some true := by
  unfold gameroomlaw_TourCounts_m gameroomlaw_board_m
  by_cases hb : (1 ≤ x0 ∧ x0 ≤ 8) ∧ 1 ≤ x1 ∧ x1 ≤ 8
  · obtain ⟨w, rfl⟩ : ∃ w : Nat, x0 = (w : Int) := ⟨x0.toNat, by omega⟩
    obtain ⟨h, rfl⟩ : ∃ h : Nat, x1 = (h : Int) := ⟨x1.toNat, by omega⟩
    have hw : 1 ≤ w ∧ w ≤ 8 := by omega
    have hh : 1 ≤ h ∧ h ≤ 8 := by omega
    have hN := wh64 hw hh
    have hbt : (((decide ((1 : Int) ≤ (w : Int)) && decide ((w : Int) ≤ 8)) && decide ((1 : Int) ≤ (h : Int))) && decide ((h : Int) ≤ 8)) = true := by
      simp only [Bool.and_eq_true, decide_eq_true_eq]
      omega
    -- what comes of the second and third
    have tail : ∀ r2 r3, tour_Count_m w h x2 = some r2 → tour_Greedy_m w h x2 = some r3 → gameroomlaw_TourCounts_J3 w h x2 r2 r3 = some true := by
      intro r2 r3 e2 e3
      unfold gameroomlaw_TourCounts_J3
      rw [w64_wh hw hh]
      by_cases hin : 0 ≤ x2 ∧ x2 < ((w * h : Nat) : Int)
      · obtain ⟨f, rfl⟩ : ∃ f : Nat, x2 = (f : Int) := ⟨x2.toNat, by omega⟩
        have hf : f < w * h := by omega
        obtain ⟨r, g1, g2, g3⟩ := greedy_ok hw hh hf
        rw [g1] at e3
        obtain rfl := Option.some.inj e3
        rw [if_neg (by simp; omega)]
        unfold gameroomlaw_TourCounts_J5
        have hs9 := same_r (r := r) (by omega)
        rw [if_neg (by simp), g2, Option.bind_some, if_pos (by simp)]
        simp only
        rw [hs9, Option.bind_some]
        unfold gameroomlaw_TourCounts_J7
        rw [if_neg (by simp)]
        unfold gameroomlaw_TourCounts_J6
        rw [w64_wh hw hh]
        by_cases h20 : w * h ≤ 20
        · obtain ⟨a, b, c1, c2⟩ := count_ok hw hh h20 hf
          rw [c1] at e2
          obtain rfl := Option.some.inj e2
          rw [if_neg (by rw [decide_eq_true_eq]; omega)]
          unfold gameroomlaw_TourCounts_J8
          rw [c2, Option.bind_some]
          simp
        · have ec : tour_Count_m w h f = some (0, 0, 2) := by
            unfold tour_Count_m
            rw [at_one hw hh, if_pos (by omega), Option.bind_some, if_neg (by simp), field_len, if_pos (decide_eq_true (by omega))]
          rw [ec] at e2
          obtain rfl := Option.some.inj e2
          rw [if_pos (decide_eq_true (by omega))]
          rfl
      · have ec : tour_Count_m w h x2 = some (0, 0, 5) := by
          unfold tour_Count_m
          rw [at_one hw hh, if_neg hin, Option.bind_some, if_pos (by simp)]
        have eg : tour_Greedy_m w h x2 = some ([], 5) := by
          unfold tour_Greedy_m
          rw [at_one hw hh, if_neg hin, Option.bind_some, if_pos (by simp)]
        rw [ec] at e2
        rw [eg] at e3
        obtain rfl := Option.some.inj e2
        obtain rfl := Option.some.inj e3
        rw [if_pos (by simp; omega)]
        rfl
    have eC : ∃ r2, tour_Count_m w h x2 = some r2 := by
      by_cases hin : 0 ≤ x2 ∧ x2 < ((w * h : Nat) : Int)
      · obtain ⟨f, rfl⟩ : ∃ f : Nat, x2 = (f : Int) := ⟨x2.toNat, by omega⟩
        by_cases h20 : w * h ≤ 20
        · obtain ⟨a, b, c1, _⟩ := count_ok hw hh h20 (f := f) (by omega)
          exact ⟨_, c1⟩
        · unfold tour_Count_m
          rw [at_one hw hh, if_pos (by omega), Option.bind_some, if_neg (by simp), field_len, if_pos (decide_eq_true (by omega))]
          exact ⟨_, rfl⟩
      · unfold tour_Count_m
        rw [at_one hw hh, if_neg hin, Option.bind_some, if_pos (by simp)]
        exact ⟨_, rfl⟩
    have eG : ∃ r3, tour_Greedy_m w h x2 = some r3 := by
      by_cases hin : 0 ≤ x2 ∧ x2 < ((w * h : Nat) : Int)
      · obtain ⟨f, rfl⟩ : ∃ f : Nat, x2 = (f : Int) := ⟨x2.toNat, by omega⟩
        obtain ⟨r, g1, _⟩ := greedy_ok hw hh (f := f) (by omega)
        exact ⟨_, g1⟩
      · unfold tour_Greedy_m
        rw [at_one hw hh, if_neg hin, Option.bind_some, if_pos (by simp)]
        exact ⟨_, rfl⟩
    obtain ⟨r2, e2⟩ := eC
    obtain ⟨r3, e3⟩ := eG
    have hT := tail r2 r3 e2 e3
    by_cases hin : (0 ≤ x2 ∧ x2 < ((w * h : Nat) : Int)) ∧ (0 ≤ x3 ∧ x3 < ((w * h : Nat) : Int))
    · obtain ⟨f, rfl⟩ : ∃ f : Nat, x2 = (f : Int) := ⟨x2.toNat, by omega⟩
      obtain ⟨t, rfl⟩ : ∃ t : Nat, x3 = (t : Int) := ⟨x3.toNat, by omega⟩
      have hf : f < w * h := by omega
      have ht : t < w * h := by omega
      have eA : tour_at_m w h [(f : Int), (t : Int)] = some (field w h, 0) := by rw [at_two hw hh, if_pos hin]
      by_cases hs : x4 < 0 ∨ 12 < x4
      · have eW : tour_Walks_m w h f t x4 = some (0, 11) := by
          unfold tour_Walks_m
          rw [eA, Option.bind_some, if_neg (by simp), if_pos (by simpa using hs)]
        rw [eW, Option.bind_some, e2, Option.bind_some, e3, Option.bind_some, Option.bind_some, hbt, if_neg (by simp)]
        unfold gameroomlaw_TourCounts_J1
        rw [w64_wh hw hh, if_neg (by simp; omega), if_pos (by simpa using hs)]
        unfold gameroomlaw_TourCounts_J2
        rw [if_pos (by simp), if_neg (by simp)]
        exact hT
      · obtain ⟨s, rfl⟩ : ∃ s : Nat, x4 = (s : Int) := ⟨x4.toNat, by omega⟩
        have eW : tour_Walks_m w h f t s = some (geti (iterW w (w * h) f s) (t : Int), 0) := by
          unfold tour_Walks_m
          rw [eA, Option.bind_some, if_neg (by simp), if_neg (by simpa using hs), walks_p hw hh hf ht (by omega)]
        have eR : gameroomref_KnightWalks_m w h f s = some (iterW w (w * h) f s) := gameroomref_KnightWalks_m_of _ _ _ _ _ (walks_r hw hh hf s (by omega))
        rw [eW, Option.bind_some, e2, Option.bind_some, e3, Option.bind_some, Option.bind_some, hbt, if_neg (by simp)]
        unfold gameroomlaw_TourCounts_J1
        rw [w64_wh hw hh, if_neg (by simp; omega), if_neg (by simpa using hs)]
        unfold gameroomlaw_TourCounts_J2
        rw [if_neg (by simp), if_neg (by simp), eR, Option.bind_some, asrt_pos (fun _ => by rw [iter_len]; omega)]
        unfold gameroomlaw_TourCounts_J4
        rw [if_neg (by simp)]
        exact hT
    · have eA : tour_at_m w h [x2, x3] = some (field w h, 5) := by rw [at_two hw hh, if_neg hin]
      have eW : tour_Walks_m w h x2 x3 x4 = some (0, 5) := by
        unfold tour_Walks_m
        rw [eA, Option.bind_some, if_pos (by simp)]
      rw [eW, Option.bind_some, e2, Option.bind_some, e3, Option.bind_some, Option.bind_some, hbt, if_neg (by simp)]
      unfold gameroomlaw_TourCounts_J1
      rw [w64_wh hw hh, if_pos (by simp; omega)]
      unfold gameroomlaw_TourCounts_J2
      rw [if_pos (by simp), if_neg (by simp)]
      exact hT
  · have hA : ∀ l : List Int, l.length ≤ 100 → tour_at_m x0 x1 l = some ([], 3) := fun l hl => at_bad hb hl
    have eW : tour_Walks_m x0 x1 x2 x3 x4 = some (0, 3) := by
      unfold tour_Walks_m
      rw [hA _ (by simp), Option.bind_some, if_pos (by simp)]
    have eC : tour_Count_m x0 x1 x2 = some (0, 0, 3) := by
      unfold tour_Count_m
      rw [hA _ (by simp), Option.bind_some, if_pos (by simp)]
    have eG : tour_Greedy_m x0 x1 x2 = some ([], 3) := by
      unfold tour_Greedy_m
      rw [hA _ (by simp), Option.bind_some, if_pos (by simp)]
    have hbf : (((decide ((1 : Int) ≤ x0) && decide (x0 ≤ 8)) && decide ((1 : Int) ≤ x1)) && decide (x1 ≤ 8)) = false := by
      rw [Bool.eq_false_iff]
      intro q
      simp only [Bool.and_eq_true, decide_eq_true_eq] at q
      omega
    rw [eW, Option.bind_some, eC, Option.bind_some, eG, Option.bind_some, Option.bind_some, hbf, if_pos (by simp)]
    rfl
end Go.Proofs.YtlpaklmfgldkoaaDoor
