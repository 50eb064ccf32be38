/-
  Tours: the law of ways.
-/
import Derived.Test.YtlpaklmfgldkoaaDoorWTf
namespace Go.Proofs.YtlpaklmfgldkoaaDoor
open Go Go.GL

theorem true_TourWays (x0 x1 x2 : Int) (l : List Int) (_h0 : inI x0) (_h1 : inI x1) (_h2 : inI x2) (hl : l.length ≤ 17592186044416) : gameroomlaw_TourWays_m x0 x1 x2 l = some true := by
  unfold gameroomlaw_TourWays_m gameroomlaw_board_m gameroomlaw_ints_m
  rw [asrt_pos (by unfold bigN; omega), List.nil_append]
  by_cases hb : (1 ≤ x0 ∧ x0 ≤ 8) ∧ 1 ≤ x1 ∧ x1 ≤ 8
  · obtain ⟨w, rfl⟩ : ∃ w : Nat, x0 = (w : Int) := ⟨x0.toNat, by omega⟩
    obtain ⟨h, rfl⟩ : ∃ h : Nat, x1 = (h : Int) := ⟨x1.toNat, by omega⟩
    have hw : 1 ≤ w ∧ w ≤ 8 := by omega
    have hh : 1 ≤ h ∧ h ≤ 8 := by omega
    have hN := wh64 hw hh
    have hbt : (((decide ((1 : Int) ≤ (w : Int)) && decide ((w : Int) ≤ 8)) && decide ((1 : Int) ≤ (h : Int))) && decide ((h : Int) ≤ 8)) = true := by
      simp only [Bool.and_eq_true, decide_eq_true_eq]
      omega
    obtain ⟨v, i1, i2⟩ := is_ok hw hh hl
    by_cases hin : 0 ≤ x2 ∧ x2 < ((w * h : Nat) : Int)
    · obtain ⟨p, rfl⟩ : ∃ p : Nat, x2 = (p : Int) := ⟨x2.toNat, by omega⟩
      have hp : p < w * h := by omega
      have hkl := knb_len (w := w) (N := w * h) (p := p)
      rw [next_ok hw hh hp, Option.bind_some, Option.bind_some, i1, Option.bind_some, far_ok hw hh hp, Option.bind_some, Option.bind_some, hbt, if_neg (by decide)]
      unfold gameroomlaw_TourWays_J1
      rw [if_pos (by simp), i2, Option.bind_some, if_neg (by simp)]
      unfold gameroomlaw_TourWays_J2
      rw [w64_wh hw hh, if_neg (by simp; omega)]
      unfold gameroomlaw_TourWays_J3
      have s1 : gameroomlaw_sameInts_m (knb w (w * h) p) (knb w (w * h) p) = some true := same_r (by omega)
      have s2 : gameroomlaw_sameInts_m (FL w (w * h) p (w * h)) (FL w (w * h) p (w * h)) = some true := same_r (by rw [FL_len]; omega)
      rw [if_pos (by rfl), next_doc hw hh hp, Option.bind_some, if_pos (by rfl)]
      simp only
      rw [s1, Option.bind_some, if_pos (by rfl), far_doc hw hh hp, Option.bind_some, if_pos (by rfl), s2]
      rfl
    · have eN : tour_Next_m w h x2 = some ([], 5) := by
        unfold tour_Next_m
        rw [at_one hw hh, if_neg hin, Option.bind_some, if_pos (by simp)]
      have eF : tour_Far_m w h x2 = some ([], 5) := by
        unfold tour_Far_m
        rw [at_one hw hh, if_neg hin, Option.bind_some, if_pos (by simp)]
      rw [eN, Option.bind_some, Option.bind_some, i1, Option.bind_some, eF, Option.bind_some, Option.bind_some, hbt, if_neg (by decide)]
      unfold gameroomlaw_TourWays_J1
      rw [if_pos (by simp), i2, Option.bind_some, if_neg (by simp)]
      unfold gameroomlaw_TourWays_J2
      rw [w64_wh hw hh, if_pos (by simp; omega)]
      rfl
  · have eN : tour_Next_m x0 x1 x2 = some ([], 3) := by
      unfold tour_Next_m
      rw [at_bad hb (by simp), Option.bind_some, if_pos (by simp)]
    have eF : tour_Far_m x0 x1 x2 = some ([], 3) := by
      unfold tour_Far_m
      rw [at_bad hb (by simp), Option.bind_some, if_pos (by simp)]
    have eI : tour_Is_m x0 x1 l = some (0, 3) := by
      unfold tour_Is_m
      rw [field_bad hb, Option.bind_some, if_pos (by simp)]
    have hbf : (((decide ((1 : Int) ≤ x0) && decide (x0 ≤ 8)) && decide ((1 : Int) ≤ x1)) && decide (x1 ≤ 8)) = false := by
      rw [Bool.eq_false_iff]
      intro q
      simp only [Bool.and_eq_true, decide_eq_true_eq] at q
      omega
    rw [eN, Option.bind_some, Option.bind_some, eI, Option.bind_some, eF, Option.bind_some, Option.bind_some, hbf, if_pos (by decide)]
    rfl
end Go.Proofs.YtlpaklmfgldkoaaDoor
