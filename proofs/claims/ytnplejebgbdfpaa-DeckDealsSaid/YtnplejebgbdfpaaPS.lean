/-
  DeckDeals: the plain law.
-/
import Derived.Test.YtnplejebgbdfpaaNE
import Derived.Test.YtnplejebgbdfpaaPA
import Derived.Test.YtnplejebgbdfpaaLibM
namespace Go.Proofs.Ytnplejebgbdfpaa
open Go Go.GL

/-- What each hand holds when z cards are dealt. -/
def hand (h : Nat) (l : List Int) (z i : Nat) : List Int := tab (z / h + if i < z % h then 1 else 0) (fun k => l.getD (h * k + i) 0)
def dealt (h : Nat) (l : List Int) (z : Nat) : List (List Int) := tab h (hand h l z)

theorem deal_step (h : Nat) (hh : 0 < h) (l : List Int) (z : Nat) : (dealt h l z).set (z % h) (hand h l z (z % h) ++ [l.getD z 0]) = dealt h l (z + 1) := by
  unfold dealt
  rw [tab_set]
  have hlt := Nat.mod_lt z hh
  have hdm := Nat.div_add_mod z h
  refine tab_congr fun j hj => ?_
  by_cases hjz : j = z % h
  · subst hjz
    rw [if_pos rfl]
    unfold hand
    have e1 : l.getD z 0 = l.getD (h * (z / h) + z % h) 0 := by rw [hdm]
    rw [if_neg (Nat.lt_irrefl _), Nat.add_zero, e1]
    have e2 := tab_snoc (n := z / h) (g := fun k => l.getD (h * k + z % h) 0)
    rw [e2]
    rcases divmod_next h z hh with ⟨_, a, b⟩ | ⟨_, a, b⟩ <;> rw [a, b]
    · rw [if_pos (by omega)]
    · rw [if_neg (by omega)]
  · rw [if_neg hjz]
    unfold hand
    rcases divmod_next h z hh with ⟨_, a, b⟩ | ⟨c, a, b⟩ <;> rw [a, b]
    · by_cases h1 : j < z % h
      · rw [if_pos h1, if_pos (by omega)]
      · rw [if_neg h1, if_neg (by omega)]
    · rw [if_pos (by omega), if_neg (by omega)]

theorem deal_done (h e : Nat) (hh : 0 < h) (l : List Int) : dealt h l (h * e) = tab h (fun i => tab e (fun k => l.getD (h * k + i) 0)) := by
  unfold dealt hand
  rw [Nat.mul_div_cancel_left _ hh, Nat.mul_mod_right]
  exact tab_congr fun j _ => by rw [if_neg (by omega), Nat.add_zero]

theorem deal_ok (h e : Nat) (l : List Int) (hl : l.length ≤ 104) (h1 : 1 ≤ h) (h10 : h ≤ 10) (he : e ≤ l.length / h) :
    deck_Deal_m l h e = some (tab h (fun i => tab e (fun k => l.getD (h * k + i) 0)), l.drop (h * e), 0) := by
  have hhe : h * e ≤ l.length := Nat.le_trans (Nat.mul_le_mul_left h he) (Nat.mul_div_le _ _)
  have e1 : w64 ((h : Int) * (e : Int)) = ((h * e : Nat) : Int) := by rw [show (h : Int) * (e : Int) = ((h * e : Nat) : Int) by simp]; exact w64_of (by omega)
  have hdl : l.length / h ≤ l.length := Nat.div_le_self _ _
  have hd0 : (0 : Int) ≤ ((l.length / h : Nat) : Int) := Int.natCast_nonneg _
  have key : loop (deck_Deal_L1 l h e) ((List.replicate (Int.toNat (h : Int)) ([] : List Int)), 0) = some (tab h (fun i => tab e (fun k => l.getD (h * k + i) 0))) := by
    refine loop_from (fun z => (dealt h l z, (z : Int))) (h * e) ?_ (fun z hz => ?_) ?_
    · show (_, _) = (_, _)
      rw [Int.toNat_natCast, tab_rep]
      refine Prod.ext ?_ rfl
      unfold dealt hand
      exact tab_congr fun j _ => by simp [tab]
    · have hlt := Nat.mod_lt z (show 0 < h by omega)
      have hdz : z / h ≤ z := Nat.div_le_self _ _
      simp only [deck_Deal_L1, deck_Deal_J4, deck_Deal_J5]
      rw [e1, cut_take]
      have hlen : (l.take (h * e)).length = h * e := by simp; omega
      have hdl : (dealt h l z).length = h := tab_length
      rw [hlen, if_pos (decide_eq_true (Int.ofNat_lt.mpr hz)), asrt_pos ⟨by omega, Int.ofNat_lt.mpr hz⟩, asrt_pos (by omega), asrt_pos (by omega), tmod_nat]
      have hr : geti2 (dealt h l z) ((z % h : Nat) : Int) = hand h l z (z % h) := geti2_tab hlt
      have hg : geti (l.take (h * e)) (z : Int) = l.getD z 0 := by
        rw [geti_nat, List.getD_eq_getElem?_getD, List.getD_eq_getElem?_getD, List.getElem?_take, if_pos hz]
      have hhl : (hand h l z (z % h)).length = z / h := by unfold hand; rw [tab_length, if_neg (Nat.lt_irrefl _)]; rfl
      rw [hdl, hr, hg, asrt_pos ⟨Int.natCast_nonneg _, Int.ofNat_lt.mpr hlt⟩, hhl, asrt_pos (by
        have : (z / h : Nat) ≤ 104 := by omega
        unfold bigN
        have h3 : ((z / h : Nat) : Int) ≤ 104 := Int.ofNat_le.mpr this
        simp only [List.length_singleton]
        generalize ((z / h : Nat) : Int) = q at h3 ⊢
        omega), asrt_pos ⟨Int.natCast_nonneg _, Int.ofNat_lt.mpr hlt⟩, Int.toNat_natCast, deal_step h (by omega) l z, w64_of (by omega)]
      rfl
    · simp only [deck_Deal_L1]
      rw [e1, cut_take, deal_done h e (by omega) l]
      have hlen : (l.take (h * e)).length = h * e := by simp; omega
      rw [hlen, if_neg (by simp)]
  unfold deck_Deal_m
  rw [if_neg (by simp; omega)]
  unfold deck_Deal_J1
  rw [asrt_pos (by omega), tdiv_nat, w64_of (by
    have h3 : ((l.length / h : Nat) : Int) ≤ 104 := Int.ofNat_le.mpr (show l.length / h ≤ 104 by omega)
    generalize ((l.length / h : Nat) : Int) = q at h3 hd0 ⊢
    omega), if_neg (by rw [decide_eq_true_eq]; exact fun h => absurd (Int.ofNat_lt.mp h) (by omega))]
  unfold deck_Deal_J2
  rw [asrt_pos ⟨by omega, by unfold bigR; omega⟩, e1, asrt_pos ⟨by omega, Int.natCast_nonneg _, Int.ofNat_le.mpr hhe⟩, key]
  simp only [Option.bind_some, deck_Deal_K1, deck_Deal_J3]
  rw [e1, asrt_pos ⟨Int.natCast_nonneg _, Int.ofNat_le.mpr hhe, by omega⟩, cut_drop l _ hhe, clone_ok _ (by unfold bigN; simp; omega)]
  rfl

theorem true_DeckDeals (l : List Int) (hands each : Int) (hl : l.length ≤ 17592186043904) (_ : ∀ y ∈ l, inI y) (_ : inI hands) (_ : inI each) : gameroomlaw_DeckDeals_m l hands each = some true := by
  have hbig : (l.length : Int) ≤ bigN := by unfold bigN; omega
  unfold gameroomlaw_DeckDeals_m
  rw [ints_ok l hbig]
  simp only [Option.bind_some]
  by_cases h1 : ((104 < l.length ∨ hands < 1) ∨ 10 < hands) ∨ each < 0
  · have e1 : ((((decide ((104 : Int) < (l.length : Int))) || (decide (hands < 1))) || (decide ((10 : Int) < hands))) || (decide (each < 0))) = true := by
      simp only [Bool.or_eq_true, decide_eq_true_eq]; omega
    unfold deck_Deal_m
    rw [e1]
    rfl
  have e1 : ((((decide ((104 : Int) < (l.length : Int))) || (decide (hands < 1))) || (decide ((10 : Int) < hands))) || (decide (each < 0))) = false := by
    simp only [Bool.or_eq_false_iff, decide_eq_false_iff_not]; omega
  obtain ⟨h, rfl⟩ : ∃ h : Nat, hands = h := ⟨hands.toNat, by omega⟩
  obtain ⟨e, rfl⟩ : ∃ e : Nat, each = e := ⟨each.toNat, by omega⟩
  have hdl : l.length / h ≤ l.length := Nat.div_le_self _ _
  have hd0 : (0 : Int) ≤ ((l.length / h : Nat) : Int) := Int.natCast_nonneg _
  have ew : w64 ((l.length / h : Nat) : Int) = ((l.length / h : Nat) : Int) := w64_of (by
    have h3 : ((l.length / h : Nat) : Int) ≤ 104 := Int.ofNat_le.mpr (show l.length / h ≤ 104 by omega)
    generalize ((l.length / h : Nat) : Int) = q at h3 hd0 ⊢
    omega)
  by_cases h2 : l.length / h < e
  · have hd : deck_Deal_m l h e = some ([], [], 11) := by
      unfold deck_Deal_m deck_Deal_J1
      rw [e1, if_neg (by simp), asrt_pos (by omega), tdiv_nat, ew, if_pos (decide_eq_true (Int.ofNat_lt.mpr h2))]
    rw [hd]
    simp only [Option.bind_some]
    rw [e1, if_neg (by simp), asrt_pos (by omega), tdiv_nat, ew, if_pos (decide_eq_true (Int.ofNat_lt.mpr h2))]
    rfl
  · have hhe : h * e ≤ l.length := Nat.le_trans (Nat.mul_le_mul_left h (by omega)) (Nat.mul_div_le _ _)
    have e2 : w64 ((h : Int) * (e : Int)) = ((h * e : Nat) : Int) := by rw [show (h : Int) * (e : Int) = ((h * e : Nat) : Int) by simp]; exact w64_of (by omega)
    rw [deal_ok h e l (by omega) (by omega) (by omega) (by omega)]
    simp only [Option.bind_some]
    rw [e1, if_neg (by simp), asrt_pos (by omega), tdiv_nat, ew, if_neg (by rw [decide_eq_true_eq]; exact fun h => h2 (Int.ofNat_lt.mp h))]
    unfold gameroomlaw_DeckDeals_J1
    rw [if_neg (by simp)]
    unfold gameroomlaw_DeckDeals_J2
    simp only [tab_length, bne_self_eq_false, Bool.or_self, forall_const, Bool.not_false, if_true]
    rw [e2, asrt_pos ⟨Int.natCast_nonneg _, Int.ofNat_le.mpr hhe, by omega⟩, cut_drop l _ hhe, sameInts_ok _ _ (by unfold bigN; simp; omega)]
    simp only [decide_true, Option.bind_some, Bool.not_true, Bool.or_false, Bool.false_eq_true, if_false]
    unfold gameroomlaw_DeckDeals_J3
    have hemax : e ≤ 104 := by omega
    have key : loop (gameroomlaw_DeckDeals_L1 l h e (tab h (fun i => tab e (fun k => l.getD (h * k + i) 0)), l.drop (h * e), 0)) 0 = some (.go ()) := by
      refine loop_from (fun i => (i : Int)) h rfl (fun i hi => ?_) ?_
      · simp only [gameroomlaw_DeckDeals_L1, gameroomlaw_DeckDeals_J5]
        rw [if_pos (by simp; omega), tab_length, asrt_pos ⟨by omega, by omega⟩, geti2_tab hi, tab_length, if_neg (by simp)]
        unfold gameroomlaw_DeckDeals_J7
        have k2 : loop (gameroomlaw_DeckDeals_L2 l h e (tab h (fun i => tab e (fun k => l.getD (h * k + i) 0)), l.drop (h * e), 0) i) 0 = some (.go ()) := by
          refine loop_from (fun k => (k : Int)) e rfl (fun k hk => ?_) ?_
          · have hk1 : h * k + h ≤ h * e := by rw [← Nat.mul_succ]; exact Nat.mul_le_mul_left h hk
            have e3 : w64 ((k : Int) * (h : Int)) = ((h * k : Nat) : Int) := by rw [show (k : Int) * (h : Int) = ((h * k : Nat) : Int) by simp [Int.mul_comm]]; exact w64_of (by omega)
            have e4 : w64 (((h * k : Nat) : Int) + (i : Int)) = ((h * k + i : Nat) : Int) := by
              rw [← Int.natCast_add]
              have hq : h * k + i ≤ 104 := by omega
              generalize h * k + i = q at hq
              exact w64_of (by omega)
            simp only [gameroomlaw_DeckDeals_L2, gameroomlaw_DeckDeals_J8, gameroomlaw_DeckDeals_J9]
            rw [if_pos (by simp; omega), tab_length, asrt_pos ⟨by omega, by omega⟩, geti2_tab hi, tab_length, asrt_pos ⟨by omega, by omega⟩, e3, e4,
              asrt_pos ⟨Int.natCast_nonneg _, Int.ofNat_lt.mpr (by omega)⟩, geti_tab hk, geti_nat, if_neg (by simp), w64_of (by omega)]
            rfl
          · simp only [gameroomlaw_DeckDeals_L2]
            rw [if_neg (by simp)]
        rw [k2]
        simp only [Option.bind_some, gameroomlaw_DeckDeals_K2, gameroomlaw_DeckDeals_J6]
        rw [w64_of (by omega)]
        rfl
      · simp only [gameroomlaw_DeckDeals_L1]
        rw [if_neg (by simp)]
    rw [key]
    rfl

end Go.Proofs.Ytnplejebgbdfpaa
