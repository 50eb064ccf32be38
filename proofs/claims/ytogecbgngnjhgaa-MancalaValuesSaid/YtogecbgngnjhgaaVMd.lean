/-
  MancalaValues: to the mover's side and back, played out, and the law.
-/
import Derived.Test.YtogecbgngnjhgaaVMc
namespace Go.Proofs.Ytogecbgngnjhgaa
open Go Go.GL

theorem clone_p {l : List Int} (hl : l.length ≤ 17592186043904) : slices_Clone_m l = some l := by
  unfold slices_Clone_m slices_Clone_J1
  rw [asrt_pos (by unfold bigN; omega), List.nil_append]

/-- A board is what its places hold. -/
theorem bd_self {b : List Int} {h : Nat} (hl : b.length = 2 * h) : b = bd h (fun j => geti b (j : Int)) := by
  unfold bd
  rw [← hl]
  conv => lhs; rw [mr_self b]
  exact mr_congr fun j _ => by rw [geti_nat]

theorem halves {h : Nat} (g : Nat → Int) : cut (bd h g) (h : Int) ((2 * h : Nat) : Int) = mr h (fun i => g (h + i)) ∧ cut (bd h g) 0 (h : Int) = mr h g := by
  constructor
  · have := cut_mr (n := 2 * h) (a := h) (b := 2 * h) (f := g) (by omega) (by omega)
    rwa [show 2 * h - h = h by omega] at this
  · have := cut_mr (n := 2 * h) (a := 0) (b := h) (f := g) (by omega) (by omega)
    simp only [Nat.zero_add, Nat.sub_zero] at this
    exact this

theorem rot_1 (h : Nat) (g : Nat → Int) : rot 1 h g = mr h (fun i => g (h + i)) ++ mr h g := by
  have := mr_app h h (fun j => g (sg 1 h j))
  unfold rot
  rw [show 2 * h = h + h by omega, ← this]
  congr 1
  · exact mr_congr fun i hi => by rw [sg_1, if_pos hi, Nat.add_comm]
  · exact mr_congr fun i hi => by rw [sg_1, if_neg (by omega), Nat.add_sub_cancel_left]

theorem back_1 (h : Nat) (g : Nat → Int) : mr h (fun i => g (sg 1 h (h + i))) ++ mr h (fun i => g (sg 1 h i)) = bd h g := by
  have := mr_app h h g
  unfold bd
  rw [show 2 * h = h + h by omega, ← this]
  congr 1
  · exact mr_congr fun i hi => by rw [sg_1, if_neg (by omega), Nat.add_sub_cancel_left]
  · exact mr_congr fun i hi => by rw [sg_1, if_pos hi, Nat.add_comm]

section
variable {t h p : Nat} (ht : t = 0 ∨ t = 1) (hp : h = p + 1) (hh : 2 ≤ h ∧ h ≤ 7)
include ht hp hh

theorem from_p (g : Nat → Int) : mancala_from_m (bd h g) t = some (rot t h g, (p : Int)) := by
  have hH := half hp hh (bd_len h g)
  have hl := bd_len h g
  unfold mancala_from_m mancala_from_J1
  rw [clone_p (by omega), Option.bind_some, hH, w64_of (x := (h : Int) - 1) (by omega), show (h : Int) - 1 = (p : Int) by omega]
  rcases ht with rfl | rfl
  · rw [if_neg (by decide), rot_0]
  · rw [if_pos (by decide), asrt_pos (by omega), asrt_pos (by omega), hl, (halves g).1, (halves g).2, concat_p (by rw [mr_length]; omega) (by rw [mr_length]; omega), rot_1]
    rfl


/-- The other one's side. -/
theorem turn_p (g : Nat → Int) : slices_Concat_m ([(cut (rot t h g) (h : Int) ((rot t h g).length : Int)), (cut (rot t h g) (0 : Int) (h : Int))] : List (List Int)) = some (rot (1 - t) h g) := by
  have c1 : cut (rot t h g) (h : Int) ((2 * h : Nat) : Int) = mr h (fun i => g (sg t h (h + i))) := (halves (fun j => g (sg t h j))).1
  have c2 : cut (rot t h g) 0 (h : Int) = mr h (fun i => g (sg t h i)) := (halves (fun j => g (sg t h j))).2
  rw [rot_len, c1, c2, concat_p (by rw [mr_length]; omega) (by rw [mr_length]; omega)]
  rcases ht with rfl | rfl
  · rw [rot_1]
    simp only [sg_0]
  · rw [back_1, rot_0]

theorem sowof_r {g : Nat → Int} (hg : Bdd h g 1000000) (ho : ovr h p g ≠ true) {pit : Nat} (hpit : pit < p) : gameroomref_SowOf_m (bd h g) t pit = if g (sg t h pit) = 0 then some ([], 0, false, 10) else gameroomref_SowOf_J3 (bd h g) t pit := by
  have hH := half hp hh (bd_len h g)
  have hl := bd_len h g
  have hsl : sg t h pit < 2 * h := sg_lt (by omega)
  unfold gameroomref_SowOf_m
  rw [over_r hp hh hg, Option.bind_some, if_neg ho]
  unfold gameroomref_SowOf_J1 gameroomref_within_m
  rw [hH, w64_of (x := (h : Int) - 2) (by omega), Option.bind_some, if_neg (by simp; omega)]
  unfold gameroomref_SowOf_J2
  rw [hH, place_w ht hh (by omega), asrt_pos (by omega), bd_get hsl]
  by_cases q3 : g (sg t h pit) = 0
  · rw [if_pos (by simpa using q3), if_pos q3]
  · rw [if_neg (by simpa using q3), if_neg q3]

/-- A value, told for White. -/
def sv (t : Nat) (v : Int) : Int := if t = 0 then v else -v

omit ht hp hh in
theorem sm_sub (f g : Nat → Int) : ∀ n, sm n (fun i => f i - g i) = sm n f - sm n g
  | 0 => rfl
  | n + 1 => by rw [sm_succ, sm_succ, sm_succ, sm_sub f g n]; omega
omit ht hp hh in
theorem two_halves (g : Nat → Int) : wt omA h g = sm h g + sm h (fun i => g (h + i)) := by
  have e : wt omA h g = sm (2 * h) g := sm_congr _ fun j _ => by unfold omA; omega
  rw [e, show 2 * h = h + h by omega, sm_split]

/-- The end: what is in the stores and the pits. -/
theorem leaf_p {g : Nat → Int} (hf : Few h p g) : (mancala_sum_m (cut (rot t h g) (0 : Int) (h : Int))).bind (fun r2 => asrt (0 ≤ (h : Int) ∧ (h : Int) ≤ ((rot t h g).length : Int) ∧ ((rot t h g).length : Int) ≤ ((rot t h g).length : Int)) <| (mancala_sum_m (cut (rot t h g) (h : Int) ((rot t h g).length : Int))).bind fun r3 => some ((w64 (r2 - r3)), (-1 : Int))) = some (sv t (sm h g - sm h (fun i => g (h + i))), -1) := by
  have c1 : cut (rot t h g) (h : Int) ((2 * h : Nat) : Int) = mr h (fun i => g (sg t h (h + i))) := (halves (fun j => g (sg t h j))).1
  have c2 : cut (rot t h g) 0 (h : Int) = mr h (fun i => g (sg t h i)) := (halves (fun j => g (sg t h j))).2
  have hb := hf.bdd
  have hb1 : ∀ i, i < h → 0 ≤ g (sg t h i) ∧ g (sg t h i) ≤ 1000000 := fun i hi => by have := hb _ (sg_lt (t := t) (h := h) (j := i) (by omega)); omega
  have hb2 : ∀ i, i < h → 0 ≤ g (sg t h (h + i)) ∧ g (sg t h (h + i)) ≤ 1000000 := fun i hi => by have := hb _ (sg_lt (t := t) (h := h) (j := h + i) (by omega)); omega
  have s1 := sm_nn (n := h) (f := g) (fun i hi => hf.nn i (by omega))
  have s2 := sm_nn (n := h) (f := fun i => g (h + i)) (fun i hi => hf.nn (h + i) (by omega))
  have hA := hf.all
  rw [two_halves] at hA
  rw [rot_len, c1, c2, sum_p (by omega) hb1, Option.bind_some, asrt_pos (by omega), sum_p (by omega) hb2, Option.bind_some]
  unfold sv
  rcases ht with rfl | rfl
  · rw [sm_congr h (f := fun i => g (sg 0 h i)) (g := g) (fun i hi => by rw [sg_0]), sm_congr h (f := fun i => g (sg 0 h (h + i))) (g := fun i => g (h + i)) (fun i hi => by rw [sg_0]), w64_of (by omega), if_pos rfl]
  · rw [sm_congr h (f := fun i => g (sg 1 h i)) (g := fun i => g (h + i)) (fun i hi => by rw [sg_1, if_pos hi, Nat.add_comm]), sm_congr h (f := fun i => g (sg 1 h (h + i))) (g := g) (fun i hi => by rw [sg_1, if_neg (by omega), Nat.add_sub_cancel_left]), w64_of (by omega), if_neg (by decide)]
    congr 2
    omega

omit ht in
theorem leaf_r {g : Nat → Int} (hf : Few h p g) : loop (gameroomref_MancalaValue_L1 (bd h g)) (0, 0) = some (sm h g - sm h (fun i => g (h + i))) := by
  have hH := half hp hh (bd_len h g)
  have hl := bd_len h g
  have hb := hf.bdd
  rw [← sm_sub]
  refine loop_from (r := sm h (fun i => g i - g (h + i))) (fun n => (sm n (fun i => g i - g (h + i)), (n : Int))) h rfl ?_ ?_
  · intro n hn
    have b1 := sm_bd (f := fun i => g i - g (h + i)) (a := -1000) (b := 1000) n (fun i hi => by
      have := hb i (by omega)
      have := hb (h + i) (by omega)
      omega)
    have b2 := hb n (by omega)
    have b3 := hb (h + n) (by omega)
    simp only [gameroomref_MancalaValue_L1, gameroomref_MancalaValue_J3, gameroomref_MancalaValue_J4]
    rw [hH, w64_of (x := (h : Int) + (n : Int)) (by omega), show (h : Int) + (n : Int) = ((h + n : Nat) : Int) by omega, if_pos (decide_eq_true (by omega)), asrt_pos (by omega), asrt_pos (by omega), bd_get (by omega), bd_get (by omega), w64_of (x := g n - g (h + n)) (by omega), w64_of (x := (n : Int) + 1) (by omega), w64_of (by omega), sm_succ]
    rfl
  · simp only [gameroomref_MancalaValue_L1]
    rw [hH, if_neg (by simp)]
end

theorem value_both {h p : Nat} (hp : h = p + 1) (hh : 2 ≤ h ∧ h ≤ 7) : ∀ (n t : Nat) (g : Nat → Int), (t = 0 ∨ t = 1) → Few h p g → wt (omW h p) h g < n →
    ∃ v who, mancala_game_value_mF n (rot t h g) p = some (v, who) ∧ (-1000 ≤ v ∧ v ≤ 1000) ∧ gameroomref_MancalaValue_mF n (bd h g) t = some (sv t v, who) := by
  intro n
  induction n with
  | zero =>
    intro t g ht hf hw
    have : 0 ≤ wt (omW h p) h g := sm_nn fun j hj => Int.mul_nonneg (hf.nn j hj) (omW_nn hp hj)
    omega
  | succ n ih =>
    intro t g ht hf hw
    have hg6 := hf.bdd.mono (K' := 1000000) (by decide)
    have hH := half hp hh (bd_len h g)
    have ew : w64 ((p : Int) + 1) = (h : Int) := by rw [w64_of (by omega)]; omega
    show ∃ v who, mancala_game_value_B (mancala_game_value_mF n) (rot t h g) p = some (v, who) ∧ (-1000 ≤ v ∧ v ≤ 1000) ∧ gameroomref_MancalaValue_B (gameroomref_MancalaValue_mF n) (bd h g) t = some (sv t v, who)
    unfold mancala_game_value_B gameroomref_MancalaValue_B
    rw [over_p ht hp hh hg6, over_r hp hh hg6, Option.bind_some, Option.bind_some]
    by_cases q : ovr h p g = true
    · have s1 := sm_nn (n := h) (f := g) (fun i hi => hf.nn i (by omega))
      have s2 := sm_nn (n := h) (f := fun i => g (h + i)) (fun i hi => hf.nn (h + i) (by omega))
      have hA := hf.all
      rw [two_halves] at hA
      rw [if_pos q, if_pos q, ew, asrt_pos (by rw [rot_len]; omega), leaf_p ht hp hh hf, leaf_r hp hh hf, Option.bind_some]
      refine ⟨_, _, rfl, ?_, ?_⟩
      · unfold sv; split <;> omega
      · simp only [gameroomref_MancalaValue_K1, gameroomref_MancalaValue_J2]
        congr 2
        unfold sv
        split <;> omega
    · rw [if_neg q, if_neg q]
      unfold mancala_game_value_J1 gameroomref_MancalaValue_J1
      rw [own_p hp hh, Option.bind_some]
      have c1 : cut (rot t h g) 0 (p : Int) = mr p (fun i => g (sg t h i)) := by
        have := cut_mr (n := 2 * h) (a := 0) (b := p) (f := fun j => g (sg t h j)) (by omega) (by omega)
        simp only [Nat.zero_add, Nat.sub_zero] at this
        exact this
      have key : ∀ (m z : Nat) (best who : Int), z + m = p → (-1000 ≤ best ∧ best ≤ 1000) → ∃ v w, loop (mancala_game_value_L1 (mancala_game_value_mF n) (rot t h g) p (0, (p : Int))) (best, who, (z : Int)) = some (v, w) ∧ (-1000 ≤ v ∧ v ≤ 1000) ∧ loop (gameroomref_MancalaValue_L2 (gameroomref_MancalaValue_mF n) (bd h g) t) (sv t best, who, (z : Int)) = some (sv t v, w) := by
        intro m
        induction m with
        | zero =>
          intro z best who hz hb
          obtain rfl : z = p := by omega
          refine ⟨best, who, loop_done ?_, hb, loop_done ?_⟩
          · simp only [mancala_game_value_L1]
            rw [c1, mr_length, if_neg (by simp)]
          · simp only [gameroomref_MancalaValue_L2]
            rw [hH, w64_of (x := (h : Int) - 1) (by omega), if_neg (by rw [decide_eq_true_eq]; omega)]
        | succ m im =>
          intro z best who hz hb
          have s1 : mancala_game_value_L1 (mancala_game_value_mF n) (rot t h g) p (0, (p : Int)) (best, who, (z : Int)) = if g (sg t h z) = 0 then some (.next (best, who, ((z + 1 : Nat) : Int))) else mancala_game_value_J5 (mancala_game_value_mF n) (rot t h g) p best who z := by
            simp only [mancala_game_value_L1, mancala_game_value_J3, mancala_game_value_J4]
            rw [c1, mr_length, if_pos (decide_eq_true (by omega)), asrt_pos (by omega), mr_geti (by omega), w64_of (by omega)]
            by_cases e : g (sg t h z) = 0
            · rw [if_pos (by simpa using e), if_pos e]; rfl
            · rw [if_neg (by simpa using e), if_neg e]
          have s2 : gameroomref_MancalaValue_L2 (gameroomref_MancalaValue_mF n) (bd h g) t (sv t best, who, (z : Int)) = gameroomref_MancalaValue_J6 (gameroomref_MancalaValue_mF n) (bd h g) t (sv t best) who z := by
            simp only [gameroomref_MancalaValue_L2]
            rw [hH, w64_of (x := (h : Int) - 1) (by omega), if_pos (decide_eq_true (by omega))]
          unfold gameroomref_MancalaValue_J6 gameroomref_MancalaValue_J7 at s2
          rw [sowof_r ht hp hh hg6 q (by omega), w64_of (x := (z : Int) + 1) (by omega)] at s2
          by_cases e : g (sg t h z) = 0
          · rw [if_pos e] at s1 s2
            rw [Option.bind_some, if_pos (by decide)] at s2
            obtain ⟨v, w, a1, a2, a3⟩ := im (z + 1) best who (by omega) hb
            exact ⟨v, w, loop_next' s1 a1, a2, loop_next' s2 a3⟩
          · rw [if_neg e] at s1 s2
            obtain ⟨g', ag, b1, b2, b3, b4⟩ := sow_all ht hp hh hf (pit := z) (by omega) e
            rw [b2, Option.bind_some, if_neg (by simp)] at s2
            unfold gameroomref_MancalaValue_J8 gameroomref_MancalaValue_J7 at s2
            unfold mancala_game_value_J5 at s1
            rw [clone_p (by rw [rot_len]; omega), Option.bind_some] at s1
            unfold mancala_game_value_J6 at s1
            rw [b1, Option.bind_some] at s1
            dsimp only at s1 s2
            rw [w64_of (x := (z : Int) + 1) (by omega)] at s2
            -- one turn: the same value, told for White
            have turn : ∃ nn, (-1000 ≤ nn ∧ nn ≤ 1000) ∧ mancala_game_value_L1 (mancala_game_value_mF n) (rot t h g) p (0, (p : Int)) (best, who, (z : Int)) = mancala_game_value_J7 best who z nn ∧ gameroomref_MancalaValue_L2 (gameroomref_MancalaValue_mF n) (bd h g) t (sv t best, who, (z : Int)) = if (((decide (who < 0)) || (((t : Int) == 0) && (decide (sv t best < sv t nn)))) || (((t : Int) == 1) && (decide (sv t nn < sv t best)))) then some (.next (sv t nn, (z : Int), (z : Int) + 1)) else some (.next (sv t best, who, (z : Int) + 1)) := by
              cases ag with
              | true =>
                rw [if_pos rfl] at s1 s2
                obtain ⟨v', w', d1, d2, d3⟩ := ih t g' ht b3 (by omega)
                rw [d1, Option.bind_some] at s1
                rw [d3, Option.bind_some] at s2
                exact ⟨v', d2, s1, s2⟩
              | false =>
                rw [if_neg (by simp)] at s1 s2
                have et : w64 (1 - (t : Int)) = ((1 - t : Nat) : Int) := by rcases ht with rfl | rfl <;> decide
                obtain ⟨v', w', d1, d2, d3⟩ := ih (1 - t) g' (by omega) b3 (by omega)
                rw [ew, asrt_pos (by rw [rot_len]; omega), asrt_pos (by rw [rot_len]; omega), rot_len t h g, ← rot_len t h g', turn_p ht hp hh, Option.bind_some, d1, Option.bind_some] at s1
                unfold mancala_game_value_J8 at s1
                dsimp only at s1
                rw [w64_of (by omega)] at s1
                rw [et, d3, Option.bind_some] at s2
                have es : sv (1 - t) v' = sv t (0 - v') := by
                  unfold sv
                  rcases ht with rfl | rfl
                  · rw [if_neg (by decide), if_pos rfl]; omega
                  · rw [if_pos (by decide), if_neg (by decide)]; omega
                rw [es] at s2
                exact ⟨0 - v', by omega, s1, s2⟩
            obtain ⟨nn, hnn, s1, s2⟩ := turn
            have hc : ((((decide (who < 0)) || (((t : Int) == 0) && (decide (sv t best < sv t nn)))) || (((t : Int) == 1) && (decide (sv t nn < sv t best)))) = true) ↔ ((decide (who < 0)) || (decide (best < nn))) = true := by
              unfold sv
              rcases ht with rfl | rfl
              · simp
              · simp <;> omega
            unfold mancala_game_value_J7 mancala_game_value_J4 at s1
            rw [w64_of (by omega)] at s1
            by_cases c : ((decide (who < 0)) || (decide (best < nn))) = true
            · rw [if_pos c] at s1
              rw [if_pos (hc.2 c)] at s2
              obtain ⟨v, w, a1, a2, a3⟩ := im (z + 1) nn z (by omega) hnn
              exact ⟨v, w, loop_next' s1 a1, a2, loop_next' s2 a3⟩
            · rw [if_neg c] at s1
              rw [if_neg (fun y => c (hc.1 y))] at s2
              obtain ⟨v, w, a1, a2, a3⟩ := im (z + 1) best who (by omega) hb
              exact ⟨v, w, loop_next' s1 a1, a2, loop_next' s2 a3⟩
      obtain ⟨v, w, a1, a2, a3⟩ := key p 0 0 (-1) (by omega) (by decide)
      have e0 : sv t 0 = 0 := by unfold sv; split <;> rfl
      rw [e0] at a3
      refine ⟨v, w, ?_, a2, ?_⟩
      · rw [show loop (mancala_game_value_L1 (mancala_game_value_mF n) (rot t h g) p (0, (p : Int))) (0, -1, 0) = _ from a1]; rfl
      · rw [show loop (gameroomref_MancalaValue_L2 (gameroomref_MancalaValue_mF n) (bd h g) t) (0, -1, 0) = _ from a3]; rfl

theorem may_sz {b1 : List Int} {b2 : Int} (h : mancala_May_m b1 b2 = some true) : ∃ t h p : Nat, (t = 0 ∨ t = 1) ∧ h = p + 1 ∧ (2 ≤ h ∧ h ≤ 7) ∧ b1.length = 2 * h ∧ b2 = (t : Int) ∧ okB b1 := by
  classical
  unfold mancala_May_m at h
  by_cases q : ((((decide ((b1.length : Int) < 4)) || (decide ((14 : Int) < (b1.length : Int)))) || ((bAnd (b1.length : Int) 1) == 1)) || (decide (b2 < 0)) || (decide ((1 : Int) < b2))) = true
  · rw [if_pos q] at h; simp at h
  · rw [if_neg q] at h
    have hl : b1.length ≤ 14 := by
      simp only [Bool.or_eq_true, decide_eq_true_eq] at q
      omega
    rw [band1 _ (by omega)] at q
    simp only [Bool.or_eq_true, decide_eq_true_eq, beq_iff_eq] at q
    rw [may_p hl] at h
    have hok : okB b1 := by simpa using h
    exact ⟨b2.toNat, b1.length / 2, b1.length / 2 - 1, by omega, by omega, by omega, by omega, by omega, hok⟩

/-- How many are in pits. -/
theorem pits_sum {h p : Nat} (hp : h = p + 1) (hh : 2 ≤ h ∧ h ≤ 7) (g : Nat → Int) : wt (omN h p) h g = sm p g + sm p (fun i => g (h + i)) := by
  unfold wt
  rw [sum4 hp hh]
  have e1 : omN h p p = 0 := by unfold omN; rw [if_pos (.inl rfl)]
  have e2 : omN h p (2 * h - 1) = 0 := by unfold omN; rw [if_pos (.inr rfl)]
  rw [e1, e2, sm_congr p (f := fun j => g j * omN h p j) (g := g) (fun j hj => by unfold omN; rw [if_neg (by omega)]; omega), sm_congr p (f := fun i => g (h + i) * omN h p (h + i)) (g := fun i => g (h + i)) (fun j hj => by unfold omN; rw [if_neg (by omega)]; omega)]
  omega

theorem seeds_r {h p : Nat} (hp : h = p + 1) (hh : 2 ≤ h ∧ h ≤ 7) {g : Nat → Int} (hb : Bdd h g 1000) (b2 : Int) : gameroomref_SeedsInPits_m (bd h g) b2 = some (wt (omN h p) h g) := by
  have hH := half hp hh (bd_len h g)
  have hl := bd_len h g
  rw [pits_sum hp hh, ← sm_add]
  have hlp := loop_from (step := gameroomref_SeedsInPits_L1 (bd h g)) (s0 := (0, 0)) (r := sm p (fun i => g i + g (h + i))) (fun n => (sm n (fun i => g i + g (h + i)), (n : Int))) p rfl (by
    intro n hn
    have b1 := sm_bd (f := fun i => g i + g (h + i)) (a := 0) (b := 2000) n (fun i hi => by
      have := hb i (by omega)
      have := hb (h + i) (by omega)
      omega)
    have b2 := hb n (by omega)
    have b3 := hb (h + n) (by omega)
    simp only [gameroomref_SeedsInPits_L1, gameroomref_SeedsInPits_J2, gameroomref_SeedsInPits_J3]
    rw [hH, w64_of (x := (h : Int) + (n : Int)) (by omega), w64_of (x := (h : Int) - 1) (by omega), show (h : Int) + (n : Int) = ((h + n : Nat) : Int) by omega, if_pos (decide_eq_true (by omega)), asrt_pos (by omega), asrt_pos (by omega), bd_get (by omega), bd_get (by omega), w64_of (x := g n + g (h + n)) (by omega), w64_of (x := (n : Int) + 1) (by omega), w64_of (by omega), sm_succ]
    rfl) (by
    simp only [gameroomref_SeedsInPits_L1]
    rw [hH, w64_of (x := (h : Int) - 1) (by omega), if_neg (by rw [decide_eq_true_eq]; omega)])
  unfold gameroomref_SeedsInPits_m
  rw [hlp]; rfl

theorem true_MancalaValues (b1 : List Int) (b2 : Int) (hl : b1.length ≤ 17592186043904) (_hy : ∀ y ∈ b1, inI y) (_h1 : inI b2) : gameroomlaw_MancalaValues_m b1 b2 = some true := by
  obtain ⟨v, hv1, hv2⟩ := may_both b1 b2 hl
  have hs : gameroomlaw_seeds_m b1 b2 = some (b1, b2) := by
    unfold gameroomlaw_seeds_m gameroomlaw_seeds_J1 gameroomlaw_ints_m
    rw [asrt_pos (by unfold bigN; omega)]; rfl
  unfold gameroomlaw_MancalaValues_m
  rw [hs, Option.bind_some]
  dsimp only
  rw [hv2]
  unfold mancala_Value_m
  rw [hv1, Option.bind_some]
  cases v with
  | false =>
    rw [if_pos (by rfl), Option.bind_some, Option.bind_some, if_pos (by rfl)]; rfl
  | true =>
    obtain ⟨t, h, p, ht, hp, hh, hlen, rfl, hok⟩ := may_sz hv1
    have hself := bd_self hlen
    have hnn : ∀ j, j < 2 * h → 0 ≤ geti b1 (j : Int) := fun j hj => (hok j (by omega)).1
    have hb : Bdd h (fun j => geti b1 (j : Int)) 1000 := fun j hj => okB_small (Nat.le_refl _) hok j (by omega)
    have hall : wt omA h (fun j => geti b1 (j : Int)) ≤ 1000 := by
      have e : wt omA h (fun j => geti b1 (j : Int)) = sm (2 * h) (fun j => geti b1 (j : Int)) := sm_congr _ fun j _ => by unfold omA; dsimp only; omega
      have := (hok (2 * h - 1) (by omega)).2
      rw [show 2 * h - 1 + 1 = 2 * h by omega] at this
      omega
    generalize hgd : (fun j : Nat => geti b1 (j : Int)) = g at *
    have hnn' : ∀ j, j < 2 * h → 0 ≤ g j := fun j hj => (hb j hj).1
    rw [hself]
    have hsd := seeds_r hp hh hb (t : Int)
    rw [if_neg (by simp)]
    -- the program
    have hb6 := hb.mono (K' := 1000000) (by decide)
    have c1 : cut (rot t h g) 0 (p : Int) = mr p (fun i => g (sg t h i)) := by
      have := cut_mr (n := 2 * h) (a := 0) (b := p) (f := fun j => g (sg t h j)) (by omega) (by omega)
      simp only [Nat.zero_add, Nat.sub_zero] at this
      exact this
    have c2 : cut (rot t h g) (h : Int) ((h + p : Nat) : Int) = mr p (fun i => g (sg t h (h + i))) := by
      have := cut_mr (n := 2 * h) (a := h) (b := h + p) (f := fun j => g (sg t h j)) (by omega) (by omega)
      rw [show h + p - h = p by omega] at this
      exact this
    have hsum : sm p (fun i => g (sg t h i)) + sm p (fun i => g (sg t h (h + i))) = wt (omN h p) h g := by
      rw [pits_sum hp hh]
      rcases ht with rfl | rfl
      · simp only [sg_0]
      · rw [sm_congr p (f := fun i => g (sg 1 h i)) (g := fun i => g (h + i)) (fun i hi => by rw [sg_1, if_pos (by omega), Nat.add_comm]), sm_congr p (f := fun i => g (sg 1 h (h + i))) (g := g) (fun i hi => by rw [sg_1, if_neg (by omega), Nat.add_sub_cancel_left])]
        omega
    have hN1 : wt (omN h p) h g ≤ 1000000 ∧ 0 ≤ wt (omN h p) h g := by
      have a1 := sm_bd1 (n := p) (f := g) (K := 1000) (fun i hi => hb i (by omega))
      have a2 := sm_bd1 (n := p) (f := fun i => g (h + i)) (K := 1000) (fun i hi => hb (h + i) (by omega))
      rw [pits_sum hp hh]
      omega
    unfold mancala_Value_J1
    rw [from_p ht hp hh, Option.bind_some]
    dsimp only
    rw [own_p hp hh, Option.bind_some]
    dsimp only
    rw [c1, sum_p (by omega) (fun i hi => hb6 _ (sg_lt (by omega))), Option.bind_some, other_p hp hh, Option.bind_some]
    dsimp only
    rw [c2, sum_p (by omega) (fun i hi => hb6 _ (sg_lt (by omega))), Option.bind_some, hsum, w64_of (by omega)]
    unfold mancala_Value_J3
    by_cases q : 4 < wt (omN h p) h g
    · rw [if_pos (decide_eq_true q), Option.bind_some, Option.bind_some, if_neg (by simp), hsd, Option.bind_some, if_pos (decide_eq_true q)]; rfl
    · rw [if_neg (by simpa using q)]
      have hf : Few h p g := ⟨hnn', hall, by omega⟩
      have hW : 0 ≤ wt (omW h p) h g := sm_nn fun j hj => Int.mul_nonneg (hf.nn j hj) (omW_nn hp hj)
      obtain ⟨v, who, d1, d2, d3⟩ := value_both hp hh ((wt (omW h p) h g).toNat + 1) t g ht hf (by omega)
      have d1' := mancala_game_value_m_of _ _ _ d1
      have d3' := gameroomref_MancalaValue_m_of _ _ _ d3
      unfold mancala_Value_J2
      dsimp only
      rw [d1', Option.bind_some]
      have hval : (if ((t : Int) == 1) then mancala_Value_J4 (v, who) (w64 (0 - v)) else mancala_Value_J4 (v, who) v) = some (sv t v, who, 0) := by
        unfold mancala_Value_J4 sv
        rcases ht with rfl | rfl
        · rfl
        · rw [if_pos (by rfl), if_neg (by decide), w64_of (by omega)]
          congr 2; omega
      rw [hval, Option.bind_some, Option.bind_some, if_neg (by simp), hsd, Option.bind_some, if_neg (by simpa using q)]
      unfold gameroomlaw_MancalaValues_J1
      rw [if_neg (by decide)]
      unfold gameroomlaw_MancalaValues_J2
      rw [d3', Option.bind_some]
      simp
end Go.Proofs.Ytogecbgngnjhgaa
