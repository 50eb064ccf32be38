/-
  MancalaSows: to the mover's side and back, and the law.
-/
import Derived.Test.YtbmhcapeikebgaaMSc
namespace Go.Proofs.Ytbmhcapeikebgaa
open Go Go.GL

theorem clone_p {l : List Int} (hl : l.length ≤ 17592186043904) : slices_Clone_m l = some l := by
  unfold slices_Clone_m slices_Clone_J1
  rw [asrt_pos (by unfold bigN; omega), List.nil_append]

/-- A board is what its places hold. -/
theorem bd_self {b : List Int} {h : Nat} (hl : b.length = 2 * h) : b = bd h (fun j => geti b (j : Int)) := by
  unfold bd
  rw [← hl]
  conv => lhs; rw [mr_self b]
  exact mr_congr fun j _ => by rw [geti_nat]

theorem halves {h : Nat} (g : Nat → Int) : cut (bd h g) (h : Int) ((2 * h : Nat) : Int) = mr h (fun i => g (h + i)) ∧ cut (bd h g) 0 (h : Int) = mr h g := by
  constructor
  · have := cut_mr (n := 2 * h) (a := h) (b := 2 * h) (f := g) (by omega) (by omega)
    rwa [show 2 * h - h = h by omega] at this
  · have := cut_mr (n := 2 * h) (a := 0) (b := h) (f := g) (by omega) (by omega)
    simp only [Nat.zero_add, Nat.sub_zero] at this
    exact this

theorem rot_1 (h : Nat) (g : Nat → Int) : rot 1 h g = mr h (fun i => g (h + i)) ++ mr h g := by
  have := mr_app h h (fun j => g (sg 1 h j))
  unfold rot
  rw [show 2 * h = h + h by omega, ← this]
  congr 1
  · exact mr_congr fun i hi => by rw [sg_1, if_pos hi, Nat.add_comm]
  · exact mr_congr fun i hi => by rw [sg_1, if_neg (by omega), Nat.add_sub_cancel_left]

theorem back_1 (h : Nat) (g : Nat → Int) : mr h (fun i => g (sg 1 h (h + i))) ++ mr h (fun i => g (sg 1 h i)) = bd h g := by
  have := mr_app h h g
  unfold bd
  rw [show 2 * h = h + h by omega, ← this]
  congr 1
  · exact mr_congr fun i hi => by rw [sg_1, if_neg (by omega), Nat.add_sub_cancel_left]
  · exact mr_congr fun i hi => by rw [sg_1, if_pos hi, Nat.add_comm]

section
variable {t h p : Nat} (ht : t = 0 ∨ t = 1) (hp : h = p + 1) (hh : 2 ≤ h ∧ h ≤ 7)
include ht hp hh

theorem from_p (g : Nat → Int) : mancala_from_m (bd h g) t = some (rot t h g, (p : Int)) := by
  have hH := half hp hh (bd_len h g)
  have hl := bd_len h g
  unfold mancala_from_m mancala_from_J1
  rw [clone_p (by omega), Option.bind_some, hH, w64_of (x := (h : Int) - 1) (by omega), show (h : Int) - 1 = (p : Int) by omega]
  rcases ht with rfl | rfl
  · rw [if_neg (by decide), rot_0]
  · rw [if_pos (by decide), asrt_pos (by omega), asrt_pos (by omega), hl, (halves g).1, (halves g).2, concat_p (by rw [mr_length]; omega) (by rw [mr_length]; omega), rot_1]
    rfl

/-- Back to a board. -/
theorem back_p (g : Nat → Int) (b2 : Int) (pit : Int) (ag : Bool) : (mancala_game_back_m (rot t h g) p t).bind (fun r5 => Fl.elim2 r5 (fun (r6 : (List Int)) => (mancala_Sow_J3 b2 (ag, rot t h g)) r6) (fun (_ : Unit) => (mancala_Sow_J3 b2 (ag, rot t h g)) (rot t h g))) = some (bd h g, (if ag = true then b2 else w64 (1 - b2)), ag, 0) := by
  have key : ∀ l : List Int, mancala_Sow_J3 b2 (ag, rot t h g) l = some (l, (if ag = true then b2 else w64 (1 - b2)), ag, 0) := by
    intro l
    unfold mancala_Sow_J3 mancala_Sow_J4
    cases ag <;> rfl
  unfold mancala_game_back_m mancala_game_back_J1
  rcases ht with rfl | rfl
  · rw [if_neg (by decide), Option.bind_some]
    simp only [Fl.elim2]
    rw [key, rot_0]
  · have c1 : cut (rot 1 h g) (h : Int) ((2 * h : Nat) : Int) = mr h (fun i => g (sg 1 h (h + i))) := (halves (fun j => g (sg 1 h j))).1
    have c2 : cut (rot 1 h g) 0 (h : Int) = mr h (fun i => g (sg 1 h i)) := (halves (fun j => g (sg 1 h j))).2
    rw [if_pos (by decide), w64_of (x := (p : Int) + 1) (by omega), show (p : Int) + 1 = (h : Int) by omega, asrt_pos (by rw [rot_len]; omega), asrt_pos (by rw [rot_len]; omega), rot_len, c1, c2, concat_p (by rw [mr_length]; omega) (by rw [mr_length]; omega), back_1, Option.bind_some, Option.bind_some]
    simp only [Fl.elim2]
    rw [key]

theorem both_p {g : Nat → Int} (hg : Bdd h g 1000) (pit : Int) : ∃ r, mancala_Sow_J1 (bd h g) t pit = some r ∧ gameroomref_SowOf_m (bd h g) t pit = some r ∧ r.1.length ≤ 1000 := by
  have hH := half hp hh (bd_len h g)
  have hl := bd_len h g
  have hg6 := hg.mono (K' := 1000000) (by decide)
  unfold mancala_Sow_J1 gameroomref_SowOf_m
  rw [from_p ht hp hh, Option.bind_some]
  dsimp only
  rw [over_p ht hp hh hg6, over_r hp hh hg6, Option.bind_some, Option.bind_some]
  by_cases q : ovr h p g = true
  · rw [if_pos q, if_pos q]
    exact ⟨_, rfl, rfl, by simp⟩
  · rw [if_neg q, if_neg q]
    unfold gameroomref_SowOf_J1 gameroomref_within_m
    rw [hH, w64_of (x := (h : Int) - 2) (by omega), Option.bind_some]
    by_cases q2 : 0 ≤ pit ∧ pit < p
    · obtain ⟨k, rfl⟩ : ∃ k : Nat, pit = (k : Int) := ⟨pit.toNat, by omega⟩
      have hsl : sg t h k < 2 * h := sg_lt (by omega)
      rw [if_neg (by simp; omega), asrt_pos (by rw [rot_len]; omega), rot_get (by omega), if_neg (show ¬ (!(decide (0 ≤ (k : Int)) && decide ((k : Int) ≤ (h : Int) - 2))) = true by simp; omega)]
      unfold gameroomref_SowOf_J2
      rw [hH, place_w ht hh (by omega), asrt_pos (by omega), bd_get hsl]
      by_cases q3 : g (sg t h k) = 0
      · rw [if_pos (by simpa using q3), if_pos (by simpa using q3)]
        exact ⟨_, rfl, rfl, by simp⟩
      · rw [if_neg (by simpa using q3), if_neg (by simpa using q3)]
        obtain ⟨g', ag, a1, a2⟩ := sow_all ht hp hh hg (pit := k) (by omega)
        refine ⟨_, ?_, a2, by dsimp only; rw [bd_len]; omega⟩
        unfold mancala_Sow_J2
        dsimp only
        rw [a1, Option.bind_some]
        dsimp only
        exact back_p ht hp hh g' t k ag
    · rw [if_pos (by simp; omega), if_pos (by simp; omega)]
      exact ⟨_, rfl, rfl, by simp⟩
end

theorem may_sz {b1 : List Int} {b2 : Int} (h : mancala_May_m b1 b2 = some true) : ∃ t h p : Nat, (t = 0 ∨ t = 1) ∧ h = p + 1 ∧ (2 ≤ h ∧ h ≤ 7) ∧ b1.length = 2 * h ∧ b2 = (t : Int) ∧ Bdd h (fun j => geti b1 (j : Int)) 1000 := by
  classical
  unfold mancala_May_m at h
  by_cases q : ((((decide ((b1.length : Int) < 4)) || (decide ((14 : Int) < (b1.length : Int)))) || ((bAnd (b1.length : Int) 1) == 1)) || (decide (b2 < 0)) || (decide ((1 : Int) < b2))) = true
  · rw [if_pos q] at h; simp at h
  · rw [if_neg q] at h
    have hl : b1.length ≤ 14 := by
      simp only [Bool.or_eq_true, decide_eq_true_eq] at q
      omega
    rw [band1 _ (by omega)] at q
    simp only [Bool.or_eq_true, decide_eq_true_eq, beq_iff_eq] at q
    rw [may_p hl] at h
    have hok : okB b1 := by simpa using h
    refine ⟨b2.toNat, b1.length / 2, b1.length / 2 - 1, by omega, by omega, by omega, by omega, by omega, fun j hj => okB_small (Nat.le_refl _) hok j (by omega)⟩

theorem true_MancalaSows (b1 : List Int) (b2 pit : Int) (hl : b1.length ≤ 17592186043904) (_hy : ∀ y ∈ b1, inI y) (_h1 : inI b2) (_h2 : inI pit) : gameroomlaw_MancalaSows_m b1 b2 pit = some true := by
  obtain ⟨v, hv1, hv2⟩ := may_both b1 b2 hl
  have hs : gameroomlaw_seeds_m b1 b2 = some (b1, b2) := by
    unfold gameroomlaw_seeds_m gameroomlaw_seeds_J1 gameroomlaw_ints_m
    rw [asrt_pos (by unfold bigN; omega)]; rfl
  unfold gameroomlaw_MancalaSows_m
  rw [hs, Option.bind_some]
  dsimp only
  rw [hv2]
  unfold mancala_Sow_m
  rw [hv1, Option.bind_some]
  cases v with
  | false =>
    rw [if_pos (by rfl), Option.bind_some, Option.bind_some, if_pos (by rfl)]; rfl
  | true =>
    obtain ⟨t, h, p, ht, hp, hh, hlen, rfl, hb⟩ := may_sz hv1
    obtain ⟨r, r1, r2, r3⟩ := both_p ht hp hh hb pit
    rw [← bd_self hlen] at r1 r2
    rw [if_neg (by simp), r1, Option.bind_some, Option.bind_some, if_neg (by simp)]
    unfold gameroomlaw_MancalaSows_J1
    rw [r2, Option.bind_some, if_pos (by simp)]
    unfold gameroomlaw_sameSeeds_m
    rw [if_pos (by simp), same_p _ (by omega), Option.bind_some, Option.bind_some]
    simp
end Go.Proofs.Ytbmhcapeikebgaa
