/-
  Mancala: what is taken, what is gathered at the end, and the whole of a move.
-/
import Derived.Test.YtogecbgngnjhgaaVMb
namespace Go.Proofs.Ytogecbgngnjhgaa
open Go Go.GL

/-- What is across is taken. -/
def cap (t h p at_ : Nat) (g : Nat → Int) : Nat → Int :=
  if at_ < p ∧ g (sg t h at_) = 1 ∧ 0 < g (sg t h (2 * p - at_)) then up (up (up g (sg t h p) (g (sg t h p) + (1 + g (sg t h (2 * p - at_))))) (sg t h at_) 0) (sg t h (2 * p - at_)) 0 else g
/-- What is gathered. -/
def col (h p : Nat) (g : Nat → Int) : Nat → Int := fun j => if j = p then g p + sm p g else if j = 2 * h - 1 then g (2 * h - 1) + sm p (fun i => g (h + i)) else 0
/-- After so many pits. -/
def cg (h p i : Nat) (g : Nat → Int) : Nat → Int := fun j => if j = p then g p + sm i g else if j = 2 * h - 1 then g (2 * h - 1) + sm i (fun k => g (h + k)) else if j < i ∨ (h ≤ j ∧ j < h + i) then 0 else g j

theorem sm_bd1 {f : Nat → Int} {K : Int} {n : Nat} (h : ∀ i, i < n → 0 ≤ f i ∧ f i ≤ K) : 0 ≤ sm n f ∧ sm n f ≤ K * n := by
  have := sm_bd (f := f) (a := 0) (b := K) n h
  omega

theorem bd_congr {h : Nat} {f g : Nat → Int} (e : ∀ j, j < 2 * h → f j = g j) : bd h f = bd h g := mr_congr e

section
variable {t h p : Nat} (ht : t = 0 ∨ t = 1) (hp : h = p + 1) (hh : 2 ≤ h ∧ h ≤ 7)
include ht hp hh

omit ht in
theorem cap_p {g1 : List Int} (hl1 : g1.length = 2 * h) {g : Nat → Int} (hg : Bdd h g 400000) {at_ : Nat} (ha : at_ < 2 * p + 1) : mancala_game_sow_2_J1 g1 p (rot t h g) at_ = mancala_game_sow_2_J3 g1 p at_ (rot t h (cap t h p at_ g)) := by
  have hw : w64 (w64 (2 * (p : Int)) - (at_ : Int)) = ((2 * p - at_ : Nat) : Int) := by
    rw [w64_of (x := 2 * (p : Int)) (by omega), w64_of (by omega)]; omega
  have b0 := hg (sg t h p) (sg_lt (by omega))
  have b2 := hg (sg t h (2 * p - at_)) (sg_lt (by omega))
  unfold mancala_game_sow_2_J1
  rw [hw, asrt_pos (by intro _; omega), asrt_pos (by intro _; omega), rot_get (by omega), rot_get (by omega), rot_get (by omega)]
  by_cases q : at_ < p ∧ g (sg t h at_) = 1 ∧ 0 < g (sg t h (2 * p - at_))
  · unfold cap
    rw [if_pos (by simp [q.2.1, q.2.2]; omega), if_pos q, asrt_pos (by omega), asrt_pos (by omega), asrt_pos (by omega), asrt_pos (by omega), asrt_pos (by omega), Int.toNat_natCast, Int.toNat_natCast, Int.toNat_natCast, w64_of (x := 1 + g (sg t h (2 * p - at_))) (by omega), w64_of (by omega), rot_set (by omega), rot_set (by omega), rot_set (by omega)]
  · unfold cap
    rw [if_neg (by simp only [Bool.and_eq_true, decide_eq_true_eq, beq_iff_eq]; intro z; exact q ⟨by omega, z.1.2, z.2⟩), if_neg q]

theorem cap_r {b0 r3 : List Int} (hl0 : b0.length = 2 * h) (hl3 : r3.length = 2 * h) {g : Nat → Int} (hg : Bdd h g 400000) {at_ : Nat} (ha : at_ < 2 * p + 1) : gameroomref_SowOf_J4 b0 t r3 ((sg t h at_ : Nat) : Int) (bd h g) = gameroomref_SowOf_J7 b0 t r3 ((sg t h at_ : Nat) : Int) (bd h (cap t h p at_ g)) := by
  have hH := half hp hh hl0
  have hown := own_w ht hp hh
  have hpl : sg t h at_ < 2 * h := sg_lt (by omega)
  have hol : sg t h p < 2 * h := sg_lt (by omega)
  have hac : sg t h (2 * p - at_) < 2 * h := sg_lt (by omega)
  have b1 := hg _ hol
  have b2 := hg _ hac
  have hdiv : w64 (Int.tdiv ((sg t h at_ : Nat) : Int) (h : Int)) = ((sg t h at_ / h : Nat) : Int) := by
    rw [tdiv_nat, w64_nat (Nat.le_trans (Nat.div_le_self _ _) (by omega))]
  have hcond : (((((sg t h at_ / h : Nat) : Int) == (t : Int)) && (((sg t h at_ : Nat) : Int) != ((sg t h p : Nat) : Int))) = true) ↔ at_ < p := by
    simp only [Bool.and_eq_true, beq_iff_eq, bne_iff_ne, ne_eq]
    have hne : sg t h at_ = sg t h p ↔ at_ = p := ⟨fun e => sg_inj (by omega) (by omega) e, fun e => by rw [e]⟩
    have hd : sg t h at_ / h = t ↔ at_ < h := by
      rcases ht with rfl | rfl
      · rw [sg_0]
        by_cases q : at_ < h
        · rw [Nat.div_eq_of_lt q]; simp [q]
        · have : 1 ≤ at_ / h := (Nat.le_div_iff_mul_le (by omega)).2 (by omega)
          omega
      · rw [sg_1]
        by_cases q : at_ < h
        · rw [if_pos q, Nat.add_div_right _ (by omega), Nat.div_eq_of_lt q]; simp [q]
        · rw [if_neg q, Nat.div_eq_of_lt (by omega)]; simp [q]
    omega
  have hacr : at_ < p → w64 (w64 ((b0.length : Int) - 2) - ((sg t h at_ : Nat) : Int)) = ((sg t h (2 * p - at_) : Nat) : Int) := fun q => by
    rw [w64_of (x := (b0.length : Int) - 2) (by omega), w64_of (by omega), hl0]
    rcases ht with rfl | rfl
    · rw [sg_0, sg_0]; omega
    · rw [sg_1, sg_1, if_pos (by omega), if_neg (by omega)]; omega
  unfold gameroomref_SowOf_J4
  rw [hH, hown, hdiv, asrt_pos (by omega), asrt_pos (by intro _; omega), bd_get hpl]
  by_cases q : at_ < p
  · rw [hacr q, bd_get hac, bd_get hol, hcond.2 q]
    by_cases q1 : g (sg t h at_) = 1
    · rw [if_pos (by simp [q1]), asrt_pos (by omega)]
      by_cases q2 : 0 < g (sg t h (2 * p - at_))
      · unfold cap
        rw [if_pos (decide_eq_true q2), if_pos ⟨q, q1, q2⟩, asrt_pos (by omega), asrt_pos (by omega), asrt_pos (by omega), asrt_pos (by omega), asrt_pos (by omega), Int.toNat_natCast, Int.toNat_natCast, Int.toNat_natCast, w64_of (x := g (sg t h (2 * p - at_)) + 1) (by omega), w64_of (by omega), bd_set, bd_set, bd_set, Int.add_comm (g (sg t h (2 * p - at_))) 1]
      · unfold cap
        rw [if_neg (by simpa using q2), if_neg (fun z => q2 z.2.2)]
    · unfold cap
      rw [if_neg (by simp [q1]), if_neg (fun z => q1 z.2.1)]
  · have hc : ((((sg t h at_ / h : Nat) : Int) == (t : Int)) && (((sg t h at_ : Nat) : Int) != ((sg t h p : Nat) : Int))) = false := by
      rw [Bool.eq_false_iff]; exact fun z => q (hcond.1 z)
    unfold cap
    rw [if_neg (by rw [hc]; simp), if_neg (fun z => q z.1)]

omit ht in
theorem cap_bd {g : Nat → Int} (hg : Bdd h g 400000) {at_ : Nat} (ha : at_ < 2 * p + 1) : Bdd h (cap t h p at_ g) 1000000 := by
  have b1 := hg (sg t h p) (sg_lt (by omega))
  have b2 := hg (sg t h (2 * p - at_)) (sg_lt (by omega))
  unfold cap
  split
  · exact (((hg.mono (by omega)).up' (by omega)).up' (by omega)).up' (by omega)
  · exact hg.mono (by omega)

theorem col_p {g1 : List Int} (hl1 : g1.length = 2 * h) {g : Nat → Int} (hg : Bdd h g 1000000) {at_ : Nat} : mancala_game_sow_2_J3 g1 p at_ (rot t h g) = some (((at_ : Int) == (p : Int)), rot t h (if ovr h p g = true then col h p g else g)) := by
  unfold mancala_game_sow_2_J3
  rw [over_p ht hp hh hg, Option.bind_some]
  by_cases q : ovr h p g = true
  · have hb1 : ∀ i, i < p → 0 ≤ g (sg t h i) ∧ g (sg t h i) ≤ 1000000 := fun i hi => hg _ (sg_lt (by omega))
    have hb2 : ∀ i, i < p → 0 ≤ g (sg t h (h + i)) ∧ g (sg t h (h + i)) ≤ 1000000 := fun i hi => hg _ (sg_lt (by omega))
    have s1 := sm_bd1 hb1
    have s2 := sm_bd1 hb2
    have b0 := hg (sg t h p) (sg_lt (by omega))
    have b1 := hg (sg t h (2 * h - 1)) (sg_lt (by omega))
    have n1 : (1000000 : Int) * (p : Int) ≤ 6000000 := by omega
    have c1 : ∀ f : Nat → Int, cut (rot t h f) 0 (p : Int) = mr p (fun i => f (sg t h i)) := fun f => by
      have := cut_mr (n := 2 * h) (a := 0) (b := p) (f := fun j => f (sg t h j)) (by omega) (by omega)
      simp only [Nat.zero_add, Nat.sub_zero] at this
      exact this
    have c2 : ∀ f : Nat → Int, cut (rot t h f) (h : Int) ((h + p : Nat) : Int) = mr p (fun i => f (sg t h (h + i))) := fun f => by
      have := cut_mr (n := 2 * h) (a := h) (b := h + p) (f := fun j => f (sg t h j)) (by omega) (by omega)
      rw [show h + p - h = p by omega] at this
      exact this
    have e2 : w64 (w64 (2 * (p : Int)) + 1) = ((2 * h - 1 : Nat) : Int) := by rw [w64_of (x := 2 * (p : Int)) (by omega), w64_of (by omega)]; omega
    rw [if_pos q, if_pos q, asrt_pos (by omega), own_p hp hh, Option.bind_some]
    dsimp only
    rw [c1, sum_p (by omega) hb1, Option.bind_some, asrt_pos (by omega), rot_get (by omega), w64_of (by omega), Int.toNat_natCast, rot_set (by omega)]
    unfold mancala_game_sow_2_J5
    rw [e2, asrt_pos (by omega), other_p hp hh, Option.bind_some]
    dsimp only
    have hu : ∀ i, i < p → up g (sg t h p) (g (sg t h p) + sm p (fun i => g (sg t h i))) (sg t h (h + i)) = g (sg t h (h + i)) := fun i hi => by
      unfold up
      rw [if_neg (fun e => by have := sg_inj (by omega) (by omega) e; omega)]
    have hu2 : up g (sg t h p) (g (sg t h p) + sm p (fun i => g (sg t h i))) (sg t h (2 * h - 1)) = g (sg t h (2 * h - 1)) := by
      unfold up
      rw [if_neg (fun e => by have := sg_inj (by omega) (by omega) e; omega)]
    rw [c2, mr_congr hu, sum_p (by omega) hb2, Option.bind_some, asrt_pos (by omega), rot_get (by omega), hu2, w64_of (by omega), Int.toNat_natCast, rot_set (by omega)]
    unfold mancala_game_sow_2_J6
    rw [own_p hp hh, Option.bind_some]
    dsimp only
    rw [c1, mr_length, show (0 : Int).toNat = 0 from rfl]
    have hput1 : ∀ f : Nat → Int, putL (rot t h f) 0 (List.replicate p (0 : Int)) = rot t h (fun j => if sg t h j < p then 0 else f j) := fun f => by
      unfold rot
      rw [putL_mr (by omega)]
      exact mr_congr fun j hj => by
        dsimp only
        rw [sg_sg hj, Nat.zero_add]
        by_cases z : j < p
        · rw [if_pos ⟨by omega, z⟩, if_pos z]
        · rw [if_neg (fun y => z y.2), if_neg z]
    have hput2 : ∀ f : Nat → Int, putL (rot t h f) h (List.replicate p (0 : Int)) = rot t h (fun j => if h ≤ sg t h j ∧ sg t h j < h + p then 0 else f j) := fun f => by
      unfold rot
      rw [putL_mr (by omega)]
      exact mr_congr fun j hj => by dsimp only; rw [sg_sg hj]
    rw [hput1, other_p hp hh, Option.bind_some]
    dsimp only
    rw [c2, mr_length, Int.toNat_natCast, hput2]
    unfold mancala_game_sow_2_J4
    congr 2
    unfold rot
    refine mr_congr fun j hj => ?_
    -- entry by entry
    have hsl := sg_lt (t := t) hj
    dsimp only
    rw [sg_sg hj]
    unfold up col
    have i1 : sg t h j = sg t h (2 * h - 1) ↔ j = 2 * h - 1 := ⟨fun e => sg_inj hj (by omega) e, fun e => by rw [e]⟩
    have i2 : sg t h j = sg t h p ↔ j = p := ⟨fun e => sg_inj hj (by omega) e, fun e => by rw [e]⟩
    by_cases q1 : h ≤ j ∧ j < h + p
    · rw [if_pos q1]
      rcases ht with rfl | rfl
      · rw [sg_0, if_neg (by omega), if_neg (by omega)]
      · have ej : sg 1 h j = j - h := by rw [sg_1, if_neg (by omega)]
        rw [ej, if_neg (by omega), if_neg (by omega)]
    · rw [if_neg q1]
      by_cases q2 : j < p
      · rw [if_pos q2]
        rcases ht with rfl | rfl
        · rw [sg_0, if_neg (by omega), if_neg (by omega)]
        · have ej : sg 1 h j = j + h := by rw [sg_1, if_pos (by omega)]
          rw [ej, if_neg (by omega), if_neg (by omega)]
      · rw [if_neg q2]
        by_cases q3 : j = 2 * h - 1
        · rw [if_pos (i1.2 q3), q3]
          rcases ht with rfl | rfl
          · simp only [sg_0]
            rw [if_neg (by omega), if_pos trivial]
          · have e1 : sg 1 h (2 * h - 1) = p := by rw [sg_1, if_neg (by omega)]; omega
            rw [e1, if_pos rfl, sm_congr p (g := g) (fun i hi => by rw [sg_1, if_neg (by omega), Nat.add_sub_cancel_left])]
        · have q4 : j = p := by omega
          rw [if_neg (fun e => q3 (i1.1 e)), if_pos (i2.2 q4), q4]
          rcases ht with rfl | rfl
          · simp only [sg_0]
            rw [if_pos trivial]
          · have e1 : sg 1 h p = 2 * h - 1 := by rw [sg_1, if_pos (by omega)]; omega
            rw [e1, if_neg (by omega), if_pos rfl, sm_congr p (g := fun i => g (h + i)) (fun i hi => by rw [sg_1, if_pos (by omega), Nat.add_comm])]
  · rw [if_neg q, if_neg q]
    rfl

omit ht in
theorem col_loop {b0 r3 : List Int} (hl0 : b0.length = 2 * h) (hl3 : r3.length = 2 * h) {g : Nat → Int} (hg : Bdd h g 1000000) : loop (gameroomref_SowOf_L2 b0 r3) (bd h g, 0) = some (bd h (col h p g)) := by
  have hH := half hp hh hl0
  have e1 : w64 ((h : Int) - 1) = (p : Int) := by rw [w64_of (by omega)]; omega
  have e2 : w64 ((b0.length : Int) - 1) = ((2 * h - 1 : Nat) : Int) := by rw [w64_of (by omega)]; omega
  refine loop_from (r := bd h (col h p g)) (fun i => (bd h (cg h p i g), (i : Int))) p ?_ ?_ ?_
  · show (bd h (cg h p 0 g), _) = _
    rw [bd_congr (f := cg h p 0 g) (g := g) (fun j hj => by
      unfold cg
      by_cases q : j = p
      · rw [if_pos q, q]; show g p + 0 = _; omega
      · rw [if_neg q]
        by_cases q2 : j = 2 * h - 1
        · rw [if_pos q2, q2]; show g (2 * h - 1) + 0 = _; omega
        · rw [if_neg q2, if_neg (by omega)])]
    rfl
  · intro i hi
    have ha := sm_bd1 (n := i) (f := g) (K := 1000000) (fun k hk => hg k (by omega))
    have hb := sm_bd1 (n := i) (f := fun k => g (h + k)) (K := 1000000) (fun k hk => hg (h + k) (by omega))
    have b1 := hg i (by omega)
    have b2 := hg (h + i) (by omega)
    have b3 := hg p (by omega)
    have b4 := hg (2 * h - 1) (by omega)
    have n1 : (1000000 : Int) * (i : Int) ≤ 6000000 := by omega
    have v1 : cg h p i g p = g p + sm i g := if_pos rfl
    have v2 : cg h p i g i = g i := by unfold cg; rw [if_neg (by omega), if_neg (by omega), if_neg (by omega)]
    have v3 : cg h p i g (2 * h - 1) = g (2 * h - 1) + sm i (fun k => g (h + k)) := by unfold cg; rw [if_neg (by omega), if_pos rfl]
    have v4 : cg h p i g (h + i) = g (h + i) := by unfold cg; rw [if_neg (by omega), if_neg (by omega), if_neg (by omega)]
    have w3 : up (up (cg h p i g) p (cg h p i g p + cg h p i g i)) i 0 (2 * h - 1) = cg h p i g (2 * h - 1) := by unfold up; rw [if_neg (by omega), if_neg (by omega)]
    have w4 : up (up (cg h p i g) p (cg h p i g p + cg h p i g i)) i 0 (h + i) = cg h p i g (h + i) := by unfold up; rw [if_neg (by omega), if_neg (by omega)]
    simp only [gameroomref_SowOf_L2, gameroomref_SowOf_J9, gameroomref_SowOf_J10]
    rw [hH, e1, e2, w64_of (x := (h : Int) + (i : Int)) (by omega), show (h : Int) + (i : Int) = ((h + i : Nat) : Int) by omega, if_pos (decide_eq_true (by omega))]
    rw [asrt_pos (by omega), asrt_pos (by omega), asrt_pos (by omega), asrt_pos (by omega), asrt_pos (by omega), asrt_pos (by omega), asrt_pos (by omega), asrt_pos (by omega)]
    rw [Int.toNat_natCast, Int.toNat_natCast, Int.toNat_natCast, Int.toNat_natCast, bd_get (by omega), bd_get (by omega), w64_of (x := cg h p i g p + cg h p i g i) (by rw [v1, v2]; omega), bd_set, bd_set, bd_get (by omega), bd_get (by omega), w3, w4, w64_of (x := cg h p i g (2 * h - 1) + cg h p i g (h + i)) (by rw [v3, v4]; omega), bd_set, bd_set, w64_of (x := (i : Int) + 1) (by omega)]
    rw [bd_congr (f := up (up (up (up (cg h p i g) p (cg h p i g p + cg h p i g i)) i 0) (2 * h - 1) (cg h p i g (2 * h - 1) + cg h p i g (h + i))) (h + i) 0) (g := cg h p (i + 1) g) (fun j hj => by
      rw [v1, v2, v3, v4]
      unfold up
      by_cases q1 : j = h + i
      · rw [if_pos q1]; unfold cg; rw [if_neg (by omega), if_neg (by omega), if_pos (by omega)]
      · rw [if_neg q1]
        by_cases q2 : j = 2 * h - 1
        · rw [if_pos q2]; unfold cg; rw [if_neg (by omega), if_pos q2, sm_succ]; omega
        · rw [if_neg q2]
          by_cases q3 : j = i
          · rw [if_pos q3]; unfold cg; rw [if_neg (by omega), if_neg q2, if_pos (by omega)]
          · rw [if_neg q3]
            by_cases q4 : j = p
            · rw [if_pos q4]; unfold cg; rw [if_pos q4, sm_succ]; omega
            · rw [if_neg q4]
              unfold cg
              rw [if_neg q4, if_neg q4, if_neg q2, if_neg q2]
              by_cases q5 : j < i ∨ (h ≤ j ∧ j < h + i)
              · rw [if_pos q5, if_pos (by omega)]
              · rw [if_neg q5, if_neg (by omega)])]
    rfl
  · simp only [gameroomref_SowOf_L2]
    rw [hH, e1, if_neg (by simp), bd_congr (f := cg h p p g) (g := col h p g) (fun j hj => by
      unfold cg col
      by_cases q : j = p
      · rw [if_pos q, if_pos q]
      · rw [if_neg q, if_neg q]
        by_cases q2 : j = 2 * h - 1
        · rw [if_pos q2, if_pos q2]
        · rw [if_neg q2, if_neg q2, if_pos (by omega)])]

theorem end_r {b0 r3 : List Int} (hl0 : b0.length = 2 * h) (hl3 : r3.length = 2 * h) {g : Nat → Int} (hg : Bdd h g 1000000) {at_ : Nat} (ha : at_ < 2 * p + 1) : gameroomref_SowOf_J7 b0 t r3 ((sg t h at_ : Nat) : Int) (bd h g) = some (bd h (if ovr h p g = true then col h p g else g), (if ((at_ : Int) == (p : Int)) = true then (t : Int) else w64 (1 - (t : Int))), ((at_ : Int) == (p : Int)), 0) := by
  have hH := half hp hh hl0
  have hown := own_w ht hp hh
  have hag : (((sg t h at_ : Nat) : Int) == ((sg t h p : Nat) : Int)) = ((at_ : Int) == (p : Int)) := by
    rw [Bool.eq_iff_iff, beq_iff_eq, beq_iff_eq]
    constructor
    · intro e
      have := sg_inj (t := t) (h := h) (i := at_) (j := p) (by omega) (by omega) (by omega)
      omega
    · intro e
      rw [show at_ = p by omega]
  have key : ∀ l : List Int, gameroomref_SowOf_J8 b0 t ((sg t h at_ : Nat) : Int) l = some (l, (if ((at_ : Int) == (p : Int)) = true then (t : Int) else w64 (1 - (t : Int))), ((at_ : Int) == (p : Int)), 0) := by
    intro l
    unfold gameroomref_SowOf_J8 gameroomref_SowOf_J11
    rw [hH, hown, hag]
    by_cases q : ((at_ : Int) == (p : Int)) = true
    · rw [if_neg (by rw [q]; simp), if_pos q]
    · rw [if_pos (by simpa using q), if_neg q]
  unfold gameroomref_SowOf_J7
  rw [over_r hp hh hg, Option.bind_some]
  by_cases q : ovr h p g = true
  · rw [if_pos q, if_pos q, col_loop hp hh hl0 hl3 hg, Option.bind_some]
    simp only [gameroomref_SowOf_K2]
    exact key _
  · rw [if_neg q, if_neg q]
    exact key _

omit ht hp hh in
theorem sm_split (f : Nat → Int) (a : Nat) : ∀ b, sm (a + b) f = sm a f + sm b (fun i => f (a + i))
  | 0 => by show sm a f = sm a f + 0; omega
  | b + 1 => by rw [← Nat.add_assoc, sm_succ, sm_split f a b, sm_succ]; omega
omit ht in
theorem sum4 (f : Nat → Int) : sm (2 * h) f = sm p f + f p + sm p (fun i => f (h + i)) + f (2 * h - 1) := by
  rw [show 2 * h = h + (p + 1) by omega, sm_split, sm_succ]
  conv => lhs; rw [show sm h f = sm (p + 1) f by rw [hp], sm_succ]
  rw [show h + (p + 1) - 1 = h + p by omega]
  omega
omit ht hp hh in
theorem sm_nn {f : Nat → Int} : ∀ {n : Nat}, (∀ i, i < n → 0 ≤ f i) → 0 ≤ sm n f
  | 0, _ => Int.le_refl _
  | n + 1, h => by
    have := sm_nn (n := n) (f := f) (fun i hi => h i (by omega))
    have := h n (by omega)
    rw [sm_succ]; omega
omit ht hp hh in
theorem sm_one_le {f : Nat → Int} {k : Nat} : ∀ {n : Nat}, k < n → (∀ i, i < n → 0 ≤ f i) → f k ≤ sm n f
  | 0, hk, _ => by omega
  | n + 1, hk, h => by
    rw [sm_succ]
    have hn := h n (by omega)
    have h0 := sm_nn (n := n) (f := f) (fun i hi => h i (by omega))
    by_cases q : k = n
    · subst q; omega
    · have := sm_one_le (n := n) (f := f) (k := k) (by omega) (fun i hi => h i (by omega)); omega

/-- Each weighs one; each in a pit; how far each is from its store. -/
def omA : Nat → Int := fun _ => 1
def omN (h p : Nat) : Nat → Int := fun j => if j = p ∨ j = 2 * h - 1 then 0 else 1
def omW (h p : Nat) : Nat → Int := fun j => if j = p ∨ j = 2 * h - 1 then 0 else if j < p then 30 + ((p : Int) - j) else 30 + ((h : Int) + p - j)

theorem omN_sg {j : Nat} (hj : j < 2 * h) : omN h p (sg t h j) = omN h p j := by
  rcases ht with rfl | rfl
  · rw [sg_0]
  · rw [sg_1]
    unfold omN
    by_cases q : j < h
    · rw [if_pos q]
      by_cases q2 : j = p
      · rw [if_pos (by omega), if_pos (by omega)]
      · rw [if_neg (by omega), if_neg (by omega)]
    · rw [if_neg q]
      by_cases q2 : j = 2 * h - 1
      · rw [if_pos (by omega), if_pos (by omega)]
      · rw [if_neg (by omega), if_neg (by omega)]
theorem omW_sg {j : Nat} (hj : j < 2 * h) : omW h p (sg t h j) = omW h p j := by
  rcases ht with rfl | rfl
  · rw [sg_0]
  · rw [sg_1]
    unfold omW
    by_cases q : j < h
    · rw [if_pos q]
      by_cases q2 : j = p
      · rw [if_pos (by omega), if_pos (by omega)]
      · rw [if_neg (by omega), if_neg (by omega), if_neg (by omega), if_pos (by omega)]; omega
    · rw [if_neg q]
      by_cases q2 : j = 2 * h - 1
      · rw [if_pos (by omega), if_pos (by omega)]
      · rw [if_neg (by omega), if_pos (by omega), if_neg (by omega), if_neg (by omega)]; omega
omit ht hp hh in
theorem omN_nn (j : Nat) : 0 ≤ omN h p j := by unfold omN; split <;> decide
omit ht hh in
theorem omW_nn {j : Nat} (hj : j < 2 * h) : 0 ≤ omW h p j := by unfold omW; split <;> (try split) <;> omega

omit ht in
/-- Taking adds nothing to weights that stores have none of, and keeps the number of all. -/
theorem wt_cap {om : Nat → Int} (hom : ∀ j, j < 2 * h → om (sg t h j) = om j) (hnn : ∀ j, j < 2 * h → 0 ≤ om j) (hst : om p = 0) {g : Nat → Int} (hg : Bdd h g 400000) {at_ : Nat} (ha : at_ < 2 * p + 1) : wt om h (cap t h p at_ g) ≤ wt om h g := by
  unfold cap
  by_cases q : at_ < p ∧ g (sg t h at_) = 1 ∧ 0 < g (sg t h (2 * p - at_))
  · rw [if_pos q]
    have e1 : sg t h at_ ≠ sg t h p := fun e => by have := sg_inj (t := t) (h := h) (by omega) (by omega) e; omega
    have e2 : sg t h (2 * p - at_) ≠ sg t h p := fun e => by have := sg_inj (t := t) (h := h) (by omega) (by omega) e; omega
    have e3 : sg t h (2 * p - at_) ≠ sg t h at_ := fun e => by have := sg_inj (t := t) (h := h) (by omega) (by omega) e; omega
    rw [wt_up (sg_lt (by omega)), wt_up (sg_lt (by omega)), wt_up (sg_lt (by omega)), hom p (by omega), hst, hom at_ (by omega), hom (2 * p - at_) (by omega)]
    have u1 : up g (sg t h p) (g (sg t h p) + (1 + g (sg t h (2 * p - at_)))) (sg t h at_) = 1 := by unfold up; rw [if_neg e1, q.2.1]
    have u2 : up (up g (sg t h p) (g (sg t h p) + (1 + g (sg t h (2 * p - at_))))) (sg t h at_) 0 (sg t h (2 * p - at_)) = g (sg t h (2 * p - at_)) := by unfold up; rw [if_neg e3, if_neg e2]
    rw [u1, u2]
    have n1 := hnn at_ (by omega)
    have n2 := Int.mul_nonneg (show 0 ≤ g (sg t h (2 * p - at_)) by omega) (hnn (2 * p - at_) (by omega))
    rw [Int.mul_zero, show ((0 : Int) - 1) * om at_ = - om at_ by omega, show (0 - g (sg t h (2 * p - at_))) * om (2 * p - at_) = -(g (sg t h (2 * p - at_)) * om (2 * p - at_)) by rw [Int.sub_mul, Int.zero_mul]; omega]
    omega
  · rw [if_neg q]; exact Int.le_refl _
omit ht in
theorem wt_cap1 {g : Nat → Int} (hg : Bdd h g 400000) {at_ : Nat} (ha : at_ < 2 * p + 1) : wt omA h (cap t h p at_ g) = wt omA h g := by
  unfold cap
  by_cases q : at_ < p ∧ g (sg t h at_) = 1 ∧ 0 < g (sg t h (2 * p - at_))
  · rw [if_pos q]
    have e1 : sg t h at_ ≠ sg t h p := fun e => by have := sg_inj (t := t) (h := h) (by omega) (by omega) e; omega
    have e2 : sg t h (2 * p - at_) ≠ sg t h p := fun e => by have := sg_inj (t := t) (h := h) (by omega) (by omega) e; omega
    have e3 : sg t h (2 * p - at_) ≠ sg t h at_ := fun e => by have := sg_inj (t := t) (h := h) (by omega) (by omega) e; omega
    rw [wt_up (sg_lt (by omega)), wt_up (sg_lt (by omega)), wt_up (sg_lt (by omega))]
    have u1 : up g (sg t h p) (g (sg t h p) + (1 + g (sg t h (2 * p - at_)))) (sg t h at_) = 1 := by unfold up; rw [if_neg e1, q.2.1]
    have u2 : up (up g (sg t h p) (g (sg t h p) + (1 + g (sg t h (2 * p - at_))))) (sg t h at_) 0 (sg t h (2 * p - at_)) = g (sg t h (2 * p - at_)) := by unfold up; rw [if_neg e3, if_neg e2]
    rw [u1, u2]
    unfold omA
    omega
  · rw [if_neg q]

omit ht hp hh in
theorem wt_col {om : Nat → Int} (hnn : ∀ j, j < 2 * h → 0 ≤ om j) (hst : om p = 0) (hst2 : om (2 * h - 1) = 0) {g : Nat → Int} (hg : ∀ j, j < 2 * h → 0 ≤ g j) : wt om h (col h p g) ≤ wt om h g := by
  have e : wt om h (col h p g) = 0 := by
    unfold wt
    rw [sm_congr (2 * h) (g := fun _ => 0) (fun j hj => by
      unfold col
      by_cases q : j = p
      · rw [if_pos q, q, hst]; simp
      · rw [if_neg q]
        by_cases q2 : j = 2 * h - 1
        · rw [if_pos q2, q2, hst2]; simp
        · rw [if_neg q2]; simp), sm_zero]
  rw [e]
  exact sm_nn fun j hj => Int.mul_nonneg (hg j hj) (hnn j hj)
omit ht in
theorem wt_col1 (g : Nat → Int) : wt omA h (col h p g) = wt omA h g := by
  have e : ∀ f : Nat → Int, wt omA h f = sm (2 * h) f := fun f => sm_congr _ fun j _ => by unfold omA; omega
  rw [e, e, sum4 hp hh, sum4 hp hh g]
  have z1 : sm p (col h p g) = 0 := by
    rw [sm_congr p (g := fun _ => 0) (fun j hj => by unfold col; rw [if_neg (by omega), if_neg (by omega)]), sm_zero]
  have z2 : sm p (fun i => col h p g (h + i)) = 0 := by
    rw [sm_congr p (g := fun _ => 0) (fun j hj => by unfold col; rw [if_neg (by omega), if_neg (by omega)]), sm_zero]
  have z3 : col h p g p = g p + sm p g := by unfold col; rw [if_pos rfl]
  have z4 : col h p g (2 * h - 1) = g (2 * h - 1) + sm p (fun i => g (h + i)) := by unfold col; rw [if_neg (by omega), if_pos rfl]
  rw [z1, z2, z3, z4]
  omega

/-- Seeds that may be, few of them in pits. -/
structure Few (h p : Nat) (g : Nat → Int) : Prop where
  nn : ∀ j, j < 2 * h → 0 ≤ g j
  all : wt omA h g ≤ 1000
  few : wt (omN h p) h g ≤ 4

omit ht hp hh in
theorem Few.bdd {g : Nat → Int} (hf : Few h p g) : Bdd h g 1000 := fun j hj => ⟨hf.nn j hj, by
  have h1 := sm_one_le (n := 2 * h) (f := g) hj hf.nn
  have e : wt omA h g = sm (2 * h) g := sm_congr _ fun j _ => by unfold omA; omega
  have := hf.all
  omega⟩

omit ht hp hh in
theorem So_1 (p : Nat) : ∀ hd a : Nat, So omA p a hd = hd
  | 0, _ => rfl
  | hd + 1, a => by
    show omA ((a + 1) % (2 * p + 1)) + So omA p ((a + 1) % (2 * p + 1)) hd = _
    rw [So_1 p hd]; unfold omA; omega
omit ht hp hh in
theorem So_W : ∀ p : Fin 7, ∀ pit : Fin 7, ∀ hd : Fin 5, 1 ≤ p.val → pit.val < p.val → 1 ≤ hd.val → So (omW (p.val + 1) p.val) p.val pit.val hd.val < hd.val * omW (p.val + 1) p.val pit.val ∧ So (omN (p.val + 1) p.val) p.val pit.val hd.val ≤ hd.val := by decide +kernel

/-- A whole move. -/
theorem sow_all {g : Nat → Int} (hf : Few h p g) {pit : Nat} (hpit : pit < p) (h0 : g (sg t h pit) ≠ 0) : ∃ g' ag, mancala_game_sow_2_m (rot t h g) p pit = some (ag, rot t h g') ∧ gameroomref_SowOf_J3 (bd h g) t pit = some (bd h g', (if ag = true then (t : Int) else w64 (1 - (t : Int))), ag, 0) ∧ Few h p g' ∧ wt (omW h p) h g' < wt (omW h p) h g := by
  have hg := hf.bdd
  have hH := half hp hh (bd_len h g)
  have hpl := place_w ht hh (pit := pit) (by omega)
  have hsl : sg t h pit < 2 * h := sg_lt (by omega)
  have hb := hg _ hsl
  obtain ⟨hd, hhd⟩ : ∃ hd : Nat, g (sg t h pit) = (hd : Int) := ⟨(g (sg t h pit)).toNat, by omega⟩
  have hg2 : Bdd h (up g (sg t h pit) 0) 1000 := hg.up' (by omega)
  obtain ⟨g', at', a1, a2, a3, a4, a5⟩ := sow_both ht hp hh (bd_len h g) (r3 := bd h g) (bd_len h g) (g1 := rot t h g) (rot_len t h g) hd pit _ 1000 (by omega) hg2 (by omega) (by omega)
  refine ⟨if ovr h p (cap t h p at' g') = true then col h p (cap t h p at' g') else cap t h p at' g', ((at' : Int) == (p : Int)), ?_, ?_, ?_⟩
  · unfold mancala_game_sow_2_m
    rw [asrt_pos (by rw [rot_len]; omega), asrt_pos (by rw [rot_len]; omega), Int.toNat_natCast, rot_set (by omega), rot_get (by omega), hhd, a3, Option.bind_some]
    simp only [mancala_game_sow_2_K1]
    rw [cap_p hp hh (rot_len t h g) a2 a1, col_p ht hp hh (rot_len t h g) (cap_bd hp hh a2 a1)]
  · unfold gameroomref_SowOf_J3 gameroomref_Ints_m
    rw [asrt_pos (by rw [bd_len]; unfold bigN; omega), Option.bind_some, List.nil_append, hH, hpl, asrt_pos (by rw [bd_len]; omega), asrt_pos (by rw [bd_len]; omega), Int.toNat_natCast, bd_set, bd_get hsl, hhd, a4, Option.bind_some]
    simp only [gameroomref_SowOf_K1]
    rw [cap_r ht hp hh (bd_len h g) (bd_len h g) a2 a1, end_r ht hp hh (bd_len h g) (bd_len h g) (cap_bd hp hh a2 a1) a1]
  · -- the weights
    have wN : ∀ {j : Nat}, j < 2 * h → omN h p (sg t h j) = omN h p j := fun hj => omN_sg ht hp hh hj
    have wW : ∀ {j : Nat}, j < 2 * h → omW h p (sg t h j) = omW h p j := fun hj => omW_sg ht hp hh hj
    have hcb := cap_bd (t := t) hp hh a2 a1
    have hN1 := a5 (omN h p) (fun j hj => wN hj)
    have hW1 := a5 (omW h p) (fun j hj => wW hj)
    have hA1 := a5 omA (fun _ _ => rfl)
    rw [wt_up hsl, hhd] at hN1 hW1 hA1
    rw [wN (by omega)] at hN1
    rw [wW (by omega)] at hW1
    rw [So_1] at hA1
    have oN : omN h p pit = 1 := by unfold omN; rw [if_neg (by omega)]
    have hd4 : hd ≤ 4 := by
      have := sm_one_le (n := 2 * h) (f := fun j => g j * omN h p j) hsl (fun i hi => Int.mul_nonneg (hf.nn i hi) (omN_nn i))
      rw [wN (by omega), oN, hhd] at this
      have := hf.few
      unfold wt at this
      omega
    have hfin := So_W ⟨p, by omega⟩ ⟨pit, by omega⟩ ⟨hd, by omega⟩ (by show 1 ≤ p; omega) hpit (by show 1 ≤ hd; omega)
    dsimp only at hfin
    rw [← hp] at hfin
    rw [oN] at hN1
    have cN := wt_cap (t := t) (h := h) hp hh (om := omN h p) (fun j hj => wN hj) (fun j _ => omN_nn j) (by unfold omN; rw [if_pos (.inl rfl)]) a2 a1
    have cW := wt_cap (t := t) (h := h) hp hh (om := omW h p) (fun j hj => wW hj) (fun j hj => omW_nn hp hj) (by unfold omW; rw [if_pos (.inl rfl)]) a2 a1
    have cA := wt_cap1 (t := t) (h := h) hp hh a2 a1
    have kN := wt_col (h := h) (p := p) (om := omN h p) (fun j _ => omN_nn j) (by unfold omN; rw [if_pos (.inl rfl)]) (by unfold omN; rw [if_pos (.inr rfl)]) (fun j hj => (hcb j hj).1)
    have kW := wt_col (h := h) (p := p) (om := omW h p) (fun j hj => omW_nn hp hj) (by unfold omW; rw [if_pos (.inl rfl)]) (by unfold omW; rw [if_pos (.inr rfl)]) (fun j hj => (hcb j hj).1)
    have kA := wt_col1 hp hh (cap t h p at' g')
    have hall := hf.all
    have hfew := hf.few
    rw [Int.sub_mul, Int.zero_mul] at hW1
    have hA2 : wt omA h g' ≤ 1000 := by
      have e : (0 - (hd : Int)) * omA (sg t h pit) = -(hd : Int) := by unfold omA; omega
      rw [e] at hA1; omega
    by_cases q : ovr h p (cap t h p at' g') = true
    · rw [if_pos q]
      refine ⟨⟨fun j hj => ?_, by rw [kA, cA]; exact hA2, by omega⟩, by omega⟩
      have b1 := sm_bd1 (n := p) (f := cap t h p at' g') (fun i hi => hcb i (by omega))
      have b2 := sm_bd1 (n := p) (f := fun i => cap t h p at' g' (h + i)) (fun i hi => hcb (h + i) (by omega))
      have b3 := hcb p (by omega)
      have b4 := hcb (2 * h - 1) (by omega)
      unfold col
      split
      · omega
      · split <;> omega
    · rw [if_neg q]
      exact ⟨⟨fun j hj => (hcb j hj).1, by rw [cA]; exact hA2, by omega⟩, by omega⟩
end
end Go.Proofs.Ytogecbgngnjhgaa
