/-
  DiceExplodes: the plain law: the ways of exploding dice, counted throw by throw, are the powers of the sides.
-/
import Derived.Test.YtnplejebgbdfpaaM2
import Derived.Test.YtnplejebgbdfpaaLibN
namespace Go.Proofs.Ytnplejebgbdfpaa
open Go Go.GL

/-- A throw of k + 1 dice, told as a number: the sum as far as it explodes. -/
def ex (s : Nat) : Nat → Nat → Nat
  | 0, x => x % s + 1
  | k + 1, x => if x % s + 1 < s then x % s + 1 else s + ex s k (x / s)

theorem ex_pos (s : Nat) (k x : Nat) : 1 ≤ ex s k x := by
  induction k generalizing x with
  | zero => simp [ex]
  | succ k ih => simp only [ex]; split
                 · omega
                 · have := ih (x / s); omega
theorem ex_le (s : Nat) (hs : 0 < s) (k x : Nat) : ex s k x ≤ s * (k + 1) := by
  induction k generalizing x with
  | zero => have := Nat.mod_lt x hs; simp only [ex]; omega
  | succ k ih =>
    have h1 := Nat.mod_lt x hs
    have h2 := ih (x / s)
    have h3 : s * (k + 1 + 1) = s * (k + 1) + s := Nat.mul_succ _ _
    simp only [ex]; split <;> omega

/-- The ways by rule: place j of depth d. -/
def ew (s d j : Nat) : Nat := if j / s ≤ d ∧ (j % s + 1 < s ∨ j / s = d) then s ^ (d - j / s) else 0

theorem cnt_block (s v c : Nat) (hs : 0 < s) : cntN (fun r => decide ((if r + 1 < s then r + 1 else s + c) = v)) s = (if 1 ≤ v ∧ v < s then 1 else 0) + (if decide (s + c = v) then 1 else 0) := by
  obtain ⟨m, rfl⟩ : ∃ m, s = m + 1 := ⟨s - 1, by omega⟩
  simp only [cntN]
  have h1 : cntN (fun r => decide ((if r + 1 < m + 1 then r + 1 else m + 1 + c) = v)) m = if 1 ≤ v ∧ v < m + 1 then 1 else 0 := by
    by_cases hv : 1 ≤ v
    · have := cntN_one (v - 1) m
      rw [cntN_congr (q := fun r => decide (r = v - 1)) (fun i hi => by rw [if_pos (by omega)]; exact decide_eq_decide.mpr (by omega)), this]
      by_cases h : v - 1 < m
      · rw [if_pos h, if_pos ⟨hv, by omega⟩]
      · rw [if_neg h, if_neg (by omega)]
    · rw [cntN_false (fun i hi => by rw [if_pos (by omega)]; exact decide_eq_false (by omega)), if_neg (by omega)]
  rw [h1]
  simp only [Nat.lt_irrefl, if_false]

theorem cnt_ex (s : Nat) (hs : 0 < s) : ∀ (d j : Nat), cntN (fun x => decide (ex s d x = j + 1)) (s ^ (d + 1)) = ew s d j
  | 0, j => by
    have h : cntN (fun x => decide (ex s 0 x = j + 1)) s = if j < s then 1 else 0 := by
      rw [← cntN_one j s]
      exact cntN_congr fun i hi => decide_eq_decide.mpr (by simp only [ex, Nat.mod_eq_of_lt hi]; omega)
    simp only [Nat.zero_add, Nat.pow_one]
    rw [h]
    unfold ew
    by_cases hj : j < s
    · rw [if_pos hj, if_pos ⟨by rw [Nat.div_eq_of_lt hj]; omega, .inr (Nat.div_eq_of_lt hj)⟩, Nat.div_eq_of_lt hj]; rfl
    · rw [if_neg hj, if_neg]
      intro h
      have : 1 ≤ j / s := Nat.div_pos (by omega) hs
      omega
  | d + 1, j => by
    rw [Nat.pow_succ, Nat.mul_comm, cntN_mul]
    have h1 : sumN (fun q => cntN (fun r => decide (ex s (d + 1) (s * q + r) = j + 1)) s) (s ^ (d + 1)) =
        sumN (fun q => (if 1 ≤ j + 1 ∧ j + 1 < s then 1 else 0) + (if decide (s + ex s d q = j + 1) then 1 else 0)) (s ^ (d + 1)) := by
      refine sumN_congr fun q _ => ?_
      rw [← cnt_block s (j + 1) (ex s d q) hs]
      refine cntN_congr fun r hr => ?_
      have e1 : (s * q + r) % s = r := by rw [Nat.mul_add_mod, Nat.mod_eq_of_lt hr]
      have e2 : (s * q + r) / s = q := by rw [Nat.mul_add_div hs, Nat.div_eq_of_lt hr]; rfl
      simp only [ex, e1, e2]
    rw [h1, sumN_const]
    by_cases hj : s ≤ j
    · have ih := cnt_ex s hs d (j - s)
      rw [cntN_congr (q := fun x => decide (ex s d x = j - s + 1)) (fun i _ => decide_eq_decide.mpr (by omega)), ih, if_neg (by omega)]
      have e1 : j / s = (j - s) / s + 1 := by
        conv => lhs; rw [show j = (j - s) + s by omega]
        exact Nat.add_div_right _ hs
      have e2 : j % s = (j - s) % s := by
        conv => lhs; rw [show j = (j - s) + s by omega]
        exact Nat.add_mod_right _ _
      unfold ew
      rw [e1, e2, Nat.mul_zero, Nat.zero_add, show d + 1 - ((j - s) / s + 1) = d - (j - s) / s by omega]
      refine ite_congr (propext ?_) (fun _ => rfl) (fun _ => rfl)
      constructor
      · rintro ⟨a, b⟩; exact ⟨by omega, by omega⟩
      · rintro ⟨a, b⟩; exact ⟨by omega, by omega⟩
    · rw [cntN_false (fun i _ => decide_eq_false (by have := ex_pos s d i; omega))]
      unfold ew
      rw [Nat.div_eq_of_lt (by omega), Nat.mod_eq_of_lt (by omega)]
      by_cases h : j + 1 < s
      · rw [if_pos ⟨by omega, h⟩, if_pos ⟨by omega, .inl h⟩]; simp
      · rw [if_neg (by omega), if_neg (by omega)]; simp

/-! The reference counts so. -/
theorem pow_le_of {s : Nat} (hs : 0 < s) {a b : Nat} (h : a ≤ b) : s ^ a ≤ s ^ b := Nat.pow_le_pow_right hs h

theorem ex_loop (s d x : Nat) (hs : 0 < s) (hs' : s ≤ 20) (hd : d ≤ 4) (hx : x < 100000) : loop (gameroomref_ExplodeWays_L2 s d) ((x : Int), 0, 0) = some ((ex s d x : Nat) : Int) := by
  have key : ∀ k i y c : Nat, i + k = d → y < 100000 → c ≤ 20 * i → loop (gameroomref_ExplodeWays_L2 s d) ((y : Int), (c : Int), (i : Int)) = some ((c + ex s k y : Nat) : Int) := by
    intro k
    induction k with
    | zero =>
      intro i y c hi hy hc
      have hm := Nat.mod_lt y hs
      have hv : y / s ≤ y := Nat.div_le_self _ _
      have hv0 : (0 : Int) ≤ ((y / s : Nat) : Int) := Int.natCast_nonneg _
      by_cases h : y % s + 1 < s
      · refine loop_done ?_
        simp only [gameroomref_ExplodeWays_L2, gameroomref_ExplodeWays_J5, tmod_nat, tdiv_nat]
        rw [if_pos (by simp; omega), asrt_pos (by omega), asrt_pos (by omega), w64_of (x := ((y % s : Nat) : Int) + 1) (by omega), if_pos (by simp; omega), w64_of (by omega)]
        simp only [ex]
        rfl
      · refine loop_next' (s' := (((y / s : Nat) : Int), ((c + (y % s + 1) : Nat) : Int), ((i + 1 : Nat) : Int))) ?_ (loop_done ?_)
        · simp only [gameroomref_ExplodeWays_L2, gameroomref_ExplodeWays_J5, gameroomref_ExplodeWays_J6, tmod_nat, tdiv_nat]
          rw [if_pos (by simp; omega), asrt_pos (by omega), asrt_pos (by omega), w64_of (x := ((y % s : Nat) : Int) + 1) (by omega), if_neg (by simp; omega), w64_of (x := (i : Int) + 1) (by omega), w64_of (x := ((y / s : Nat) : Int)) (by omega), w64_of (by omega)]
          rfl
        · simp only [gameroomref_ExplodeWays_L2]
          rw [if_neg (by simp; omega)]
          simp only [ex]
    | succ k ih =>
      intro i y c hi hy hc
      have hm := Nat.mod_lt y hs
      have hv : y / s ≤ y := Nat.div_le_self _ _
      have hv0 : (0 : Int) ≤ ((y / s : Nat) : Int) := Int.natCast_nonneg _
      by_cases h : y % s + 1 < s
      · refine loop_done ?_
        simp only [gameroomref_ExplodeWays_L2, gameroomref_ExplodeWays_J5, tmod_nat, tdiv_nat]
        rw [if_pos (by simp; omega), asrt_pos (by omega), asrt_pos (by omega), w64_of (x := ((y % s : Nat) : Int) + 1) (by omega), if_pos (by simp; omega), w64_of (by omega)]
        simp only [ex]
        rw [if_pos h]
        rfl
      · refine loop_next' (s' := (((y / s : Nat) : Int), ((c + s : Nat) : Int), ((i + 1 : Nat) : Int))) ?_ ?_
        · simp only [gameroomref_ExplodeWays_L2, gameroomref_ExplodeWays_J5, gameroomref_ExplodeWays_J6, tmod_nat, tdiv_nat]
          rw [if_pos (by simp; omega), asrt_pos (by omega), asrt_pos (by omega), w64_of (x := ((y % s : Nat) : Int) + 1) (by omega), if_neg (by simp; omega), w64_of (x := (i : Int) + 1) (by omega), w64_of (x := ((y / s : Nat) : Int)) (by omega), w64_of (by omega)]
          simp only [Option.some.injEq, St.next.injEq, Prod.mk.injEq, true_and]
          constructor <;> omega
        · have hc2 : c + s ≤ 20 * (i + 1) := by omega
          rw [ih (i + 1) (y / s) (c + s) (by omega) (by omega) hc2]
          simp only [ex]
          rw [if_neg h]
          congr 1
          omega
  have := key d 0 x 0 (by omega) hx (by omega)
  simpa using this


theorem explodeWays_ok (s d : Nat) (hs : 0 < s) (hs' : s ≤ 20) (hd : d ≤ 4) (hp : s ^ (d + 1) ≤ 100000) (ha : gameroomref_allWays_m s ((d + 1 : Nat) : Int) = some ((s ^ (d + 1) : Nat) : Int)) :
    gameroomref_ExplodeWays_m s d = some (mr (s * (d + 1)) fun j => ((ew s d j : Nat) : Int)) := by
  have hb : s * (d + 1) ≤ 100 := Nat.mul_le_mul hs' (by omega : d + 1 ≤ 5)
  have ed : w64 ((d : Int) + 1) = ((d + 1 : Nat) : Int) := by rw [w64_of (by omega)]; omega
  have em : w64 ((s : Int) * ((d + 1 : Nat) : Int)) = ((s * (d + 1) : Nat) : Int) := by rw [show (s : Int) * ((d + 1 : Nat) : Int) = ((s * (d + 1) : Nat) : Int) by simp]; exact w64_of (by omega)
  have key : loop (gameroomref_ExplodeWays_L1 s d ((s ^ (d + 1) : Nat) : Int)) (List.replicate (Int.toNat ((s * (d + 1) : Nat) : Int)) (0 : Int), 0) = some (mr (s * (d + 1)) fun j => ((ew s d j : Nat) : Int)) := by
    refine loop_from (fun w => (mr (s * (d + 1)) (fun j => ((cntN (fun x => decide (ex s d x = j + 1)) w : Nat) : Int)), (w : Int))) (s ^ (d + 1)) ?_ (fun w hw => ?_) ?_
    · rw [Int.toNat_natCast, mr_rep]; rfl
    · have hl := ex_le s hs d w
      have hq := ex_pos s d w
      have e1 : w64 ((ex s d w : Int) - 1) = ((ex s d w - 1 : Nat) : Int) := by rw [w64_of (by omega)]; omega
      simp only [gameroomref_ExplodeWays_L1, gameroomref_ExplodeWays_J2]
      rw [if_pos (decide_eq_true (Int.ofNat_lt.mpr hw)), ex_loop s d w hs hs' hd (by omega)]
      simp only [Option.bind_some, gameroomref_ExplodeWays_K2, gameroomref_ExplodeWays_J4, gameroomref_ExplodeWays_J3, e1]
      rw [asrt_pos ⟨by omega, by rw [mr_length]; omega⟩, asrt_pos ⟨by omega, by rw [mr_length]; omega⟩, mr_geti (by omega), Int.toNat_natCast, mr_set, w64_of (x := (w : Int) + 1) (by omega)]
      have hc := cntN_le (fun x => decide (ex s d x = ex s d w - 1 + 1)) w
      rw [w64_of (by omega)]
      simp only [Option.some.injEq, St.next.injEq, Prod.mk.injEq]
      refine ⟨mr_congr fun j _ => ?_, by omega⟩
      simp only [cntN, decide_eq_true_eq]
      by_cases hj : j = ex s d w - 1
      · subst hj
        rw [if_pos rfl, if_pos (by omega)]
        omega
      · rw [if_neg hj, if_neg (by omega)]
        rfl
    · simp only [gameroomref_ExplodeWays_L1]
      rw [if_neg (by simp)]
      exact congrArg (fun l => some (St.done l)) (mr_congr fun j _ => by rw [cnt_ex s hs d j])
  unfold gameroomref_ExplodeWays_m
  rw [ed, em, asrt_pos ⟨by omega, by unfold bigN; omega⟩, ha]
  simp only [Option.bind_some]
  rw [key]
  rfl

theorem sameInts_refl (l : List Int) (hl : l.length ≤ 1000) : gameroomlaw_sameInts_m l l = some true := by
  unfold gameroomlaw_sameInts_m
  rw [if_neg (by simp)]
  unfold gameroomlaw_sameInts_J1
  have key : loop (gameroomlaw_sameInts_L1 l l) 0 = some (.go ()) := by
    refine loop_from (fun i => (i : Int)) l.length rfl (fun i hi => ?_) ?_
    · simp only [gameroomlaw_sameInts_L1, gameroomlaw_sameInts_J3, gameroomlaw_sameInts_J4]
      rw [if_pos (by simp; omega), asrt_pos ⟨by omega, by omega⟩, asrt_pos ⟨by omega, by omega⟩, if_neg (by simp), w64_of (by omega)]
      rfl
    · simp only [gameroomlaw_sameInts_L1]
      rw [if_neg (by simp)]
  rw [key]
  rfl

def ewl (s d : Nat) : List Int := mr (s * (d + 1)) fun j => ((ew s d j : Nat) : Int)

/-- What is told by counting up small cases. -/
noncomputable def exCase (s d : Nat) : Bool :=
  if 100000 < s ^ (d + 1) then decide (gameroomlaw_DiceExplodes_mN 10 s d = some true)
  else decide (gameroomref_allWays_mN 10 s ((d + 1 : Nat) : Int) = some ((s ^ (d + 1) : Nat) : Int)) && decide (dice_Exploding_mN 30 s d = some (ewl s d, 0)) &&
    decide (loopN (gameroomlaw_DiceExplodes_L1 s d) 10 (1, 0) = some ((s ^ (d + 1) : Nat) : Int))

set_option maxRecDepth 100000 in
theorem exCases : ((List.range 20).all fun s => (List.range 5).all fun d => exCase (s + 1) d) = true := by decide +kernel

theorem true_DiceExplodes (s d : Int) (_ : inI s) (_ : inI d) : gameroomlaw_DiceExplodes_m s d = some true := by
  by_cases h1 : s < 1 ∨ 20 < s
  · have e1 : (decide (s < 1) || decide ((20 : Int) < s)) = true := by simpa using h1
    unfold gameroomlaw_DiceExplodes_m dice_Exploding_m
    simp only [e1, if_true, Option.bind_some]
    rfl
  have e1 : (decide (s < 1) || decide ((20 : Int) < s)) = false := by simp; omega
  by_cases h2 : d < 0 ∨ 4 < d
  · have e2 : (decide (d < 0) || decide ((4 : Int) < d)) = true := by simpa using h2
    unfold gameroomlaw_DiceExplodes_m dice_Exploding_m
    simp only [e1, e2, if_true, Bool.not_true, Bool.false_eq_true, if_false, Option.bind_some, Bool.true_or]
    rfl
  have e2 : (decide (d < 0) || decide ((4 : Int) < d)) = false := by simp; omega
  have hc := List.all_eq_true.mp (List.all_eq_true.mp exCases (s - 1).toNat (List.mem_range.mpr (by omega))) d.toNat (List.mem_range.mpr (by omega))
  obtain ⟨a, rfl⟩ : ∃ a : Nat, s = a := ⟨s.toNat, by omega⟩
  obtain ⟨b, rfl⟩ : ∃ b : Nat, d = b := ⟨d.toNat, by omega⟩
  rw [show ((a : Int) - 1).toNat + 1 = a by omega, show (b : Int).toNat = b by omega] at hc
  unfold exCase at hc
  split at hc
  · exact gameroomlaw_DiceExplodes_m_le 10 a b true (of_decide_eq_true hc)
  · rename_i hp
    simp only [Bool.and_eq_true, decide_eq_true_eq] at hc
    obtain ⟨⟨c1, c2⟩, c3⟩ := hc
    have r1 := gameroomref_allWays_m_le 10 _ _ _ c1
    have r2 := dice_Exploding_m_le 30 _ _ _ c2
    have r3 := loop_of c3
    have r4 := explodeWays_ok a b (by omega) (by omega) (by omega) (by omega) r1
    unfold gameroomlaw_DiceExplodes_m
    rw [r2, e1, e2, r3]
    simp only [Option.bind_some, Bool.false_eq_true, if_false, gameroomlaw_DiceExplodes_K1, gameroomlaw_DiceExplodes_J2, gameroomlaw_DiceExplodes_J1, gameroomlaw_DiceExplodes_J5]
    rw [if_neg (by rw [decide_eq_true_eq]; exact fun h => hp (Int.ofNat_lt.mp h)), r4]
    simp only [bne_self_eq_false, Bool.false_eq_true, if_false, beq_self_eq_true, if_true, Option.bind_some]
    have hl : (ewl a b).length ≤ 1000 := by
      have : a * (b + 1) ≤ 20 * 5 := Nat.mul_le_mul (by omega) (by omega)
      unfold ewl; rw [mr_length]; omega
    rw [show (mr (a * (b + 1)) fun j => ((ew a b j : Nat) : Int)) = ewl a b from rfl, sameInts_refl _ hl]
    rfl

end Go.Proofs.Ytnplejebgbdfpaa
