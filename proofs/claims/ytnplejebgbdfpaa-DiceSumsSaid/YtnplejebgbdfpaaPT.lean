/-
  DiceSums: the plain law: sums of dice are counted alike; a duel is counted alike.
-/
import Derived.Test.YtnplejebgbdfpaaNS
import Derived.Test.YtnplejebgbdfpaaPA
import Derived.Test.YtnplejebgbdfpaaLibM
namespace Go.Proofs.Ytnplejebgbdfpaa
open Go Go.GL

theorem sumN_le {f : Nat → Nat} {M : Nat} : ∀ {n : Nat}, (∀ i, i < n → f i ≤ M) → sumN f n ≤ n * M
  | 0, _ => by simp [sumN]
  | n + 1, h => by
    have ih := sumN_le (n := n) fun i hi => h i (by omega)
    have h1 := h n (by omega)
    simp only [sumN, Nat.succ_mul]; omega
theorem sumN_zero {f : Nat → Nat} : ∀ {n : Nat}, (∀ i, i < n → f i = 0) → sumN f n = 0
  | 0, _ => rfl
  | n + 1, h => by
    have ih := sumN_zero (n := n) fun i hi => h i (by omega)
    simp only [sumN, ih, h n (by omega)]

/-- One die more: it shows 0 to d - 1. -/
def cnv (d : Nat) (f : Nat → Nat) (s : Nat) : Nat := sumN (fun k => if k ≤ s then f (s - k) else 0) d
/-- .. as far as the first i places went. -/
def cnvTo (d : Nat) (f : Nat → Nat) (i j : Nat) : Nat := sumN (fun k => if k ≤ j ∧ j - k < i then f (j - k) else 0) d

theorem cnvTo_succ (f : Nat → Nat) (i j : Nat) : ∀ d, cnvTo d f (i + 1) j = cnvTo d f i j + if i ≤ j ∧ j - i < d then f i else 0
  | 0 => by simp [cnvTo, sumN]
  | d + 1 => by
    have ih := cnvTo_succ f i j d
    unfold cnvTo at ih ⊢
    simp only [sumN]
    rw [ih]
    by_cases h : d ≤ j ∧ j - d = i
    · have c1 : ¬ (i ≤ j ∧ j - i < d) := by omega
      have c2 : d ≤ j ∧ j - d < i + 1 := by omega
      have c3 : ¬ (d ≤ j ∧ j - d < i) := by omega
      have c4 : i ≤ j ∧ j - i < d + 1 := by omega
      rw [if_neg c1, if_pos c2, if_neg c3, if_pos c4, h.2]
    · by_cases h1 : d ≤ j ∧ j - d < i
      · have c2 : d ≤ j ∧ j - d < i + 1 := by omega
        rw [if_pos c2, if_pos h1]
        by_cases h2 : i ≤ j ∧ j - i < d
        · have c4 : i ≤ j ∧ j - i < d + 1 := by omega
          rw [if_pos h2, if_pos c4]; omega
        · have c4 : ¬ (i ≤ j ∧ j - i < d + 1) := by omega
          rw [if_neg h2, if_neg c4]; omega
      · have c2 : ¬ (d ≤ j ∧ j - d < i + 1) := by omega
        rw [if_neg c2, if_neg h1]
        by_cases h2 : i ≤ j ∧ j - i < d
        · have c4 : i ≤ j ∧ j - i < d + 1 := by omega
          rw [if_pos h2, if_pos c4]; omega
        · have c4 : ¬ (i ≤ j ∧ j - i < d + 1) := by omega
          rw [if_neg h2, if_neg c4]
theorem cnvTo_zero (d : Nat) (f : Nat → Nat) (j : Nat) : cnvTo d f 0 j = 0 := sumN_zero fun k _ => by rw [if_neg (by omega)]
theorem cnvTo_all {d L : Nat} {f : Nat → Nat} (hf : ∀ j, L ≤ j → f j = 0) (j : Nat) : cnvTo d f L j = cnv d f j := sumN_congr fun k _ => by
  by_cases h : k ≤ j
  · by_cases h2 : j - k < L
    · rw [if_pos ⟨h, h2⟩, if_pos h]
    · rw [if_neg (by omega), if_pos h, hf _ (by omega)]
  · rw [if_neg (by omega), if_neg h]

def dd (l : List Int) (i : Nat) : Nat := (l.getD i 0).toNat
def pw (l : List Int) : Nat → Nat → Nat
  | 0, j => if j = 0 then 1 else 0
  | i + 1, j => cnv (dd l i) (pw l i) j
def pl_ (l : List Int) : Nat → Nat
  | 0 => 1
  | i + 1 => pl_ l i + (dd l i - 1)

section
variable {l : List Int} (hd : ∀ i, i < l.length → 1 ≤ dd l i ∧ dd l i ≤ 20 ∧ l.getD i 0 = (dd l i : Int)) (hn : l.length ≤ 10)
include hd hn

theorem pl_le : ∀ i, i ≤ l.length → 1 ≤ pl_ l i ∧ pl_ l i ≤ 1 + 19 * i
  | 0, _ => by simp [pl_]
  | i + 1, h => by
    have ih := pl_le i (by omega)
    have := hd i (by omega)
    simp only [pl_]; omega

omit hn in
theorem pw_le : ∀ i, i ≤ l.length → ∀ j, pw l i j ≤ 20 ^ i
  | 0, _, j => by simp only [pw]; split <;> simp
  | i + 1, h, j => by
    have ih := pw_le i (by omega)
    have h2 := hd i (by omega)
    simp only [pw, cnv]
    have := sumN_le (M := 20 ^ i) (f := fun k => if k ≤ j then pw l i (j - k) else 0) (n := dd l i) fun k _ => by
      split
      · exact ih _
      · exact Nat.zero_le _
    calc _ ≤ dd l i * 20 ^ i := this
      _ ≤ 20 * 20 ^ i := Nat.mul_le_mul_right _ h2.2.1
      _ = 20 ^ (i + 1) := by rw [Nat.pow_succ, Nat.mul_comm]

omit hn in
theorem pw_out : ∀ i, i ≤ l.length → ∀ j, pl_ l i ≤ j → pw l i j = 0
  | 0, _, j, hj => by simp only [pl_] at hj; simp only [pw]; rw [if_neg (by omega)]
  | i + 1, h, j, hj => by
    have ih := pw_out i (by omega)
    have h2 := hd i (by omega)
    simp only [pl_] at hj
    simp only [pw, cnv]
    exact sumN_zero fun k hk => by
      split
      · exact ih _ (by omega)
      · rfl

omit hd in
theorem p20 : ∀ i, i ≤ l.length → 20 ^ i ≤ 10240000000000 := fun i hi => by
  calc 20 ^ i ≤ 20 ^ 10 := Nat.pow_le_pow_right (by omega) (by omega)
    _ = 10240000000000 := by decide

/-- The program's next list: after i places, and k faces of the next. -/
theorem sums_inner (i z2 : Nat) (hi : i < l.length) (hz : z2 < pl_ l i) :
    loop (dice_Sums_L3 l (mr (pl_ l i) fun j => (pw l i j : Int)) i z2) (mr (pl_ l (i + 1)) (fun j => (cnvTo (dd l i) (pw l i) z2 j : Int)), 0) =
      some (mr (pl_ l (i + 1)) fun j => (cnvTo (dd l i) (pw l i) (z2 + 1) j : Int)) := by
  have h2 := hd i hi
  have hL := pl_le hd hn i (by omega)
  have hL' := pl_le hd hn (i + 1) (by omega)
  have hlen : pl_ l (i + 1) = pl_ l i + (dd l i - 1) := rfl
  have hp := pw_le hd i (by omega)
  have hb := p20 hn i (by omega)
  refine loop_from (fun t => (mr (pl_ l (i + 1)) (fun j => ((cnvTo (dd l i) (pw l i) z2 j + if z2 ≤ j ∧ j - z2 < t then pw l i z2 else 0 : Nat) : Int)), (t : Int))) (dd l i) ?_ (fun t ht => ?_) ?_
  · show (_, _) = (_, _)
    refine Prod.ext (mr_congr fun j _ => ?_) rfl
    rw [if_neg (by omega)]; rfl
  · have hlt : z2 + t < pl_ l (i + 1) := by omega
    have hq : cnvTo (dd l i) (pw l i) z2 (z2 + t) ≤ 204800000000000 := by
      have := sumN_le (M := 10240000000000) (f := fun k => if k ≤ z2 + t ∧ z2 + t - k < z2 then pw l i (z2 + t - k) else 0) (n := dd l i) fun k _ => by
        split
        · exact Nat.le_trans (hp _) hb
        · omega
      unfold cnvTo
      have h3 : dd l i * 10240000000000 ≤ 20 * 10240000000000 := Nat.mul_le_mul_right _ h2.2.1
      omega
    have hpz := Nat.le_trans (hp z2) hb
    simp only [dice_Sums_L3, dice_Sums_J8, dice_Sums_J9]
    have e1 : w64 ((z2 : Int) + (t : Int)) = ((z2 + t : Nat) : Int) := by rw [w64_of (by omega)]; omega
    rw [geti_nat, h2.2.2, if_pos (by simp; omega), e1, mr_length, asrt_pos ⟨by omega, by omega⟩, asrt_pos ⟨by omega, by omega⟩, mr_geti hlt, mr_geti hz, Int.toNat_natCast, mr_set, w64_of (x := (t : Int) + 1) (by omega),
      w64_of (by rw [if_neg (by omega)]; omega)]
    simp only [Option.some.injEq, St.next.injEq, Prod.mk.injEq]
    refine ⟨mr_congr fun j hj => ?_, by omega⟩
    by_cases hj1 : j = z2 + t
    · subst hj1
      rw [if_pos rfl, if_neg (by omega), if_pos ⟨by omega, by omega⟩]; omega
    · rw [if_neg hj1]
      by_cases hj2 : z2 ≤ j ∧ j - z2 < t
      · rw [if_pos hj2, if_pos ⟨hj2.1, by omega⟩]
      · rw [if_neg hj2, if_neg (by omega)]
  · simp only [dice_Sums_L3]
    rw [geti_nat, h2.2.2, if_neg (by simp)]
    exact congrArg (fun x => some (St.done x)) (mr_congr fun j _ => by rw [cnvTo_succ])

theorem sums_outer (i : Nat) (hi : i < l.length) : loop (dice_Sums_L2 l (mr (pl_ l i) fun j => (pw l i j : Int)) i) (List.replicate (pl_ l (i + 1)) (0 : Int), 0) = some (mr (pl_ l (i + 1)) fun j => (pw l (i + 1) j : Int)) := by
  have hL := pl_le hd hn i (by omega)
  refine loop_from (fun z => (mr (pl_ l (i + 1)) (fun j => (cnvTo (dd l i) (pw l i) z j : Int)), (z : Int))) (pl_ l i) ?_ (fun z hz => ?_) ?_
  · show (_, _) = (_, _)
    rw [mr_rep]
    refine Prod.ext (mr_congr fun j _ => ?_) rfl
    rw [cnvTo_zero]; rfl
  · simp only [dice_Sums_L2, dice_Sums_J6]
    rw [mr_length, if_pos (by simp; omega), asrt_pos ⟨by omega, by omega⟩, sums_inner hd hn i z hi hz]
    simp only [Option.bind_some, dice_Sums_K3, dice_Sums_J7]
    rw [w64_of (by omega)]
    rfl
  · simp only [dice_Sums_L2]
    rw [mr_length, if_neg (by simp)]
    exact congrArg (fun x => some (St.done x)) (mr_congr fun j _ => by rw [cnvTo_all (pw_out hd i (by omega))]; rfl)

theorem sums_loop : loop (dice_Sums_L1 l) (([1] : List Int), 0) = some (mr (pl_ l l.length) fun j => (pw l l.length j : Int)) := by
  refine loop_from (fun i => (mr (pl_ l i) (fun j => (pw l i j : Int)), (i : Int))) l.length (by rfl) (fun i hi => ?_) ?_
  · have h2 := hd i hi
    have hL := pl_le hd hn i (by omega)
    have e1 : w64 ((w64 (((pl_ l i : Nat) : Int) + ((dd l i : Nat) : Int))) - 1) = ((pl_ l (i + 1) : Nat) : Int) := by
      rw [w64_of (x := ((pl_ l i : Nat) : Int) + _) (by omega), w64_of (by omega)]; simp only [pl_]; omega
    have hL' := pl_le hd hn (i + 1) (by omega)
    simp only [dice_Sums_L1, dice_Sums_J3]
    rw [if_pos (by simp; omega), asrt_pos ⟨by omega, by omega⟩, mr_length, geti_nat, h2.2.2, e1, asrt_pos ⟨by omega, by unfold bigN; omega⟩, Int.toNat_natCast, sums_outer hd hn i hi]
    simp only [Option.bind_some, dice_Sums_K2, dice_Sums_J5, dice_Sums_J4]
    rw [w64_of (by omega)]
    rfl
  · simp only [dice_Sums_L1]
    rw [if_neg (by simp)]

/-! The other way. -/
omit hd hn in
theorem sumN_min (f : Nat → Nat) (s : Nat) : ∀ d, sumN f (min d s) = sumN (fun k => if k < s then f k else 0) d
  | 0 => by simp [sumN]
  | d + 1 => by
    have ih := sumN_min f s d
    simp only [sumN]
    rw [← ih]
    by_cases h : d < s
    · rw [if_pos h, show min (d + 1) s = d + 1 by omega, show min d s = d by omega]; rfl
    · rw [if_neg h, show min (d + 1) s = min d s by omega]; rfl
def rwf (l : List Int) (i s : Nat) : Nat := if i ≤ s then pw l i (s - i) else 0
omit hd hn in
theorem rwf_succ (i s : Nat) : rwf l (i + 1) s = sumN (fun k => rwf l i (s - (k + 1))) (min (dd l i) s) := by
  rw [sumN_min]
  unfold rwf
  by_cases h : i + 1 ≤ s
  · rw [if_pos h]
    simp only [pw, cnv]
    refine sumN_congr fun k _ => ?_
    by_cases h1 : k ≤ s - (i + 1)
    · rw [if_pos h1, if_pos (by omega), if_pos (by omega), show s - (k + 1) - i = s - (i + 1) - k by omega]
    · rw [if_neg h1]
      by_cases h2 : k < s
      · rw [if_pos h2, if_neg (by omega)]
      · rw [if_neg h2]
  · rw [if_neg h]
    exact (sumN_zero fun k _ => by
      by_cases h2 : k < s
      · rw [if_pos h2, if_neg (by omega)]
      · rw [if_neg h2]).symm

def sd (l : List Int) : Nat → Nat
  | 0 => 0
  | i + 1 => sd l i + dd l i

omit hn in
theorem sd_pl : ∀ i, i ≤ l.length → sd l i + 1 = pl_ l i + i
  | 0, _ => rfl
  | i + 1, h => by
    have ih := sd_pl i (by omega)
    have := hd i (by omega)
    simp only [sd, pl_]; omega
omit hd hn in
theorem sd_mono : ∀ {i j : Nat}, i ≤ j → sd l i ≤ sd l j
  | i, 0, h => by rw [show i = 0 by omega]; exact Nat.le_refl _
  | i, j + 1, h => by
    by_cases he : i = j + 1
    · rw [he]; exact Nat.le_refl _
    · have := sd_mono (i := i) (j := j) (by omega)
      simp only [sd]; omega

theorem rwf_le (i : Nat) (hi : i ≤ l.length) (s : Nat) : rwf l i s ≤ 10240000000000 := by
  unfold rwf
  split
  · exact Nat.le_trans (pw_le hd i hi _) (p20 hn i hi)
  · omega

theorem sw_inner (M i s : Nat) (hi : i < l.length) (hs : s ≤ M) (hM : M ≤ 200) :
    loop (gameroomref_SumWays_L4 l (mr (M + 1) fun j => (rwf l i j : Int)) i s) (mr (M + 1) (fun j => ((if j < s then rwf l (i + 1) j else 0 : Nat) : Int)), 1) =
      some (mr (M + 1) fun j => ((if j < s + 1 then rwf l (i + 1) j else 0 : Nat) : Int)) := by
  have h2 := hd i hi
  refine loop_from (fun t => (mr (M + 1) (fun j => ((if j < s then rwf l (i + 1) j else if j = s then sumN (fun k => rwf l i (s - (k + 1))) t else 0 : Nat) : Int)), ((t + 1 : Nat) : Int))) (min (dd l i) s) ?_ (fun t ht => ?_) ?_
  · show (_, _) = (_, _)
    refine Prod.ext (mr_congr fun j _ => ?_) rfl
    simp only [sumN, ite_self]
  · have hq : sumN (fun k => rwf l i (s - (k + 1))) t ≤ t * 10240000000000 := sumN_le fun k _ => rwf_le hd hn i (by omega) _
    have hq2 : t * 10240000000000 ≤ 20 * 10240000000000 := Nat.mul_le_mul_right _ (by omega)
    have hr := rwf_le hd hn i (by omega) (s - (t + 1))
    have e1 : w64 ((s : Int) - ((t + 1 : Nat) : Int)) = ((s - (t + 1) : Nat) : Int) := by rw [w64_of (by omega)]; omega
    simp only [gameroomref_SumWays_L4, gameroomref_SumWays_J10, gameroomref_SumWays_J11]
    rw [asrt_pos ⟨by omega, by omega⟩, geti_nat, h2.2.2, if_pos (by simp; omega), mr_length, mr_length, asrt_pos ⟨by omega, by omega⟩, e1, asrt_pos ⟨by omega, by omega⟩, asrt_pos ⟨by omega, by omega⟩,
      mr_geti (by omega), mr_geti (by omega), Int.toNat_natCast, mr_set, w64_of (x := ((t + 1 : Nat) : Int) + 1) (by omega), if_neg (Nat.lt_irrefl _), if_pos rfl, w64_of (by omega)]
    simp only [Option.some.injEq, St.next.injEq, Prod.mk.injEq]
    refine ⟨mr_congr fun j hj => ?_, by omega⟩
    by_cases hj1 : j = s
    · subst hj1
      rw [if_pos rfl, if_neg (Nat.lt_irrefl _), if_pos rfl]
      simp only [sumN]; omega
    · rw [if_neg hj1]
      simp only [if_neg hj1]
  · simp only [gameroomref_SumWays_L4]
    rw [asrt_pos ⟨by omega, by omega⟩, geti_nat, h2.2.2, if_neg (by simp; omega)]
    refine congrArg (fun x => some (St.done x)) (mr_congr fun j _ => ?_)
    rw [← rwf_succ]
    by_cases hj1 : j < s
    · rw [if_pos hj1, if_pos (by omega)]
    · by_cases hj2 : j = s
      · rw [if_neg hj1, if_pos hj2, if_pos (by omega), hj2]
      · rw [if_neg hj1, if_neg hj2, if_neg (by omega)]

theorem sw_outer (M i : Nat) (hi : i < l.length) (hM : M ≤ 200) :
    loop (gameroomref_SumWays_L3 l (M : Int) (mr (M + 1) fun j => (rwf l i j : Int)) i) (List.replicate (M + 1) (0 : Int), 0) = some (mr (M + 1) fun j => (rwf l (i + 1) j : Int)) := by
  refine loop_from (fun s => (mr (M + 1) (fun j => ((if j < s then rwf l (i + 1) j else 0 : Nat) : Int)), (s : Int))) (M + 1) ?_ (fun s hs => ?_) ?_
  · show (_, _) = (_, _)
    rw [mr_rep]
    refine Prod.ext (mr_congr fun j _ => ?_) rfl
    rw [if_neg (by omega)]; rfl
  · simp only [gameroomref_SumWays_L3, gameroomref_SumWays_J8]
    rw [if_pos (by simp; omega), sw_inner hd hn M i s hi (by omega) hM]
    simp only [Option.bind_some, gameroomref_SumWays_K4, gameroomref_SumWays_J9]
    rw [w64_of (by omega)]
    rfl
  · simp only [gameroomref_SumWays_L3]
    rw [if_neg (by simp; omega)]
    exact congrArg (fun x => some (St.done x)) (mr_congr fun j hj => by rw [if_pos hj])

omit hd hn in
theorem mr_drop (a n : Nat) (g : Nat → Int) : (mr a g).drop n = mr (a - n) (fun j => g (n + j)) := by
  apply List.ext_getElem?
  intro j
  rw [List.getElem?_drop]
  by_cases hj : j < a - n
  · rw [mr_get (by omega), mr_get hj]
  · rw [List.getElem?_eq_none (by rw [mr_length]; omega), List.getElem?_eq_none (by rw [mr_length]; omega)]

theorem sumWays_ok : gameroomref_SumWays_m l = some (mr (pl_ l l.length) fun j => (pw l l.length j : Int)) := by
  have hM := sd_pl hd l.length (Nat.le_refl _)
  have hL := pl_le hd hn l.length (Nat.le_refl _)
  have k1 : loop (gameroomref_SumWays_L1 l) (0, 0) = some ((sd l l.length : Nat) : Int) := by
    refine loop_from (fun i => (((sd l i : Nat) : Int), (i : Int))) l.length rfl (fun i hi => ?_) ?_
    · have h2 := hd i hi
      have := sd_mono (l := l) (i := i) (j := l.length) (by omega)
      simp only [gameroomref_SumWays_L1, gameroomref_SumWays_J2, gameroomref_SumWays_J3]
      rw [if_pos (by simp; omega), asrt_pos ⟨by omega, by omega⟩, geti_nat, h2.2.2, w64_of (by omega), w64_of (by omega)]
      rfl
    · simp only [gameroomref_SumWays_L1]
      rw [if_neg (by simp)]
  generalize hMe : sd l l.length = M at hM k1
  have e1 : w64 ((M : Int) + 1) = ((M + 1 : Nat) : Int) := by rw [w64_of (by omega)]; omega
  have k2 : loop (gameroomref_SumWays_L2 l (M : Int)) ((List.replicate (M + 1) (0 : Int)).set (Int.toNat 0) 1, 0) = some (mr (M + 1) fun j => (rwf l l.length j : Int)) := by
    refine loop_from (fun i => (mr (M + 1) (fun j => (rwf l i j : Int)), (i : Int))) l.length ?_ (fun i hi => ?_) ?_
    · show (_, _) = (_, _)
      rw [mr_rep]
      refine Prod.ext ?_ rfl
      show _ = (mr (M + 1) fun _ => 0).set 0 1
      rw [mr_set]
      refine mr_congr fun j _ => ?_
      unfold rwf pw
      by_cases hj : j = 0
      · rw [if_pos hj, if_pos (by omega), if_pos (by omega)]; rfl
      · rw [if_neg hj, if_pos (by omega), if_neg (by omega)]; rfl
    · simp only [gameroomref_SumWays_L2, gameroomref_SumWays_J5]
      rw [if_pos (by simp; omega), e1, asrt_pos ⟨by omega, by unfold bigN; omega⟩, Int.toNat_natCast, sw_outer hd hn M i hi (by omega)]
      simp only [Option.bind_some, gameroomref_SumWays_K3, gameroomref_SumWays_J7, gameroomref_SumWays_J6]
      rw [w64_of (by omega)]
      rfl
    · simp only [gameroomref_SumWays_L2]
      rw [if_neg (by simp)]
  unfold gameroomref_SumWays_m
  rw [k1]
  simp only [Option.bind_some, gameroomref_SumWays_K1, gameroomref_SumWays_J1]
  rw [e1, asrt_pos ⟨by omega, by unfold bigN; omega⟩, Int.toNat_natCast, asrt_pos ⟨by omega, by simp⟩, k2]
  simp only [Option.bind_some, gameroomref_SumWays_K2, gameroomref_SumWays_J4]
  rw [asrt_pos ⟨by omega, by rw [mr_length]; omega, by omega⟩, cut_drop _ _ (by rw [mr_length]; omega), mr_drop, show M + 1 - l.length = pl_ l l.length by omega]
  refine congrArg some (mr_congr fun j _ => ?_)
  unfold rwf
  rw [if_pos (by omega), show l.length + j - l.length = j by omega]
end

/-! What is refused -/
theorem may_ok (l : List Int) (hb : l.length ≤ 17592186043904) : ∃ r, gameroomref_DiceMay_m l = some r ∧ dice_check_m l = some r ∧ (r = 0 → 1 ≤ l.length ∧ l.length ≤ 10 ∧ ∀ i, i < l.length → 1 ≤ l.getD i 0 ∧ l.getD i 0 ≤ 20) := by
  unfold gameroomref_DiceMay_m dice_check_m gameroomref_within_m
  simp only [Option.bind_some]
  by_cases h : 1 ≤ l.length ∧ l.length ≤ 10
  · have e1 : (decide ((1 : Int) ≤ (l.length : Int)) && decide ((l.length : Int) ≤ 10)) = true := by simp; omega
    have e2 : (decide ((l.length : Int) < 1) || decide ((10 : Int) < (l.length : Int))) = false := by simp; omega
    rw [e1, e2]
    simp only [Bool.not_true, Bool.false_eq_true, if_false]
    unfold gameroomref_DiceMay_J1 dice_check_J1 slices_ContainsFunc_f96_m slices_IndexFunc_f96_m
    by_cases hx : ∃ i, i < l.length ∧ ¬ (1 ≤ l.getD i 0 ∧ l.getD i 0 ≤ 20)
    · obtain ⟨k, ⟨hk, hne⟩, hmin⟩ := exists_least hx
      have hlow : ∀ i, i < k → 1 ≤ l.getD i 0 ∧ l.getD i 0 ≤ 20 := fun i hi => by
        apply Classical.byContradiction
        intro hn
        have := hmin i ⟨by omega, hn⟩
        omega
      have k1 : loop (gameroomref_DiceMay_L1 l) 0 = some (.ret 3) := by
        refine loop_from (fun i => (i : Int)) k rfl (fun i hi => ?_) ?_
        · have := hlow i hi
          simp only [gameroomref_DiceMay_L1, gameroomref_DiceMay_J3, gameroomref_DiceMay_J4, gameroomref_within_m]
          rw [if_pos (by simp; omega), asrt_pos ⟨by omega, by omega⟩, geti_nat]
          simp only [Option.bind_some]
          rw [if_neg (by simp only [Bool.not_eq_true', Bool.and_eq_false_iff, decide_eq_false_iff_not]; omega), w64_of (by omega)]
          rfl
        · simp only [gameroomref_DiceMay_L1, gameroomref_DiceMay_J3, gameroomref_DiceMay_J4, gameroomref_within_m]
          rw [if_pos (by simp; omega), asrt_pos ⟨by omega, by omega⟩, geti_nat]
          simp only [Option.bind_some]
          rw [if_pos (by simp only [Bool.not_eq_true', Bool.and_eq_false_iff, decide_eq_false_iff_not]; omega)]
      have k2 : loop (slices_IndexFunc_f96_L1 l) 0 = some (.ret (k : Int)) := by
        refine loop_from (fun i => (i : Int)) k rfl (fun i hi => ?_) ?_
        · have := hlow i hi
          simp only [slices_IndexFunc_f96_L1, slices_IndexFunc_f96_J2, slices_IndexFunc_f96_J3, dice_check_1_m]
          rw [if_pos (by simp; omega), asrt_pos ⟨by omega, by omega⟩, geti_nat]
          simp only [Option.bind_some]
          rw [if_neg (by simp only [Bool.or_eq_true, decide_eq_true_eq]; omega), w64_of (by omega)]
          rfl
        · simp only [slices_IndexFunc_f96_L1, slices_IndexFunc_f96_J2, slices_IndexFunc_f96_J3, dice_check_1_m]
          rw [if_pos (by simp; omega), asrt_pos ⟨by omega, by omega⟩, geti_nat]
          simp only [Option.bind_some]
          rw [if_pos (by simp only [Bool.or_eq_true, decide_eq_true_eq]; omega)]
      rw [k1, k2]
      refine ⟨3, rfl, ?_, by omega⟩
      simp [slices_IndexFunc_f96_K1]
    · have hall : ∀ i, i < l.length → 1 ≤ l.getD i 0 ∧ l.getD i 0 ≤ 20 := fun i hi => by
        apply Classical.byContradiction
        intro hn
        exact hx ⟨i, hi, hn⟩
      have k1 : loop (gameroomref_DiceMay_L1 l) 0 = some (.go ()) := by
        refine loop_from (fun i => (i : Int)) l.length rfl (fun i hi => ?_) ?_
        · have := hall i hi
          simp only [gameroomref_DiceMay_L1, gameroomref_DiceMay_J3, gameroomref_DiceMay_J4, gameroomref_within_m]
          rw [if_pos (by simp; omega), asrt_pos ⟨by omega, by omega⟩, geti_nat]
          simp only [Option.bind_some]
          rw [if_neg (by simp only [Bool.not_eq_true', Bool.and_eq_false_iff, decide_eq_false_iff_not]; omega), w64_of (by omega)]
          rfl
        · simp only [gameroomref_DiceMay_L1]
          rw [if_neg (by simp)]
      have k2 : loop (slices_IndexFunc_f96_L1 l) 0 = some (.go ()) := by
        refine loop_from (fun i => (i : Int)) l.length rfl (fun i hi => ?_) ?_
        · have := hall i hi
          simp only [slices_IndexFunc_f96_L1, slices_IndexFunc_f96_J2, slices_IndexFunc_f96_J3, dice_check_1_m]
          rw [if_pos (by simp; omega), asrt_pos ⟨by omega, by omega⟩, geti_nat]
          simp only [Option.bind_some]
          rw [if_neg (by simp only [Bool.or_eq_true, decide_eq_true_eq]; omega), w64_of (by omega)]
          rfl
        · simp only [slices_IndexFunc_f96_L1]
          rw [if_neg (by simp)]
      rw [k1, k2]
      exact ⟨0, rfl, by simp [slices_IndexFunc_f96_K1, slices_IndexFunc_f96_J1, dice_check_J2], fun _ => ⟨h.1, h.2, hall⟩⟩
  · have e1 : (decide ((1 : Int) ≤ (l.length : Int)) && decide ((l.length : Int) ≤ 10)) = false := by
      simp only [Bool.and_eq_false_iff, decide_eq_false_iff_not]; omega
    have e2 : (decide ((l.length : Int) < 1) || decide ((10 : Int) < (l.length : Int))) = true := by simp only [Bool.or_eq_true, decide_eq_true_eq]; omega
    rw [e1, e2]
    exact ⟨2, rfl, rfl, by omega⟩

/-! A duel -/
theorem loop_same {S R : Type} {step step' : S → Option (St S R)} (I : S → Prop) (h : ∀ s, I s → step s = step' s) (hn : ∀ s s', I s → step s = some (.next s') → I s') (s : S) (hs : I s) : loop step s = loop step' s := by
  have key : ∀ n s, I s → loopN step n s = loopN step' n s := by
    intro n
    induction n with
    | zero => intro s _; rfl
    | succ n ih =>
      intro s hs
      simp only [loopN]
      rw [← h s hs]
      cases hx : step s with
      | none => rfl
      | some o =>
        cases o with
        | next s' => exact ih s' (hn s s' hs hx)
        | done r => rfl
  by_cases hx : ∃ r, ∃ n, loopN step n s = some r
  · obtain ⟨r, n, hr⟩ := hx
    rw [loop_of hr, loop_of (by rw [← key n s hs]; exact hr)]
  · have hx' : ¬ ∃ r, ∃ n, loopN step' n s = some r := fun ⟨r, n, hr⟩ => hx ⟨r, n, by rw [key n s hs]; exact hr⟩
    unfold loop
    rw [dif_neg hx, dif_neg hx']

def inR (n : Nat) (i : Int) : Prop := 0 ≤ i ∧ i ≤ n

theorem duel_in (a b : List Int) (i : Int) (ha : 0 ≤ i ∧ i < a.length) : dice_Duel_L3 a b i = gameroomlaw_DiceSums_L2 a b i := by
  funext ⟨x, y, z, k⟩
  simp only [dice_Duel_L3, gameroomlaw_DiceSums_L2, dice_Duel_J7, gameroomlaw_DiceSums_J7, dice_Duel_J8, gameroomlaw_DiceSums_J8, asrt, if_pos ha]
  by_cases hk : 0 ≤ k ∧ k < (b.length : Int)
  · simp only [if_pos hk]
  · simp only [if_neg hk]

theorem duel_inner (a b : List Int) (i : Int) (ha : 0 ≤ i ∧ i < a.length) (hb : b.length ≤ 20) (x y z : Int) : ∃ r, loop (gameroomlaw_DiceSums_L2 a b i) (x, y, z, 0) = some r := by
  obtain ⟨r, hr, _⟩ := loop_inv (step := gameroomlaw_DiceSums_L2 a b i) (fun s => 0 ≤ s.2.2.2 ∧ s.2.2.2 ≤ b.length) (fun s => (b.length - s.2.2.2).toNat) (fun _ => True) (x, y, z, 0) ⟨by simp, by simp⟩ (fun s hs => by
    obtain ⟨x, y, z, k⟩ := s
    simp only at hs
    simp only [gameroomlaw_DiceSums_L2, gameroomlaw_DiceSums_J7, gameroomlaw_DiceSums_J8]
    by_cases hk : k < b.length
    · have hw : w64 (k + 1) = k + 1 := w64_of (by omega)
      rw [if_pos (by simpa using hk), asrt_pos ha, asrt_pos ⟨hs.1, hk⟩, hw]
      by_cases h1 : geti b k < geti a i
      · rw [if_pos (by simpa using h1)]
        exact ⟨_, rfl, ⟨by simp only; omega, by simp only; omega⟩, by simp only; omega⟩
      · rw [if_neg (by simpa using h1), asrt_pos ha, asrt_pos ⟨hs.1, hk⟩]
        by_cases h2 : geti a i = geti b k
        · rw [if_pos (by simpa using h2)]
          exact ⟨_, rfl, ⟨by simp only; omega, by simp only; omega⟩, by simp only; omega⟩
        · rw [if_neg (by simpa using h2)]
          exact ⟨_, rfl, ⟨by simp only; omega, by simp only; omega⟩, by simp only; omega⟩
    · rw [if_neg (by simpa using hk)]
      exact ⟨_, rfl, trivial⟩)
  exact ⟨r, hr⟩

theorem duel_step (a b : List Int) (hb : b.length ≤ 20) (x y z i : Int) (ha : 0 ≤ i ∧ i < a.length) (ha' : a.length ≤ 20) : ∃ r : Int × Int × Int, gameroomlaw_DiceSums_L1 a b (x, y, z, i) = some (.next (r.1, r.2.1, r.2.2, i + 1)) := by
  obtain ⟨r, hr⟩ := duel_inner a b i ha hb x y z
  refine ⟨r, ?_⟩
  simp only [gameroomlaw_DiceSums_L1, gameroomlaw_DiceSums_J5]
  rw [if_pos (by simpa using ha.2), hr]
  simp only [Option.bind_some, gameroomlaw_DiceSums_K2, gameroomlaw_DiceSums_J6]
  rw [w64_of (by omega)]

theorem duel_all (a b : List Int) (ha : a.length ≤ 20) (hb : b.length ≤ 20) : loop (dice_Duel_L2 a b) (0, 0, 0, 0) = loop (gameroomlaw_DiceSums_L1 a b) (0, 0, 0, 0) ∧ ∃ r, loop (gameroomlaw_DiceSums_L1 a b) (0, 0, 0, 0) = some r := by
  have hstep : ∀ s : Int × Int × Int × Int, (0 ≤ s.2.2.2 ∧ s.2.2.2 ≤ a.length) → dice_Duel_L2 a b s = gameroomlaw_DiceSums_L1 a b s := by
    rintro ⟨x, y, z, i⟩ hs
    simp only at hs
    simp only [dice_Duel_L2, gameroomlaw_DiceSums_L1, dice_Duel_J5, gameroomlaw_DiceSums_J5]
    by_cases hi : i < a.length
    · rw [if_pos (by simpa using hi), if_pos (by simpa using hi), asrt_pos ⟨hs.1, hi⟩, duel_in a b i ⟨hs.1, hi⟩]
      rfl
    · rw [if_neg (by simpa using hi), if_neg (by simpa using hi)]
  constructor
  · refine loop_same (fun s : Int × Int × Int × Int => 0 ≤ s.2.2.2 ∧ s.2.2.2 ≤ (a.length : Int)) hstep (fun s s' hs he => ?_) _ ⟨by simp, by simp⟩
    rw [hstep s hs] at he
    obtain ⟨x, y, z, i⟩ := s
    simp only at hs
    by_cases hi : i < a.length
    · obtain ⟨r, hr⟩ := duel_step a b hb x y z i ⟨hs.1, hi⟩ ha
      rw [hr] at he
      injection he with he
      injection he with he
      subst he
      exact ⟨by simp only; omega, by simp only; omega⟩
    · simp only [gameroomlaw_DiceSums_L1] at he
      rw [if_neg (by simpa using hi)] at he
      injection he with he
      cases he
  · obtain ⟨r, hr, _⟩ := loop_inv (step := gameroomlaw_DiceSums_L1 a b) (fun s => 0 ≤ s.2.2.2 ∧ s.2.2.2 ≤ a.length) (fun s => (a.length - s.2.2.2).toNat) (fun _ => True) (0, 0, 0, 0) ⟨by simp, by simp⟩ (fun s hs => by
      obtain ⟨x, y, z, i⟩ := s
      simp only at hs
      by_cases hi : i < a.length
      · obtain ⟨r, hr⟩ := duel_step a b hb x y z i ⟨hs.1, hi⟩ ha
        exact ⟨_, hr, ⟨by simp only; omega, by simp only; omega⟩, by simp only; omega⟩
      · simp only [gameroomlaw_DiceSums_L1]
        rw [if_neg (by simpa using hi)]
        exact ⟨_, rfl, trivial⟩)
    exact ⟨r, hr⟩

theorem duel_ok (a b : List Int) : ∃ r, dice_Duel_m a b = some r ∧ gameroomlaw_DiceSums_J1 a b r = some true := by
  have w1 : w64 (1 : Int) = 1 := w64_of (by omega)
  have w0 : w64 ((0 : Int) + 1) = 1 := w64_of (by omega)
  have w2 : w64 ((1 : Int) + 1) = 2 := w64_of (by omega)
  by_cases hA : a.length < 1 ∨ 20 < a.length
  · have k1 : loop (dice_Duel_L1 a b) (0, 0, 0, 0) = some (.ret (0, 0, 0, 3)) := by
      refine loop_done ?_
      simp only [dice_Duel_L1, dice_Duel_J2]
      rw [if_pos (by simp), asrt_pos ⟨by omega, by simp⟩, if_pos (by simp [geti2]; omega)]
    refine ⟨(0, 0, 0, 3), by unfold dice_Duel_m; rw [k1]; rfl, ?_⟩
    unfold gameroomlaw_DiceSums_J1
    rw [if_pos (by simp only [Bool.or_eq_true, decide_eq_true_eq]; omega)]
    rfl
  · by_cases hB : b.length < 1 ∨ 20 < b.length
    · have k1 : loop (dice_Duel_L1 a b) (0, 0, 0, 0) = some (.ret (0, 0, 0, 3)) := by
        refine loop_next' (s' := (0, 0, 0, 1)) ?_ (loop_done ?_)
        · simp only [dice_Duel_L1, dice_Duel_J2, dice_Duel_J3]
          rw [if_pos (by simp), asrt_pos ⟨by omega, by simp⟩, if_neg (by simp [geti2]; omega), w0]
        · simp only [dice_Duel_L1, dice_Duel_J2]
          rw [if_pos (by simp), asrt_pos ⟨by omega, by simp⟩, if_pos (by simp [geti2]; omega)]
      refine ⟨(0, 0, 0, 3), by unfold dice_Duel_m; rw [k1]; rfl, ?_⟩
      unfold gameroomlaw_DiceSums_J1
      rw [if_pos (by simp only [Bool.or_eq_true, decide_eq_true_eq]; omega)]
      rfl
    · have k1 : loop (dice_Duel_L1 a b) (0, 0, 0, 0) = some (.go (0, 0, 0)) := by
        refine loop_next' (s' := (0, 0, 0, 1)) ?_ (loop_next' (s' := (0, 0, 0, 2)) ?_ (loop_done ?_))
        · simp only [dice_Duel_L1, dice_Duel_J2, dice_Duel_J3]
          rw [if_pos (by simp), asrt_pos ⟨by omega, by simp⟩, if_neg (by simp [geti2]; omega), w0]
        · simp only [dice_Duel_L1, dice_Duel_J2, dice_Duel_J3]
          rw [if_pos (by simp), asrt_pos ⟨by omega, by simp⟩, if_neg (by simp [geti2]; omega), w2]
        · simp only [dice_Duel_L1]
          rw [if_neg (by simp)]
      obtain ⟨hs, ⟨x, y, z⟩, hr⟩ := duel_all a b (by omega) (by omega)
      refine ⟨(x, y, z, 0), ?_, ?_⟩
      · unfold dice_Duel_m
        rw [k1]
        simp only [Option.bind_some, dice_Duel_K1, dice_Duel_J1]
        rw [hs, hr]
        rfl
      · unfold gameroomlaw_DiceSums_J1
        rw [if_neg (by simp only [Bool.or_eq_true, decide_eq_true_eq]; omega)]
        unfold gameroomlaw_DiceSums_J3
        rw [hr]
        simp [gameroomlaw_DiceSums_K1, gameroomlaw_DiceSums_J4]

theorem true_DiceSums (l a b : List Int) (hl : l.length ≤ 17592186043904) (_ : ∀ y ∈ l, inI y) (ha : a.length ≤ 17592186043904) (_ : ∀ y ∈ a, inI y) (hb : b.length ≤ 17592186043904) (_ : ∀ y ∈ b, inI y) : gameroomlaw_DiceSums_m l a b = some true := by
  obtain ⟨r6, h6, hc, h0⟩ := may_ok l hl
  obtain ⟨r5, h5, hj⟩ := duel_ok a b
  unfold gameroomlaw_DiceSums_m
  rw [ints_ok l (by unfold bigN; omega), ints_ok a (by unfold bigN; omega), ints_ok b (by unfold bigN; omega)]
  simp only [Option.bind_some]
  rw [h5, h6]
  unfold dice_Sums_m
  rw [hc]
  simp only [Option.bind_some]
  by_cases hz : r6 = 0
  · subst hz
    obtain ⟨n1, n10, hr⟩ := h0 rfl
    have hd : ∀ i, i < l.length → 1 ≤ dd l i ∧ dd l i ≤ 20 ∧ l.getD i 0 = (dd l i : Int) := fun i hi => by
      have := hr i hi
      unfold dd
      omega
    have hL := pl_le hd n10 l.length (Nat.le_refl _)
    rw [if_neg (by simp)]
    unfold dice_Sums_J1
    rw [sums_loop hd n10]
    simp only [Option.bind_some, dice_Sums_K1, dice_Sums_J2]
    rw [if_neg (by simp), sumWays_ok hd n10]
    simp only [bne_self_eq_false, Bool.not_false, if_true, Option.bind_some]
    rw [sameInts_ok _ _ (by rw [mr_length]; unfold bigN; omega)]
    simp only [decide_true, Option.bind_some, Bool.not_true, Bool.or_false]
    unfold gameroomlaw_DiceSums_J2
    rw [if_neg (by simp)]
    exact hj
  · rw [if_pos (by simpa using hz)]
    simp only [Option.bind_some]
    rw [if_pos (by simpa using hz), if_neg (by simp)]
    exact hj
end Go.Proofs.Ytnplejebgbdfpaa
