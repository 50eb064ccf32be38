/-
  Tours: the knight's field.
-/
import Derived.Test.YtlpaklmfgldkoaaDoorNTW
import Derived.Test.YtlpaklmfgldkoaaDoorLibX
import Derived.Test.YtlpaklmfgldkoaaDoorLibY
import Derived.Test.YtlpaklmfgldkoaaDoorLibN
namespace Go.Proofs.YtlpaklmfgldkoaaDoor
open Go Go.GL

def stepB (w a b : Nat) : Bool := decide (((((a % w : Nat) : Int) - ((b % w : Nat) : Int)) * (((a / w : Nat) : Int) - ((b / w : Nat) : Int))).natAbs = 2)
def knb (w N p : Nat) : List Int := ((List.range N).filter (fun b => stepB w p b)).map (fun (b : Nat) => (b : Int))
def lx (j : Nat) : Int := geti glob0 ((j : Int) * 2)
def ly (j : Nat) : Int := geti glob0 ((j : Int) * 2 + 1)
def inB (w h p j : Nat) : Bool := ((decide ((0 : Int) ≤ ((p % w : Nat) : Int) + lx j) && decide (((p % w : Nat) : Int) + lx j < (w : Int))) && decide ((0 : Int) ≤ ((p / w : Nat) : Int) + ly j)) && decide (((p / w : Nat) : Int) + ly j < (h : Int))
def vaB (w p j : Nat) : Int := (((p / w : Nat) : Int) + ly j) * (w : Int) + (((p % w : Nat) : Int) + lx j)
def rowAt (w h p k : Nat) : List Int := ((List.range k).filter (inB w h p)).map (vaB w p)

def chk : Bool := (List.range' 1 8).all fun w => (List.range' 1 8).all fun h => (List.range (w * h)).all fun p => rowAt w h p 8 == knb w (w * h) p
theorem chk_ok : chk = true := by decide +kernel

section
variable {w h : Nat}

theorem rows_eq (hw : 1 ≤ w ∧ w ≤ 8) (hh : 1 ≤ h ∧ h ≤ 8) {p : Nat} (hp : p < w * h) : rowAt w h p 8 = knb w (w * h) p := by
  have h1 := List.all_eq_true.1 chk_ok w (List.mem_range'_1.2 (by omega))
  have h2 := List.all_eq_true.1 h1 h (List.mem_range'_1.2 (by omega))
  have h3 := List.all_eq_true.1 h2 p (List.mem_range.2 hp)
  exact beq_iff_eq.1 h3

theorem wh64 (hw : 1 ≤ w ∧ w ≤ 8) (hh : 1 ≤ h ∧ h ≤ 8) : w * h ≤ 64 := Nat.mul_le_mul hw.2 hh.2
theorem w64_wh (hw : 1 ≤ w ∧ w ≤ 8) (hh : 1 ≤ h ∧ h ≤ 8) : w64 ((w : Int) * (h : Int)) = ((w * h : Nat) : Int) := by
  have := wh64 hw hh
  rw [← Int.natCast_mul, w64_of (by omega)]

theorem tdivN (a b : Nat) : Int.tdiv (a : Int) (b : Int) = ((a / b : Nat) : Int) := by simp [Int.tdiv]
theorem div_lt {p : Nat} (hw : 1 ≤ w ∧ w ≤ 8) (hp : p ≤ 64) : p / w ≤ 64 ∧ p % w < 8 := ⟨Nat.le_trans (Nat.div_le_self _ _) hp, Nat.lt_of_lt_of_le (Nat.mod_lt _ (by omega)) hw.2⟩

theorem step_r (hw : 1 ≤ w ∧ w ≤ 8) {a b : Nat} (ha : a < 64) (hb : b < 64) : gameroomref_KnightStep_m w a b = some (stepB w a b) := by
  unfold gameroomref_KnightStep_m gameroomref_size_m gameroomref_size_J1 stepB
  have h1 := div_lt (p := a) hw (by omega)
  have h2 := div_lt (p := b) hw (by omega)
  have g1 : (0 : Int) ≤ ((a / w : Nat) : Int) := Int.natCast_nonneg _
  have g2 : (0 : Int) ≤ ((b / w : Nat) : Int) := Int.natCast_nonneg _
  rw [asrt_pos (by omega), asrt_pos (by omega), asrt_pos (by omega), asrt_pos (by omega), tmod_nat, tmod_nat, tdivN, tdivN, w64_of (x := ((a / w : Nat) : Int)) (by omega), w64_of (x := ((b / w : Nat) : Int)) (by omega), w64_of (x := ((a % w : Nat) : Int) - ((b % w : Nat) : Int)) (by omega), w64_of (x := ((a / w : Nat) : Int) - ((b / w : Nat) : Int)) (by omega)]
  generalize hx : ((a % w : Nat) : Int) - ((b % w : Nat) : Int) = x
  generalize hy : ((a / w : Nat) : Int) - ((b / w : Nat) : Int) = y
  have hx' : x.natAbs ≤ 8 := by omega
  have hy' : y.natAbs ≤ 64 := by omega
  have hm : (x * y).natAbs ≤ 8 * 64 := by rw [Int.natAbs_mul]; exact Nat.mul_le_mul hx' hy'
  generalize x * y = m at hm
  rw [w64_of (x := m) (by omega)]
  by_cases hneg : m < 0
  · rw [if_pos (decide_eq_true hneg), w64_of (by omega), Option.bind_some]
    congr 1
    rw [Bool.eq_iff_iff, beq_iff_eq, decide_eq_true_eq]
    omega
  · rw [if_neg (by rw [decide_eq_true_eq]; exact hneg), Option.bind_some]
    congr 1
    rw [Bool.eq_iff_iff, beq_iff_eq, decide_eq_true_eq]
    omega

theorem leap_bd {j : Nat} (hj : j < 8) : (-2 ≤ lx j ∧ lx j ≤ 2) ∧ (-2 ≤ ly j ∧ ly j ≤ 2) := by
  have : ∀ j : Fin 8, (-2 ≤ lx j.val ∧ lx j.val ≤ 2) ∧ (-2 ≤ ly j.val ∧ ly j.val ≤ 2) := by decide
  exact this ⟨j, hj⟩

/-- The field. -/
def field (w h : Nat) : List (List Int) := (List.range (w * h)).map (knb w (w * h))
def part (w h z : Nat) : List (List Int) := (List.range (w * h)).map (fun p => if p < z then knb w (w * h) p else [])

theorem geti2_map {f : Nat → List Int} {n k : Nat} (hk : k < n) : geti2 ((List.range n).map f) (k : Int) = f k := by
  unfold geti2
  rw [Int.toNat_natCast, List.getD_eq_getElem?_getD, List.getElem?_map, List.getElem?_range hk]; rfl
theorem set_map {f g : Nat → List Int} {n k : Nat} (_hk : k < n) (hg : ∀ p, p < n → p ≠ k → g p = f p) : ((List.range n).map f).set k (g k) = (List.range n).map g := by
  refine List.ext_getElem? (fun i => ?_)
  rw [List.getElem?_set, List.length_map, List.length_range, List.getElem?_map, List.getElem?_map]
  by_cases h : k = i
  · subst h
    rw [if_pos rfl, if_pos _hk, List.getElem?_range _hk]; rfl
  · rw [if_neg h]
    by_cases hi : i < n
    · rw [List.getElem?_range hi]
      simp [hg i hi (fun e => h e.symm)]
    · rw [List.getElem?_eq_none (by simp; omega)]; rfl

theorem inner_p (hw : 1 ≤ w ∧ w ≤ 8) (hh : 1 ≤ h ∧ h ≤ 8) {z : Nat} (hz : z < w * h) : loop (tour_newField_L2 w h z) (part w h z, 0) = some (part w h (z + 1)) := by
  have hN := wh64 hw hh
  have hdz := div_lt (p := z) hw (by omega)
  let st : Nat → List (List Int) := fun k => (List.range (w * h)).map (fun p => if p < z then knb w (w * h) p else if p = z then rowAt w h z k else [])
  have e0 : st 0 = part w h z := by
    refine List.map_congr_left (fun p _ => ?_)
    by_cases h1 : p < z
    · rw [if_pos h1, if_pos h1]
    · rw [if_neg h1, if_neg h1]
      split <;> rfl
  have e8 : st 8 = part w h (z + 1) := by
    refine List.map_congr_left (fun p hp => ?_)
    by_cases h1 : p < z
    · rw [if_pos h1, if_pos (by omega)]
    · rw [if_neg h1]
      by_cases h2 : p = z
      · subst h2
        rw [if_pos rfl, if_pos (by omega), rows_eq hw hh hz]
      · rw [if_neg h2, if_neg (by omega)]
  rw [← e0, ← e8]
  refine loop_from (f := fun k => (st k, (k : Int))) 8 (by rfl) (fun k hk => ?_) ?_
  · have hbd := leap_bd hk
    have hz0 : (0 : Int) ≤ (z : Int) / (w : Int) := Int.ediv_nonneg (by omega) (by omega)
    have ex : geti glob0 ((k : Int) * 2) = lx k := rfl
    have ey : geti glob0 ((k : Int) * 2 + 1) = ly k := rfl
    have hrl : (rowAt w h z k).length ≤ 8 := by
      unfold rowAt
      rw [List.length_map]
      exact Nat.le_trans (List.length_filter_le _ _) (by rw [List.length_range]; omega)
    have hg : geti2 (st k) (z : Int) = rowAt w h z k := by
      rw [geti2_map hz, if_neg (by omega), if_pos rfl]
    simp only [tour_newField_L2]
    rw [if_pos (decide_eq_true (by omega))]
    unfold tour_newField_J5 tour_newField_J6
    rw [asrt_pos (by omega), ex, ey, tmod_nat, tdivN, w64_of (x := ((z / w : Nat) : Int)) (by omega), w64_of (x := ((z % w : Nat) : Int) + lx k) (by omega), w64_of (x := ((z / w : Nat) : Int) + ly k) (by omega), w64_of (x := (k : Int) + 1) (by omega), w64_wh hw hh, List.length_replicate, hg]
    have hrow : rowAt w h z (k + 1) = rowAt w h z k ++ (if inB w h z k = true then [vaB w z k] else []) := by
      unfold rowAt
      rw [List.range_succ, List.filter_append, List.map_append]
      cases hb : inB w h z k <;> simp [hb]
    cases hb : inB w h z k with
    | true =>
      rw [if_pos (show (((decide ((0 : Int) ≤ ((z % w : Nat) : Int) + lx k) && decide (((z % w : Nat) : Int) + lx k < (w : Int))) && decide ((0 : Int) ≤ ((z / w : Nat) : Int) + ly k)) && decide (((z / w : Nat) : Int) + ly k < (h : Int))) = true from hb)]
      have hbb := hb
      unfold inB at hbb
      simp only [Bool.and_eq_true, decide_eq_true_eq] at hbb
      have hm : 0 ≤ (((z / w : Nat) : Int) + ly k) * (w : Int) ∧ (((z / w : Nat) : Int) + ly k) * (w : Int) ≤ 64 := by
        refine ⟨Int.mul_nonneg hbb.1.2 (by omega), ?_⟩
        have := Int.mul_le_mul (show ((z / w : Nat) : Int) + ly k ≤ 8 by omega) (show (w : Int) ≤ 8 by omega) (by omega) (by omega)
        omega
      rw [asrt_pos (by rw [Int.toNat_natCast]; omega), asrt_pos (by unfold bigN; omega), asrt_pos (by rw [Int.toNat_natCast]; omega), w64_of (x := (((z / w : Nat) : Int) + ly k) * (w : Int)) (by omega), w64_of (x := (((z / w : Nat) : Int) + ly k) * (w : Int) + (((z % w : Nat) : Int) + lx k)) (by omega), Int.toNat_natCast]
      rw [hb, if_pos rfl] at hrow
      have hs := set_map (f := fun p => if p < z then knb w (w * h) p else if p = z then rowAt w h z k else []) (g := fun p => if p < z then knb w (w * h) p else if p = z then rowAt w h z (k + 1) else []) hz (fun p _ hne => by
        simp only [if_neg hne])
      have ez : (if z < z then knb w (w * h) z else if z = z then rowAt w h z (k + 1) else []) = rowAt w h z k ++ [vaB w z k] := by
        rw [if_neg (by omega), if_pos rfl, hrow]
      rw [ez] at hs
      have hs' : (st k).set z (rowAt w h z k ++ [vaB w z k]) = st (k + 1) := hs
      exact congrArg (fun x => some (St.next (x, ((k + 1 : Nat) : Int)))) hs'
    | false =>
      rw [if_neg (show ¬ (((decide ((0 : Int) ≤ ((z % w : Nat) : Int) + lx k) && decide (((z % w : Nat) : Int) + lx k < (w : Int))) && decide ((0 : Int) ≤ ((z / w : Nat) : Int) + ly k)) && decide (((z / w : Nat) : Int) + ly k < (h : Int))) = true from fun q => by rw [show (((decide ((0 : Int) ≤ ((z % w : Nat) : Int) + lx k) && decide (((z % w : Nat) : Int) + lx k < (w : Int))) && decide ((0 : Int) ≤ ((z / w : Nat) : Int) + ly k)) && decide (((z / w : Nat) : Int) + ly k < (h : Int))) = inB w h z k from rfl, hb] at q; cases q)]
      rw [hb, if_neg (by decide), List.append_nil] at hrow
      have hst : st (k + 1) = st k := by
        show (List.range (w * h)).map _ = (List.range (w * h)).map _
        rw [hrow]
      rw [hst]; rfl
  · simp only [tour_newField_L2]
    rw [if_neg (by decide)]

theorem field_p (hw : 1 ≤ w ∧ w ≤ 8) (hh : 1 ≤ h ∧ h ≤ 8) : tour_newField_m w h = some (field w h, 0) := by
  have hN := wh64 hw hh
  unfold tour_newField_m tour_newField_J1
  rw [if_neg (by unfold minI maxI; simp; omega), w64_wh hw hh, asrt_pos (by unfold bigR; omega), Int.toNat_natCast]
  have hl : loop (tour_newField_L1 w h) (List.replicate (w * h) ([] : List Int), 0) = some (field w h) := by
    refine loop_from (f := fun z => (part w h z, (z : Int))) (w * h) ?_ (fun z hz => ?_) ?_
    · unfold part
      simp only [Nat.not_lt_zero, if_false]
      rw [List.map_const', List.length_range]; rfl
    · simp only [tour_newField_L1]
      rw [w64_wh hw hh, Int.toNat_natCast, List.length_replicate, if_pos (decide_eq_true (by omega))]
      unfold tour_newField_J3
      rw [asrt_pos (by omega), asrt_pos (by omega), inner_p hw hh hz, Option.bind_some]
      simp only [tour_newField_K2, tour_newField_J4]
      rw [w64_of (by omega)]; rfl
    · simp only [tour_newField_L1]
      rw [w64_wh hw hh, Int.toNat_natCast, List.length_replicate, if_neg (by simp)]
      congr 2
      unfold part field
      refine List.map_congr_left (fun p hp => ?_)
      rw [if_pos (List.mem_range.1 hp)]
  rw [hl]; rfl
theorem field_bad {w h : Int} (hb : ¬ ((1 ≤ w ∧ w ≤ 8) ∧ 1 ≤ h ∧ h ≤ 8)) : tour_newField_m w h = some ([], 3) := by
  unfold tour_newField_m
  rw [if_pos]
  unfold minI maxI
  rw [Bool.or_eq_true, decide_eq_true_eq, decide_eq_true_eq]
  split <;> split <;> omega

theorem field_len : (field w h).length = w * h := by simp [field]
theorem field_row {p : Nat} (hp : p < w * h) : geti2 (field w h) (p : Int) = knb w (w * h) p := geti2_map hp
theorem knb_mem {N p : Nat} {x : Int} : x ∈ knb w N p ↔ ∃ b : Nat, b < N ∧ x = b ∧ stepB w p b = true := by
  unfold knb
  rw [List.mem_map]
  constructor
  · rintro ⟨b, hb, rfl⟩
    rw [List.mem_filter, List.mem_range] at hb
    exact ⟨b, hb.1, rfl, hb.2⟩
  · rintro ⟨b, h1, rfl, h2⟩
    exact ⟨b, List.mem_filter.2 ⟨List.mem_range.2 h1, h2⟩, rfl⟩
theorem knb_len {N p : Nat} : (knb w N p).length ≤ N := by
  unfold knb
  rw [List.length_map]
  exact Nat.le_trans (List.length_filter_le _ _) (by rw [List.length_range]; exact Nat.le_refl _)

/-! ### Places asked -/
theorem has_p (x : Int) : tour_field_has_m (field w h) x = some (decide (0 ≤ x ∧ x < ((w * h : Nat) : Int))) := by
  unfold tour_field_has_m
  rw [field_len, ← Bool.decide_and]
theorem at_good (hw : 1 ≤ w ∧ w ≤ 8) (hh : 1 ≤ h ∧ h ≤ 8) {l : List Int} (hl : l.length ≤ 100) : tour_at_m w h l = some (field w h, if ∀ x ∈ l, 0 ≤ x ∧ x < ((w * h : Nat) : Int) then 0 else 5) := by
  unfold tour_at_m
  rw [field_p hw hh, Option.bind_some]
  have hloop : loop (tour_at_L1 l (field w h, 0)) (0, 0) = some (if ∀ x ∈ l, 0 ≤ x ∧ x < ((w * h : Nat) : Int) then 0 else 5) := by
    have key := count_loop (step := tour_at_L1 l (field w h, 0)) (mk := fun (e : Int) (i : Nat) => (e, (i : Int))) (I := fun i e => e = if ∀ x ∈ l.take i, 0 ≤ x ∧ x < ((w * h : Nat) : Int) then 0 else 5) (Post := fun r => r = if ∀ x ∈ l, 0 ≤ x ∧ x < ((w * h : Nat) : Int) then 0 else 5) l.length 0 (by simp) (by
      rintro i e hi rfl
      left
      refine ⟨_, ?_, rfl⟩
      have ht : l.take (i + 1) = l.take i ++ [geti l (i : Int)] := by
        have g := get_geti hi
        rw [List.getElem?_eq_getElem hi] at g
        rw [List.take_succ_eq_append_getElem hi, Option.some.inj g]
      have hall : (∀ x ∈ l.take (i + 1), 0 ≤ x ∧ x < ((w * h : Nat) : Int)) ↔ (∀ x ∈ l.take i, 0 ≤ x ∧ x < ((w * h : Nat) : Int)) ∧ (0 ≤ geti l (i : Int) ∧ geti l (i : Int) < ((w * h : Nat) : Int)) := by
        rw [ht]
        constructor
        · intro h
          exact ⟨fun x hx => h x (List.mem_append_left _ hx), h _ (List.mem_append_right _ (by simp))⟩
        · rintro ⟨h1, h2⟩ x hx
          rcases List.mem_append.1 hx with hx | hx
          · exact h1 x hx
          · rw [List.mem_singleton] at hx
            rw [hx]; exact h2
      simp only [tour_at_L1]
      rw [if_pos (decide_eq_true (by omega))]
      unfold tour_at_J2 tour_at_J3
      rw [asrt_pos (by omega), has_p, w64_of (by omega)]
      by_cases h1 : ∀ x ∈ l.take i, 0 ≤ x ∧ x < ((w * h : Nat) : Int)
      · rw [if_pos h1]
        by_cases h2 : 0 ≤ geti l (i : Int) ∧ geti l (i : Int) < ((w * h : Nat) : Int)
        · rw [if_pos (hall.2 ⟨h1, h2⟩), decide_eq_true h2]; rfl
        · rw [if_neg (fun h => h2 (hall.1 h).2), decide_eq_false h2]; rfl
      · rw [if_neg h1, if_neg (fun h => h1 (hall.1 h).1)]; rfl) (by
      rintro e rfl
      refine ⟨_, ?_, rfl⟩
      simp only [tour_at_L1]
      rw [if_neg (by simp), List.take_length])
    obtain ⟨r, e, rfl⟩ := key
    exact e
  rw [hloop]; rfl
theorem at_bad {w h : Int} (hb : ¬ ((1 ≤ w ∧ w ≤ 8) ∧ 1 ≤ h ∧ h ≤ 8)) {l : List Int} (hl : l.length ≤ 100) : tour_at_m w h l = some ([], 3) := by
  unfold tour_at_m
  rw [field_bad hb, Option.bind_some]
  have hloop : loop (tour_at_L1 l ([], 3)) (3, 0) = some 3 := by
    refine loop_from (f := fun i => (3, (i : Int))) l.length (by rfl) (fun i hi => ?_) ?_
    · simp only [tour_at_L1]
      rw [if_pos (decide_eq_true (by omega))]
      unfold tour_at_J2 tour_at_J3
      rw [asrt_pos (by omega), w64_of (by omega)]; rfl
    · simp only [tour_at_L1]
      rw [if_neg (by simp)]
  rw [hloop]; rfl
end
end Go.Proofs.YtlpaklmfgldkoaaDoor
