/-
  Hands by their ranks: what the document's value of a hand and the counting of a row of ranks are, so that the kernel reckons them fast.
-/
import Derived.Test.YtnplejebgbdfpaaPCa
namespace Go.Proofs.Ytnplejebgbdfpaa
open Go Go.GL

/-- So many of each rank, as a list. -/
def mL (m : Nat → Nat) : List Int := (List.range 13).map fun i => ((m i : Nat) : Int)
theorem mL_len (m : Nat → Nat) : (mL m).length = 13 := by simp [mL]
theorem mL_get {m : Nat → Nat} {i : Nat} (h : i < 13) : geti (mL m) (i : Int) = m i := geti_some (by simp [mL, h])
theorem mL_set {m : Nat → Nat} {i : Nat} : (mL m).set i ((m i : Int) + 1) = mL (fun d => if d = i then m d + 1 else m d) := by
  apply List.ext_getElem?
  intro d
  rw [List.getElem?_set]
  by_cases hd : d < 13
  · by_cases e : i = d
    · subst e
      rw [if_pos rfl, if_pos (by rw [mL_len]; exact hd)]
      simp [mL, hd]
    · rw [if_neg e]
      have : ¬ d = i := fun h => e h.symm
      simp [mL, hd, this]
  · rw [List.getElem?_eq_none (l := mL fun d => if d = i then m d + 1 else m d) (by rw [mL_len]; omega)]
    split
    · rw [if_neg (by rw [mL_len]; omega)]
    · rw [List.getElem?_eq_none (by rw [mL_len]; omega)]

def sgP (m : Nat → Nat) (t n : Nat) : List Int := ((List.range n).filter (fun j => m (12 - j) == t)).map (fun j => ((12 - j : Nat) : Int))
theorem sgP_succ (m : Nat → Nat) (t n : Nat) : sgP m t (n + 1) = sgP m t n ++ (if (m (12 - n) == t) = true then [((12 - n : Nat) : Int)] else []) := by
  unfold sgP
  rw [List.range_succ, List.filter_append, List.map_append]
  congr 1
  by_cases h : (m (12 - n) == t) = true
  · rw [if_pos h, List.filter_cons, if_pos h]; rfl
  · rw [if_neg h, List.filter_cons, if_neg h]; rfl
theorem sgP_len (m : Nat → Nat) (t n : Nat) : (sgP m t n).length ≤ n := by
  unfold sgP
  rw [List.length_map]
  refine Nat.le_trans (List.length_filter_le _ _) ?_
  rw [List.length_range]; exact Nat.le_refl _
theorem sgP_congr {m m' : Nat → Nat} (h : ∀ i, i < 13 → m i = m' i) (t : Nat) : ∀ n, sgP m t n = sgP m' t n
  | 0 => rfl
  | n + 1 => by rw [sgP_succ, sgP_succ, sgP_congr h t n, h (12 - n) (by omega)]
def signsF (m : Nat → Nat) : List Int := (((sgP m 4 13) ++ sgP m 3 13) ++ sgP m 2 13) ++ sgP m 1 13
def okT (m : Nat → Nat) (r : Nat) : Bool := m ((r + 13) % 13) == 1 && (m ((r + 12) % 13) == 1 && (m ((r + 11) % 13) == 1 && (m ((r + 10) % 13) == 1 && m ((r + 9) % 13) == 1)))
def topP (m : Nat → Nat) : Nat → Int
  | 0 => -1
  | j + 1 => if okT m (j + 3) = true then (j : Int) + 3 else topP m j
theorem okT_congr {m m' : Nat → Nat} (h : ∀ i, i < 13 → m i = m' i) (r : Nat) : okT m r = okT m' r := by
  unfold okT
  rw [h _ (Nat.mod_lt _ (by omega)), h _ (Nat.mod_lt _ (by omega)), h _ (Nat.mod_lt _ (by omega)), h _ (Nat.mod_lt _ (by omega)), h _ (Nat.mod_lt _ (by omega))]
theorem topP_congr {m m' : Nat → Nat} (h : ∀ i, i < 13 → m i = m' i) : ∀ n, topP m n = topP m' n
  | 0 => rfl
  | n + 1 => by unfold topP; rw [okT_congr h, topP_congr h n]
theorem mL_congr {m m' : Nat → Nat} (h : ∀ i, i < 13 → m i = m' i) : mL m = mL m' := by
  unfold mL
  refine List.map_congr_left fun i hi => ?_
  rw [h i (List.mem_range.1 hi)]

section
variable {m : Nat → Nat}

theorem sign_r (t : Nat) {s : List Int} (hs : s.length ≤ 100) : loop (gameroomref_HandValue_L3 (mL m) (t : Int)) (s, 12) = some (s ++ sgP m t 13) := by
  have key := count_loop (step := gameroomref_HandValue_L3 (mL m) (t : Int)) (fun (_ : Unit) (i : Nat) => (s ++ sgP m t i, 12 - (i : Int))) (fun _ _ => True) (fun r => r = s ++ sgP m t 13) 13 () trivial (by
    rintro i _ hi _
    left
    refine ⟨(), ?_, trivial⟩
    have hg := sgP_len m t i
    simp only [gameroomref_HandValue_L3]
    rw [if_pos (by rw [decide_eq_true_eq]; omega), sgP_succ]
    unfold gameroomref_HandValue_J7 gameroomref_HandValue_J8
    have e1 : geti (mL m) (12 - (i : Int)) = m (12 - i) := by
      rw [show (12 : Int) - (i : Int) = ((12 - i : Nat) : Int) by omega, mL_get (by omega)]
    rw [asrt_pos (by rw [show ((Int.toNat 13 : Nat) : Int) = 13 from rfl]; omega), e1, w64_of (by omega)]
    by_cases q : m (12 - i) = t
    · rw [if_pos (by rw [beq_iff_eq, q]), if_pos (by rw [beq_iff_eq]; exact q), asrt_pos (by rw [List.length_append]; unfold bigN; omega), ← List.append_assoc, show (12 : Int) - (i : Int) - 1 = 12 - ((i + 1 : Nat) : Int) by omega, show (12 : Int) - (i : Int) = ((12 - i : Nat) : Int) by omega]
    · rw [if_neg (by rw [beq_iff_eq]; omega), if_neg (by rw [beq_iff_eq]; exact q), List.append_nil, show (12 : Int) - (i : Int) - 1 = 12 - ((i + 1 : Nat) : Int) by omega]) (by
    rintro _ _
    refine ⟨_, ?_, rfl⟩
    simp only [gameroomref_HandValue_L3]
    rw [if_neg (by decide)])
  obtain ⟨r, hr, rfl⟩ := key
  have hr' : loop (gameroomref_HandValue_L3 (mL m) (t : Int)) (s ++ [], 12) = _ := hr
  rw [List.append_nil] at hr'
  exact hr'

theorem signs_r : loop (gameroomref_HandValue_L2 (mL m)) ([], 4) = some (signsF m) := by
  have step : ∀ (t : Nat) (s : List Int), 1 ≤ t → t ≤ 4 → s.length ≤ 100 → gameroomref_HandValue_L2 (mL m) (s, (t : Int)) = some (.next (s ++ sgP m t 13, ((t - 1 : Nat) : Int))) := by
    intro t s h1 h2 hs
    simp only [gameroomref_HandValue_L2]
    rw [if_pos (by rw [decide_eq_true_eq]; omega)]
    unfold gameroomref_HandValue_J5
    rw [sign_r t hs, Option.bind_some]
    simp only [gameroomref_HandValue_K3, gameroomref_HandValue_J6]
    rw [w64_of (by omega), show (t : Int) - 1 = ((t - 1 : Nat) : Int) by omega]
  have g4 := sgP_len m 4 13
  have g3 := sgP_len m 3 13
  have g2 := sgP_len m 2 13
  have d : gameroomref_HandValue_L2 (mL m) (signsF m, 0) = some (.done (signsF m)) := by
    simp only [gameroomref_HandValue_L2]
    rw [if_neg (by decide)]
  refine loop_next' (step 4 [] (by omega) (by omega) (by simp)) ?_
  refine loop_next' (step 3 _ (by omega) (by omega) (by simp only [List.nil_append]; omega)) ?_
  refine loop_next' (step 2 _ (by omega) (by omega) (by simp only [List.nil_append, List.length_append]; omega)) ?_
  refine loop_next' (step 1 _ (by omega) (by omega) (by simp only [List.nil_append, List.length_append]; omega)) ?_
  exact loop_done d

def allP (m : Nat → Nat) (r n : Nat) : Bool := (List.range n).all fun k => m ((r + 13 - k) % 13) == 1
theorem all_r {r : Nat} (hr : 3 ≤ r ∧ r ≤ 12) : loop (gameroomref_HandValue_L5 (mL m) (r : Int)) (true, 0) = some (okT m r) := by
  have key := count_loop (step := gameroomref_HandValue_L5 (mL m) (r : Int)) (fun (_ : Unit) (i : Nat) => (allP m r i, (i : Int))) (fun _ _ => True) (fun x => x = okT m r) 5 () trivial (by
    rintro i _ hi _
    left
    refine ⟨(), ?_, trivial⟩
    simp only [gameroomref_HandValue_L5]
    rw [if_pos (by rw [decide_eq_true_eq]; omega)]
    unfold gameroomref_HandValue_J13 gameroomref_HandValue_J14
    have e1 : Int.tmod (w64 (w64 ((r : Int) - (i : Int)) + 13)) 13 = (((r + 13 - i) % 13 : Nat) : Int) := by
      rw [w64_of (x := (r : Int) - (i : Int)) (by omega), w64_of (by omega), Int.tmod_eq_emod_of_nonneg (by omega)]
      omega
    rw [e1, asrt_pos (fun _ => by rw [show ((Int.toNat 13 : Nat) : Int) = 13 from rfl]; omega), mL_get (Nat.mod_lt _ (by omega)), w64_of (by omega)]
    have e2 : allP m r (i + 1) = (allP m r i && (m ((r + 13 - i) % 13) == 1)) := by
      unfold allP
      rw [List.range_succ, List.all_append]
      simp
    have e3 : (((m ((r + 13 - i) % 13) : Nat) : Int) == 1) = (m ((r + 13 - i) % 13) == 1) := by
      rw [Bool.eq_iff_iff, beq_iff_eq, beq_iff_eq]; omega
    rw [e2, e3]
    rfl) (by
    rintro _ _
    refine ⟨_, ?_, rfl⟩
    simp only [gameroomref_HandValue_L5]
    rw [if_neg (by decide)]
    congr 2
    unfold allP okT
    simp only [show List.range 5 = [0, 1, 2, 3, 4] from rfl, List.all_cons, List.all_nil, Bool.and_true, Nat.sub_zero, show r + 13 - 1 = r + 12 by omega, show r + 13 - 2 = r + 11 by omega, show r + 13 - 3 = r + 10 by omega, show r + 13 - 4 = r + 9 by omega])
  obtain ⟨x, hx, rfl⟩ := key
  exact hx

theorem top_r : loop (gameroomref_HandValue_L4 (mL m)) (-1, 3) = some (topP m 10) := by
  have key := count_loop (step := gameroomref_HandValue_L4 (mL m)) (fun (_ : Unit) (i : Nat) => (topP m i, (i : Int) + 3)) (fun _ _ => True) (fun x => x = topP m 10) 10 () trivial (by
    rintro i _ hi _
    left
    refine ⟨(), ?_, trivial⟩
    simp only [gameroomref_HandValue_L4]
    rw [if_pos (by rw [decide_eq_true_eq]; omega)]
    unfold gameroomref_HandValue_J10
    have h1 := all_r (m := m) (r := i + 3) (by omega)
    rw [show ((i + 3 : Nat) : Int) = (i : Int) + 3 by omega] at h1
    rw [h1, Option.bind_some]
    simp only [gameroomref_HandValue_K5]
    unfold gameroomref_HandValue_J12 gameroomref_HandValue_J11
    rw [w64_of (by omega), show (i : Int) + 3 + 1 = ((i + 1 : Nat) : Int) + 3 by omega]
    conv => rhs; rw [topP]
    cases okT m (i + 3) <;> rfl) (by
    rintro _ _
    refine ⟨_, ?_, rfl⟩
    simp only [gameroomref_HandValue_L4]
    rw [if_neg (by decide)])
  obtain ⟨x, hx, rfl⟩ := key
  exact hx
end

/-- So many of each rank among the first. -/
def cntF (xs : List Nat) : Nat → Nat → Nat
  | 0, _ => 0
  | k + 1, i => if i = xs.getD k 0 then cntF xs k i + 1 else cntF xs k i
theorem cntF_le (xs : List Nat) : ∀ k i, cntF xs k i ≤ k
  | 0, _ => Nat.le_refl _
  | k + 1, i => by
    have := cntF_le xs k i
    unfold cntF
    split <;> omega

section
variable {xs : List Nat}

/-- A hand by its ranks and suits. -/
theorem hv_r (_hl : xs.length = 5) (hx : ∀ k, k < 5 → xs.getD k 0 ≤ 12) {l : List Int} {e : Nat → Nat} (hll : l.length = 5) (hle : ∀ k : Nat, k < 5 → geti l (k : Int) = 4 * (xs.getD k 0 : Int) + e k) (he : ∀ k, k < 5 → e k ≤ 3) :
    gameroomref_HandValue_m l = gameroomref_HandValue_J9 (mL (cntF xs 5)) ((List.range 5).all fun k => e k == e 0) (signsF (cntF xs 5)) (topP (cntF xs 5) 10) := by
  unfold gameroomref_HandValue_m
  have key := count_loop (step := gameroomref_HandValue_L1 l) (fun (_ : Unit) (i : Nat) => (mL (cntF xs i), (List.range i).all (fun k => e k == e 0), (i : Int))) (fun _ _ => True) (fun r => r = (mL (cntF xs 5), (List.range 5).all fun k => e k == e 0)) 5 () trivial (by
    rintro i _ hi _
    left
    refine ⟨(), ?_, trivial⟩
    have h1 := hle i hi
    have h0 := hle 0 (by omega)
    have hxi := hx i hi
    have hx0 := hx 0 (by omega)
    have hei := he i hi
    have he0 := he 0 (by omega)
    have hc := cntF_le xs i (xs.getD i 0)
    simp only [gameroomref_HandValue_L1]
    rw [if_pos (by rw [decide_eq_true_eq]; omega)]
    unfold gameroomref_HandValue_J2 gameroomref_HandValue_J3
    have h0' : geti l 0 = 4 * (xs.getD 0 0 : Int) + e 0 := h0
    have q1 : w64 (Int.tdiv (geti l (i : Int)) 4) = ((xs.getD i 0 : Nat) : Int) := by
      rw [h1, Int.tdiv_eq_ediv_of_nonneg (by omega), w64_of (by omega)]; omega
    have q2 : Int.tmod (geti l (i : Int)) 4 = e i := by
      rw [h1, Int.tmod_eq_emod_of_nonneg (by omega)]; omega
    have q3 : Int.tmod (geti l 0) 4 = e 0 := by
      rw [h0', Int.tmod_eq_emod_of_nonneg (by omega)]; omega
    rw [q1, q2, q3, show ((Int.toNat 13 : Nat) : Int) = 13 from rfl, asrt_pos (by omega), asrt_pos (by omega), asrt_pos (by omega), asrt_pos (fun _ => by omega), asrt_pos (fun _ => by omega), mL_get (by omega), Int.toNat_natCast, w64_of (by omega), w64_of (by omega), mL_set]
    have e1 : ((List.range (i + 1)).all fun k => e k == e 0) = (((List.range i).all fun k => e k == e 0) && (((e i : Nat) : Int) == ((e 0 : Nat) : Int))) := by
      rw [List.range_succ, List.all_append]
      congr 1
      rw [List.all_cons, List.all_nil, Bool.and_true, Bool.eq_iff_iff, beq_iff_eq, beq_iff_eq]
      omega
    rw [e1]
    congr 3) (by
    rintro _ _
    refine ⟨_, ?_, rfl⟩
    simp only [gameroomref_HandValue_L1]
    rw [if_neg (by decide)])
  obtain ⟨r, hr, rfl⟩ := key
  have hz : mL (cntF xs 0) = List.replicate (Int.toNat 13) (0 : Int) := rfl
  have hr' : loop (gameroomref_HandValue_L1 l) (mL (cntF xs 0), true, 0) = some (mL (cntF xs 5), (List.range 5).all fun k => e k == e 0) := hr
  rw [hz] at hr'
  rw [asrt_pos (by decide), hr', Option.bind_some]
  simp only [gameroomref_HandValue_K1]
  unfold gameroomref_HandValue_J1
  rw [signs_r, Option.bind_some]
  simp only [gameroomref_HandValue_K2]
  unfold gameroomref_HandValue_J4
  rw [top_r, Option.bind_some]
  rfl
end

/-! A row of ranks -/
def wtb (k : Nat) : Nat := match k with
  | 0 => 1
  | 1 => 4
  | 2 => 6
  | 3 => 4
  | _ => 1
def wayP (m : Nat → Nat) : Nat → Nat
  | 0 => 1
  | i + 1 => wayP m i * wtb (m i)
def unlP (m : Nat → Nat) : Nat → Nat
  | 0 => 0
  | i + 1 => unlP m i + (if m i = 0 then 0 else 1)
theorem wayP_bd (m : Nat → Nat) : ∀ i, wayP m i ≤ 6 ^ i
  | 0 => by simp [wayP]
  | i + 1 => by
    unfold wayP
    rw [Nat.pow_succ]
    refine Nat.mul_le_mul (wayP_bd m i) ?_
    unfold wtb
    split <;> omega
theorem unlP_bd (m : Nat → Nat) : ∀ i, unlP m i ≤ i
  | 0 => Nat.le_refl _
  | i + 1 => by
    have := unlP_bd m i
    unfold unlP
    split <;> omega
def overB (m : Nat → Nat) : Bool := (List.range 13).any fun i => Nat.blt 4 (m i)

theorem wu_r {m : Nat → Nat} {out : List Int} : loop (gameroomref_countRanks_2_L3 out (mL m)) (1, 0, 0) = some (if overB m = true then .ret out else .go ((wayP m 13 : Int), (unlP m 13 : Int))) := by
  have key := count_loop (step := gameroomref_countRanks_2_L3 out (mL m)) (fun (_ : Unit) (i : Nat) => ((wayP m i : Int), (unlP m i : Int), (i : Int))) (fun n _ => ∀ i, i < n → ¬ 4 < m i) (fun r => r = (if overB m = true then .ret out else .go ((wayP m 13 : Int), (unlP m 13 : Int)))) 13 () (fun i hi => by omega) (by
    rintro i _ hi hI
    simp only [gameroomref_countRanks_2_L3]
    rw [if_pos (by rw [decide_eq_true_eq]; omega)]
    unfold gameroomref_countRanks_2_J11 gameroomref_countRanks_2_J13 gameroomref_countRanks_2_J12
    have e13 : ((Int.toNat 13 : Nat) : Int) = 13 := rfl
    rw [e13, mL_get hi, asrt_pos (by omega)]
    by_cases q : 4 < m i
    · right
      rw [if_pos (by rw [decide_eq_true_eq]; omega)]
      refine ⟨_, rfl, ?_⟩
      have : overB m = true := List.any_eq_true.2 ⟨i, List.mem_range.2 hi, by rw [Nat.blt_eq]; exact q⟩
      rw [if_pos this]
    · left
      have hw := wayP_bd m i
      have h6 : 6 ^ i ≤ 6 ^ 12 := Nat.pow_le_pow_right (by omega) (by omega)
      have h66 : 6 ^ 12 = 2176782336 := by decide
      have hu := unlP_bd m i
      have ht : geti [1, 4, 6, 4, 1] ((m i : Nat) : Int) = wtb (m i) := by
        have : m i = 0 ∨ m i = 1 ∨ m i = 2 ∨ m i = 3 ∨ m i = 4 := by omega
        rcases this with h | h | h | h | h <;> rw [h] <;> rfl
      have hb : wtb (m i) ≤ 6 := by unfold wtb; split <;> omega
      have hm : wayP m i * wtb (m i) ≤ 2176782336 * 6 := Nat.mul_le_mul (by omega) hb
      rw [if_neg (by rw [decide_eq_true_eq]; omega), asrt_pos (by omega), asrt_pos (by omega), asrt_pos (by omega), w64_of (x := (i : Int) + 1) (by omega), ht, ← Int.natCast_mul, w64_of (x := ((wayP m i * wtb (m i) : Nat) : Int)) (by omega), w64_of (x := (unlP m i : Int) + 1) (by omega)]
      refine ⟨(), ?_, fun j hj => ?_⟩
      · have e1 : wayP m (i + 1) = wayP m i * wtb (m i) := rfl
        have e2 : unlP m (i + 1) = unlP m i + (if m i = 0 then 0 else 1) := rfl
        simp only [e1, e2]
        by_cases q2 : m i = 0
        · rw [if_neg (by rw [decide_eq_true_eq]; omega), if_pos q2]; rfl
        · rw [if_pos (by rw [decide_eq_true_eq]; omega), if_neg q2]; rfl
      · by_cases e : j = i
        · rw [e]; exact q
        · exact hI j (by omega)) (by
    rintro _ hI
    refine ⟨.go ((wayP m 13 : Int), (unlP m 13 : Int)), ?_, ?_⟩
    · simp only [gameroomref_countRanks_2_L3]
      rw [if_neg (by decide)]
    · have : ¬ overB m = true := fun h => by
        obtain ⟨i, h1, h2⟩ := List.any_eq_true.1 h
        rw [List.mem_range] at h1
        rw [Nat.blt_eq] at h2
        exact hI i h1 h2
      rw [if_neg this])
  obtain ⟨r, hr, rfl⟩ := key
  exact hr

def clsN (m : Nat → Nat) (fl : Bool) : Option Nat := (gameroomref_HandValue_J9n (mL m) fl (signsF m) (topP m 10)).bind fun v => if 0 ≤ v ∧ v < 3341637 then some (v.toNat / 371293) else none
theorem clsN_congr {m m' : Nat → Nat} (h : ∀ i, i < 13 → m i = m' i) (fl : Bool) : clsN m fl = clsN m' fl := by
  unfold clsN signsF
  rw [mL_congr h, topP_congr h, sgP_congr h, sgP_congr h, sgP_congr h, sgP_congr h]
theorem wayP_congr {m m' : Nat → Nat} (h : ∀ i, i < 13 → m i = m' i) : ∀ n, n ≤ 13 → wayP m n = wayP m' n
  | 0, _ => rfl
  | n + 1, hn => by unfold wayP; rw [wayP_congr h n (by omega), h n (by omega)]
theorem unlP_congr {m m' : Nat → Nat} (h : ∀ i, i < 13 → m i = m' i) : ∀ n, n ≤ 13 → unlP m n = unlP m' n
  | 0, _ => rfl
  | n + 1, hn => by unfold unlP; rw [unlP_congr h n (by omega), h n (by omega)]
theorem overB_congr {m m' : Nat → Nat} (h : ∀ i, i < 13 → m i = m' i) : overB m = overB m' := by
  unfold overB
  rw [Bool.eq_iff_iff, List.any_eq_true, List.any_eq_true]
  refine exists_congr fun i => and_congr_right fun hi => ?_
  rw [h i (List.mem_range.1 hi)]

def leafM (m : Nat → Nat) : Option (List (Nat × Nat)) :=
  if overB m = true then some [] else
    if unlP m 13 = 5 then
      (if 4 ≤ wayP m 13 ∧ wayP m 13 ≤ 1024 then (clsN m false).bind fun c1 => (clsN m true).bind fun c2 => some [(c1, wayP m 13 - 4), (c2, 4)] else none)
    else (if wayP m 13 ≤ 1024 then (clsN m false).bind fun c1 => some [(c1, wayP m 13)] else none)
theorem leafM_congr {m m' : Nat → Nat} (h : ∀ i, i < 13 → m i = m' i) : leafM m = leafM m' := by
  unfold leafM
  rw [overB_congr h, unlP_congr h 13 (Nat.le_refl _), wayP_congr h 13 (Nat.le_refl _), clsN_congr h, clsN_congr h]
/-- What is told a number that is reckoned first. -/
def frc {α : Type} (n : Nat) (f : Nat → α) : α := Nat.rec (motive := fun _ => α) (f 0) (fun k _ => f (k + 1)) n
theorem frc_eq {α : Type} (n : Nat) (f : Nat → α) : frc n f = f n := by cases n <;> rfl
def encN (xs : List Nat) : Nat := 8 ^ xs.getD 0 0 + 8 ^ xs.getD 1 0 + 8 ^ xs.getD 2 0 + 8 ^ xs.getD 3 0 + 8 ^ xs.getD 4 0
def chkN (xs : List Nat) (N : Nat) : Bool := (List.range 13).all fun i => N / 8 ^ i % 8 == cntF xs 5 i
def leafO (xs : List Nat) : Option (List (Nat × Nat)) :=
  if xs.length = 5 ∧ xs.all (fun x => Nat.ble x 12) = true then frc (encN xs) fun N => if chkN xs N = true then leafM (fun i => N / 8 ^ i % 8) else none else none
def addP (out : List Int) (P : List (Nat × Nat)) : List Int := P.foldl (fun o x => o.set x.1 (w64 (geti o (x.1 : Int) + (x.2 : Int)))) out

theorem cls_of {xs : List Nat} (hl : xs.length = 5) (hx : ∀ k, k < 5 → xs.getD k 0 ≤ 12) {l : List Int} {e : Nat → Nat} {fl : Bool} {c : Nat} (hll : l.length = 5) (hle : ∀ k : Nat, k < 5 → geti l (k : Int) = 4 * (xs.getD k 0 : Int) + e k) (he : ∀ k, k < 5 → e k ≤ 3) (hfl : ((List.range 5).all fun k => e k == e 0) = fl) (h : clsN (cntF xs 5) fl = some c) : c < 9 ∧ ∃ v, gameroomref_HandValue_m l = some v ∧ w64 (Int.tdiv v 371293) = (c : Int) := by
  unfold clsN at h
  rw [Option.bind_eq_some_iff] at h
  obtain ⟨v, h1, h2⟩ := h
  split at h2
  · rename_i q
    have := Option.some.inj h2
    have h3 := gameroomref_HandValue_J9n_le _ _ _ _ _ h1
    rw [← hfl] at h3
    refine ⟨by omega, v, by rw [hv_r hl hx hll hle he]; exact h3, ?_⟩
    rw [Int.tdiv_eq_ediv_of_nonneg q.1, w64_of (by omega)]
    omega
  · cases h2

def rkI (xs : List Nat) : List Int := xs.map fun (x : Nat) => (x : Int)
theorem rkI_get {xs : List Nat} {k : Nat} (h : k < xs.length) : geti (rkI xs) (k : Int) = (xs.getD k 0 : Nat) := geti_some (by
  unfold rkI
  rw [List.getElem?_map, List.getElem?_eq_getElem h, List.getD_eq_getElem?_getD, List.getElem?_eq_getElem h]
  rfl)

theorem many_r {xs : List Nat} (hl : xs.length = 5) (hx : ∀ k, k < 5 → xs.getD k 0 ≤ 12) : loop (gameroomref_countRanks_2_L2 (rkI xs)) (List.replicate (Int.toNat 13) (0 : Int), 0) = some (mL (cntF xs 5)) := by
  have hrl : (rkI xs).length = 5 := by unfold rkI; rw [List.length_map]; exact hl
  have key := count_loop (step := gameroomref_countRanks_2_L2 (rkI xs)) (fun (_ : Unit) (i : Nat) => (mL (cntF xs i), (i : Int))) (fun _ _ => True) (fun r => r = mL (cntF xs 5)) 5 () trivial (by
    rintro i _ hi _
    left
    refine ⟨(), ?_, trivial⟩
    have hxi := hx i hi
    have hc := cntF_le xs i (xs.getD i 0)
    simp only [gameroomref_countRanks_2_L2]
    rw [if_pos (by rw [decide_eq_true_eq]; omega)]
    unfold gameroomref_countRanks_2_J8 gameroomref_countRanks_2_J9
    rw [rkI_get (by omega), show ((Int.toNat 13 : Nat) : Int) = 13 from rfl, asrt_pos (by omega), asrt_pos (by omega), asrt_pos (by omega), mL_get (by omega), Int.toNat_natCast, w64_of (by omega), w64_of (by omega), mL_set]
    congr 3) (by
    rintro _ _
    refine ⟨_, ?_, rfl⟩
    simp only [gameroomref_countRanks_2_L2]
    rw [if_neg (by decide)])
  obtain ⟨r, hr, rfl⟩ := key
  exact hr

theorem hands_r {xs : List Nat} (hl : xs.length = 5) (hx : ∀ k, k < 5 → xs.getD k 0 ≤ 12) : ∃ mixed one, loop (gameroomref_countRanks_2_L4 (rkI xs)) ([], [], 0) = some (mixed, one) ∧ mixed.length = 5 ∧ one.length = 5 ∧ (∀ k : Nat, k < 5 → geti mixed (k : Int) = 4 * (xs.getD k 0 : Int) + (k % 4 : Nat)) ∧ (∀ k : Nat, k < 5 → geti one (k : Int) = 4 * (xs.getD k 0 : Int) + (0 : Nat)) := by
  have hrl : (rkI xs).length = 5 := by unfold rkI; rw [List.length_map]; exact hl
  have key := count_loop (step := gameroomref_countRanks_2_L4 (rkI xs)) (fun (s : List Int × List Int) (i : Nat) => (s.1, s.2, (i : Int))) (fun n s => s.1.length = n ∧ s.2.length = n ∧ (∀ k : Nat, k < n → geti s.1 (k : Int) = 4 * (xs.getD k 0 : Int) + (k % 4 : Nat)) ∧ (∀ k : Nat, k < n → geti s.2 (k : Int) = 4 * (xs.getD k 0 : Int) + (0 : Nat))) (fun s => s.1.length = 5 ∧ s.2.length = 5 ∧ (∀ k : Nat, k < 5 → geti s.1 (k : Int) = 4 * (xs.getD k 0 : Int) + (k % 4 : Nat)) ∧ (∀ k : Nat, k < 5 → geti s.2 (k : Int) = 4 * (xs.getD k 0 : Int) + (0 : Nat))) 5 ([], []) ⟨rfl, rfl, fun k hk => by omega, fun k hk => by omega⟩ (by
    rintro i ⟨a, b⟩ hi ⟨h1, h2, h3, h4⟩
    left
    simp only at h1 h2 h3 h4
    have hxi := hx i hi
    simp only [gameroomref_countRanks_2_L4]
    rw [if_pos (by rw [decide_eq_true_eq]; omega)]
    unfold gameroomref_countRanks_2_J15 gameroomref_countRanks_2_J16
    have em : Int.tmod (i : Int) 4 = ((i % 4 : Nat) : Int) := by rw [Int.tmod_eq_emod_of_nonneg (by omega)]; omega
    rw [rkI_get (by omega), em, asrt_pos (by omega), asrt_pos (by unfold bigN; omega), asrt_pos (by omega), asrt_pos (by unfold bigN; omega), w64_of (x := 4 * ((xs.getD i 0 : Nat) : Int)) (by omega), w64_of (x := 4 * ((xs.getD i 0 : Nat) : Int) + ((i % 4 : Nat) : Int)) (by omega), w64_of (by omega)]
    have snoc : ∀ (s : List Int) (v : Int) (k : Nat), s.length = i → geti (s ++ [v]) (k : Int) = if k < i then geti s (k : Int) else if k = i then v else geti (s ++ [v]) (k : Int) := by
      intro s v k hs
      by_cases q : k < i
      · rw [if_pos q]
        exact geti_some (by rw [List.getElem?_append_left (by omega), get_geti (by omega)])
      · rw [if_neg q]
        by_cases q2 : k = i
        · rw [if_pos q2]
          exact geti_some (by rw [List.getElem?_append_right (by omega), show k - s.length = 0 by omega]; rfl)
        · rw [if_neg q2]
    refine ⟨(a ++ [4 * ((xs.getD i 0 : Nat) : Int) + ((i % 4 : Nat) : Int)], b ++ [4 * ((xs.getD i 0 : Nat) : Int)]), rfl, by simp [h1], by simp [h2], fun k hk => ?_, fun k hk => ?_⟩
    · simp only
      rw [snoc a _ k h1]
      by_cases q : k < i
      · rw [if_pos q]; exact h3 k q
      · have : k = i := by omega
        subst this
        rw [if_neg q, if_pos rfl]
    · simp only
      rw [snoc b _ k h2]
      by_cases q : k < i
      · rw [if_pos q]; exact h4 k q
      · have : k = i := by omega
        subst this
        rw [if_neg q, if_pos rfl]
        omega) (by
    rintro ⟨a, b⟩ h
    refine ⟨(a, b), ?_, h⟩
    simp only [gameroomref_countRanks_2_L4]
    rw [if_neg (by decide)])
  obtain ⟨⟨mixed, one⟩, hr, h⟩ := key
  exact ⟨mixed, one, hr, h⟩

set_option maxRecDepth 4000 in
theorem leaf_r {xs : List Nat} {out : List Int} {P : List (Nat × Nat)} (h : leafO xs = some P) (ho : out.length = 9) : gameroomref_countRanks_2_J2 (rkI xs) out = some (addP out P) ∧ P.length ≤ 2 ∧ ∀ x ∈ P, x.1 < 9 ∧ x.2 ≤ 1024 := by
  unfold leafO at h
  split at h
  · rename_i hq
    obtain ⟨hl, ha⟩ := hq
    have hx : ∀ k, k < 5 → xs.getD k 0 ≤ 12 := fun k hk => by
      have h1 : k < xs.length := by omega
      rw [List.getD_eq_getElem?_getD, List.getElem?_eq_getElem h1]
      have := List.all_eq_true.1 ha xs[k] (List.getElem_mem h1)
      rw [Nat.ble_eq] at this
      exact this
    rw [frc_eq] at h
    split at h
    · rename_i hc
      have hm : ∀ i, i < 13 → encN xs / 8 ^ i % 8 = cntF xs 5 i := fun i hi => by
        have := List.all_eq_true.1 hc i (List.mem_range.2 hi)
        rwa [beq_iff_eq] at this
      rw [leafM_congr hm] at h
      clear hm hc ha
      unfold gameroomref_countRanks_2_J2
      rw [asrt_pos (by decide), many_r hl hx, Option.bind_some]
      simp only [gameroomref_countRanks_2_K2]
      unfold gameroomref_countRanks_2_J7
      rw [wu_r, Option.bind_some]
      unfold leafM at h
      split at h
      · rename_i hov
        rw [if_pos hov]
        obtain rfl := Option.some.inj h
        exact ⟨rfl, by simp, fun x hx => by cases hx⟩
      · rename_i hov
        rw [if_neg hov]
        obtain ⟨mixed, one, g2, g3, g4, g5, g6⟩ := hands_r hl hx
        simp only [gameroomref_countRanks_2_K3]
        unfold gameroomref_countRanks_2_J10
        rw [g2, Option.bind_some]
        simp only [gameroomref_countRanks_2_K4]
        unfold gameroomref_countRanks_2_J14 gameroomref_countRanks_2_J1
        split at h
        · rename_i h5
          split at h
          · rename_i hw
            rw [Option.bind_eq_some_iff] at h
            obtain ⟨c1, h3, h⟩ := h
            rw [Option.bind_eq_some_iff] at h
            obtain ⟨c2, h4, h⟩ := h
            obtain ⟨k1, v1, k2, k3⟩ := cls_of hl hx (e := fun k => k % 4) g3 g5 (fun k _ => by show k % 4 ≤ 3; omega) rfl h3
            obtain ⟨k4, v2, k5, k6⟩ := cls_of hl hx (e := fun _ => 0) g4 g6 (fun k _ => Nat.zero_le _) rfl h4
            obtain rfl := Option.some.inj h
            rw [if_pos (by rw [beq_iff_eq]; omega), k2, Option.bind_some, k3, asrt_pos (by omega), asrt_pos (by omega), k5, Option.bind_some, k6, asrt_pos (by omega), asrt_pos (by omega), Int.toNat_natCast, Int.toNat_natCast, w64_of (x := ((wayP (cntF xs 5) 13 : Nat) : Int) - 4) (by omega), show ((wayP (cntF xs 5) 13 : Nat) : Int) - 4 = ((wayP (cntF xs 5) 13 - 4 : Nat) : Int) by omega]
            refine ⟨by simp only [addP, List.foldl_cons, List.foldl_nil]; rfl, by simp, fun x hx => ?_⟩
            simp only [List.mem_cons, List.not_mem_nil, or_false] at hx
            rcases hx with rfl | rfl
            · exact ⟨k1, by show wayP (cntF xs 5) 13 - 4 ≤ 1024; omega⟩
            · exact ⟨k4, by show 4 ≤ 1024; omega⟩
          · cases h
        · rename_i h5
          split at h
          · rename_i hw
            rw [Option.bind_eq_some_iff] at h
            obtain ⟨c1, h3, h⟩ := h
            obtain ⟨k1, v1, k2, k3⟩ := cls_of hl hx (e := fun k => k % 4) g3 g5 (fun k _ => by show k % 4 ≤ 3; omega) rfl h3
            obtain rfl := Option.some.inj h
            rw [if_neg (by rw [beq_iff_eq]; omega), k2, Option.bind_some, k3, asrt_pos (by omega), asrt_pos (by omega), Int.toNat_natCast]
            refine ⟨by simp only [addP, List.foldl_cons, List.foldl_nil], by simp, fun x hx => ?_⟩
            simp only [List.mem_cons, List.not_mem_nil, or_false] at hx
            rcases hx with rfl
            exact ⟨k1, hw⟩
          · cases h
    · cases h
  · cases h
end Go.Proofs.Ytnplejebgbdfpaa
