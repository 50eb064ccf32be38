/-
  CribShows: what five cards show, the program's way and the document's.
-/
import Derived.Test.YtlkdblflibgfpaaCKa
namespace Go.Proofs.Ytlkdblflibgfpaa
open Go Go.GL

theorem bit5 : ∀ (a : Fin 32) (i : Fin 5), bAnd (shrK .i64 (a.val : Int) (i.val : Int)) 1 = 0 ∨ bAnd (shrK .i64 (a.val : Int) (i.val : Int)) 1 = 1 := by decide +kernel

section
variable {l : List Int} (hl : l.length = 5) (hc : ∀ x ∈ l, Card x)
include hl hc

theorem mask_both {a : Nat} (ha : a < 32) : ∃ v : Int, 0 ≤ v ∧ v ≤ 50 ∧ loop (crib_fifteens_L2 l a) (0, 0) = some v ∧ loop (gameroomref_ShowOf_L2 l a) (0, 0) = some v := by
  obtain ⟨r1, r2, e1, e2, e3, e4, e5⟩ := count_loop2' (step1 := crib_fifteens_L2 l a) (step2 := gameroomref_ShowOf_L2 l a) (fun (s : Int) (i : Nat) => (s, (i : Int))) (fun (s : Int) (i : Nat) => (s, (i : Int))) (fun i s => 0 ≤ s ∧ s ≤ 10 * i) (fun r1 r2 => r1 = r2 ∧ 0 ≤ r1 ∧ r1 ≤ 50) 5 0 ⟨by omega, by omega⟩ (by
    intro i s hi ⟨h1, h2⟩
    have hm : geti l (i : Int) ∈ l := geti_mem (by omega)
    have hp := pts_bd (geti l (i : Int))
    have hb := bit5 ⟨a, ha⟩ ⟨i, hi⟩
    dsimp only at hb
    rcases hb with hb | hb
    · refine ⟨s, ?_, ?_, by omega, by omega⟩
      · simp only [crib_fifteens_L2, crib_fifteens_J5, crib_fifteens_J6]
        rw [if_pos (decide_eq_true (by omega)), asrt_pos (by omega), points_p (hc _ hm), Option.bind_some, asrt_pos (by omega), hb, Int.mul_zero, w64_of (x := 0) (by omega), Int.add_zero, w64_of (by omega), w64_of (by omega)]; rfl
      · simp only [gameroomref_ShowOf_L2, gameroomref_ShowOf_J5, gameroomref_ShowOf_J6]
        rw [if_pos (decide_eq_true (by omega)), asrt_pos (by omega), hb, if_neg (by decide), w64_of (by omega)]; rfl
    · refine ⟨s + pts (geti l (i : Int)), ?_, ?_, by omega, by omega⟩
      · simp only [crib_fifteens_L2, crib_fifteens_J5, crib_fifteens_J6]
        rw [if_pos (decide_eq_true (by omega)), asrt_pos (by omega), points_p (hc _ hm), Option.bind_some, asrt_pos (by omega), hb, Int.mul_one, w64_of (x := pts _) (by omega), w64_of (by omega), w64_of (by omega)]; rfl
      · simp only [gameroomref_ShowOf_L2, gameroomref_ShowOf_J5, gameroomref_ShowOf_J6]
        rw [if_pos (decide_eq_true (by omega)), asrt_pos (by omega), hb, if_pos (by decide), asrt_pos (by omega), points_r (hc _ hm), Option.bind_some, w64_of (by omega), w64_of (by omega)]; rfl) (by
    intro s ⟨h1, h2⟩
    refine ⟨s, s, ?_, ?_, rfl, h1, by omega⟩
    · simp only [crib_fifteens_L2]
      rw [if_neg (by rw [hl]; decide)]
    · simp only [gameroomref_ShowOf_L2]
      rw [if_neg (by decide)])
  exact ⟨r1, e4, e5, e1, by rw [e3]; exact e2⟩

theorem fifteens_both (p : Bool) : ∃ v : Int, 0 ≤ v ∧ v ≤ 64 ∧ crib_fifteens_m l p = some v ∧ loop (gameroomref_ShowOf_L1 l) (0, 0) = some v := by
  obtain ⟨r1, r2, e1, e2, e3, e4, e5⟩ := count_loop2' (step1 := crib_fifteens_L1 l) (step2 := gameroomref_ShowOf_L1 l) (fun (s : Int) (i : Nat) => (s, (i : Int))) (fun (s : Int) (i : Nat) => (s, (i : Int))) (fun i s => 0 ≤ s ∧ s ≤ 2 * i) (fun r1 r2 => r1 = r2 ∧ 0 ≤ r1 ∧ r1 ≤ 64) 32 0 ⟨by omega, by omega⟩ (by
    intro a s ha ⟨h1, h2⟩
    obtain ⟨v, v0, v1, v2, v3⟩ := mask_both hl hc ha
    simp only [crib_fifteens_L1, crib_fifteens_J2, gameroomref_ShowOf_L1, gameroomref_ShowOf_J2]
    rw [hl, show shlK .i64 1 ((5 : Nat) : Int) = 32 by decide, if_pos (decide_eq_true (by omega)), if_pos (decide_eq_true (by omega)), v2, v3, Option.bind_some, Option.bind_some]
    simp only [crib_fifteens_K2, crib_fifteens_J4, crib_fifteens_J3, gameroomref_ShowOf_K2, gameroomref_ShowOf_J4, gameroomref_ShowOf_J3]
    by_cases q : v = 15
    · refine ⟨s + 2, ?_, ?_, by omega, by omega⟩
      · rw [if_pos (by simpa using q), w64_of (by omega), w64_of (by omega)]; rfl
      · rw [if_pos (by simpa using q), w64_of (by omega), w64_of (by omega)]; rfl
    · refine ⟨s, ?_, ?_, by omega, by omega⟩
      · rw [if_neg (by simpa using q), w64_of (by omega)]; rfl
      · rw [if_neg (by simpa using q), w64_of (by omega)]; rfl) (by
    intro s ⟨h1, h2⟩
    refine ⟨s, s, ?_, ?_, rfl, h1, by omega⟩
    · simp only [crib_fifteens_L1]
      rw [hl, if_neg (by decide)]
    · simp only [gameroomref_ShowOf_L1]
      rw [if_neg (by decide)])
  refine ⟨r1, e4, e5, ?_, by rw [e3]; exact e2⟩
  unfold crib_fifteens_m
  rw [asrt_pos (by omega)]
  have e1' : loop (crib_fifteens_L1 l) (0, 0) = some r1 := e1
  rw [e1']; rfl

theorem pair_both {i : Nat} (hi : i < 5) {n v : Int} (hn : 0 ≤ n ∧ n ≤ 64) (hv : 0 ≤ v ∧ v ≤ 10 * i) : ∃ v' : Int, 0 ≤ v' ∧ v' ≤ 10 * (i + 1) ∧ loop (crib_pairs_L2 l i) (v, 0) = some v' ∧ loop (gameroomref_ShowOf_L4 l i) (n + v, 0) = some (n + v') := by
  have hmi : geti l (i : Int) ∈ l := geti_mem (by omega)
  obtain ⟨r1, r2, e1, e2, e3, e4, e5⟩ := count_loop2' (step1 := crib_pairs_L2 l i) (step2 := gameroomref_ShowOf_L4 l i) (fun (s : Int) (k : Nat) => (s, (k : Int))) (fun (s : Int) (k : Nat) => (n + s, (k : Int))) (fun k s => 0 ≤ s ∧ s ≤ 10 * i + 2 * k) (fun r1 r2 => r2 = n + r1 ∧ 0 ≤ r1 ∧ r1 ≤ 10 * (i + 1)) i v ⟨by omega, by omega⟩ (by
    intro k s hk ⟨h1, h2⟩
    have hm : geti l (k : Int) ∈ l := geti_mem (by omega)
    by_cases q : pf (geti l (i : Int)) = pf (geti l (k : Int))
    · refine ⟨s + 2, ?_, ?_, by omega, by omega⟩
      · simp only [crib_pairs_L2, crib_pairs_J4, crib_pairs_J5]
        rw [if_pos (decide_eq_true (by omega)), asrt_pos (by omega), pip_p (hc _ hmi), Option.bind_some, asrt_pos (by omega), pip_p (hc _ hm), Option.bind_some, if_pos (by simpa using q), w64_of (by omega), w64_of (by omega)]; rfl
      · simp only [gameroomref_ShowOf_L4, gameroomref_ShowOf_J10, gameroomref_ShowOf_J11]
        rw [if_pos (decide_eq_true (by omega)), asrt_pos (by omega), pip_r (hc _ hmi), Option.bind_some, asrt_pos (by omega), pip_r (hc _ hm), Option.bind_some, if_pos (by simpa using q), w64_of (by omega), w64_of (by omega), Int.add_assoc]; rfl
    · refine ⟨s, ?_, ?_, by omega, by omega⟩
      · simp only [crib_pairs_L2, crib_pairs_J4, crib_pairs_J5]
        rw [if_pos (decide_eq_true (by omega)), asrt_pos (by omega), pip_p (hc _ hmi), Option.bind_some, asrt_pos (by omega), pip_p (hc _ hm), Option.bind_some, if_neg (by simpa using q), w64_of (by omega)]; rfl
      · simp only [gameroomref_ShowOf_L4, gameroomref_ShowOf_J10, gameroomref_ShowOf_J11]
        rw [if_pos (decide_eq_true (by omega)), asrt_pos (by omega), pip_r (hc _ hmi), Option.bind_some, asrt_pos (by omega), pip_r (hc _ hm), Option.bind_some, if_neg (by simpa using q), w64_of (by omega)]; rfl) (by
    intro s ⟨h1, h2⟩
    refine ⟨s, n + s, ?_, ?_, rfl, h1, by omega⟩
    · simp only [crib_pairs_L2]
      rw [if_neg (by simp)]
    · simp only [gameroomref_ShowOf_L4]
      rw [if_neg (by simp)])
  exact ⟨r1, e4, e5, e1, by rw [← e3]; exact e2⟩

theorem pairs_both (p : Bool) {n : Int} (hn : 0 ≤ n ∧ n ≤ 64) : ∃ v : Int, 0 ≤ v ∧ v ≤ 50 ∧ crib_pairs_m l p = some v ∧ loop (gameroomref_ShowOf_L3 l) (n, 0) = some (n + v) := by
  obtain ⟨r1, r2, e1, e2, e3, e4, e5⟩ := count_loop2' (step1 := crib_pairs_L1 l) (step2 := gameroomref_ShowOf_L3 l) (fun (s : Int) (k : Nat) => (s, (k : Int))) (fun (s : Int) (k : Nat) => (n + s, (k : Int))) (fun k s => 0 ≤ s ∧ s ≤ 10 * k) (fun r1 r2 => r2 = n + r1 ∧ 0 ≤ r1 ∧ r1 ≤ 50) 5 0 ⟨by omega, by omega⟩ (by
    intro i s hi h
    obtain ⟨v, v0, v1, v2, v3⟩ := pair_both hl hc hi hn h
    refine ⟨v, ?_, ?_, v0, by omega⟩
    · simp only [crib_pairs_L1, crib_pairs_J2]
      rw [if_pos (decide_eq_true (by omega)), v2, Option.bind_some]
      simp only [crib_pairs_K2, crib_pairs_J3]
      rw [w64_of (by omega)]; rfl
    · simp only [gameroomref_ShowOf_L3, gameroomref_ShowOf_J8]
      rw [if_pos (decide_eq_true (by omega)), v3, Option.bind_some]
      simp only [gameroomref_ShowOf_K4, gameroomref_ShowOf_J9]
      rw [w64_of (by omega)]; rfl) (by
    intro s ⟨h1, h2⟩
    refine ⟨s, n + s, ?_, ?_, rfl, h1, by omega⟩
    · simp only [crib_pairs_L1]
      rw [if_neg (by simp; omega)]
    · simp only [gameroomref_ShowOf_L3]
      rw [if_neg (by decide)])
  refine ⟨r1, e4, e5, ?_, ?_⟩
  · unfold crib_pairs_m
    have e1' : loop (crib_pairs_L1 l) (0, 0) = some r1 := e1
    rw [e1']; rfl
  · have e2' : loop (gameroomref_ShowOf_L3 l) (n + 0, 0) = some r2 := e2
    rw [Int.add_zero] at e2'
    rw [e2', e3]

/-- How many of a rank. -/
abbrev cn (l : List Int) (p : Nat) : Nat := (l.map pf).count (p : Int)

omit hc in
theorem cn_bd (p : Nat) : cn l p ≤ 5 := by
  have := List.count_le_length (l := l.map pf) (a := (p : Int))
  rw [List.length_map, hl] at this; exact this

omit hl hc in
theorem cn_out {p : Nat} (h : p = 0 ∨ 14 ≤ p) : cn l p = 0 := by
  rw [List.count_eq_zero]
  intro hm
  obtain ⟨x, hx, e⟩ := List.mem_map.1 hm
  have := pf_bd x
  omega

/-- How many below a rank. -/
def cs (l : List Int) (p : Nat) : Nat := (l.map pf).countP (fun x => decide (x < (p : Int)))

omit hl hc in
theorem cs_succ (p : Nat) : cs l (p + 1) = cs l p + cn l p := by
  unfold cs cn
  induction l.map pf with
  | nil => rfl
  | cons x t ih =>
    rw [List.countP_cons, List.countP_cons, List.count_cons, ih]
    by_cases h1 : x < (p : Int)
    · rw [if_pos (by rw [decide_eq_true_eq]; omega), if_pos (by rw [decide_eq_true_eq]; omega), if_neg (by simp; omega)]; omega
    · by_cases h2 : x = (p : Int)
      · rw [if_pos (by rw [decide_eq_true_eq]; omega), if_neg (by rw [decide_eq_true_eq]; omega), if_pos (by simp; omega)]; omega
      · rw [if_neg (by rw [decide_eq_true_eq]; omega), if_neg (by rw [decide_eq_true_eq]; omega), if_neg (by simp; omega)]; omega

omit hl hc in
theorem cs_mono (p : Nat) : ∀ k, cs l p ≤ cs l (p + k)
  | 0 => Nat.le_refl _
  | k + 1 => by
    have := cs_mono p k
    have e := cs_succ (l := l) (p + k)
    rw [← Nat.add_assoc, e]; omega

/-- A run. -/
def Rn (l : List Int) (q n : Nat) : Prop := ∀ j, j < n → 0 < cn l (q + j)

omit hl hc in
theorem Rn.le {q n m : Nat} (h : Rn l q n) (hm : m ≤ n) : Rn l q m := fun j hj => h j (by omega)

omit hl hc in
theorem Rn.many {q : Nat} : ∀ {n : Nat}, Rn l q n → cs l q + n ≤ cs l (q + n)
  | 0, _ => Nat.le_refl _
  | n + 1, h => by
    have ih := Rn.many (n := n) (h.le (by omega))
    have := h n (by omega)
    have e := cs_succ (l := l) (q + n)
    show _ ≤ cs l (q + n + 1)
    omega

omit hc in
theorem cs_bd (p : Nat) : cs l p ≤ 5 := by
  have := List.countP_le_length (p := fun x => decide (x < (p : Int))) (l := l.map pf)
  rw [List.length_map, hl] at this
  exact this

omit hc in
theorem Rn.bd {q n : Nat} (h : Rn l q n) : n ≤ 5 := by
  have := h.many
  have := cs_bd hl (q + n)
  omega

omit hc in
/-- Two long runs that cannot grow are one. -/
theorem Rn.one {a b L : Nat} (h3 : 3 ≤ L) (ha : Rn l a L) (hb : Rn l b L) (hg : ¬ Rn l a (L + 1)) (hab : a < b) : False := by
  by_cases q : b ≤ a + L
  · apply hg
    intro j hj
    by_cases e : j < L
    · exact ha j e
    · have := hb (a + L - b) (by omega)
      rwa [show b + (a + L - b) = a + j by omega] at this
  · have h1 := ha.many
    have h2 := hb.many
    have h3 := cs_mono (l := l) (a + L) (b - (a + L))
    rw [show a + L + (b - (a + L)) = b by omega] at h3
    have := cs_bd hl (b + L)
    omega

/-- The ways of a run. -/
abbrev wy (l : List Int) (q n : Nat) : Nat := pr (fun j => cn l (q + j)) n

omit hl hc in
theorem pr_pos {f : Nat → Nat} : ∀ n, 0 < pr f n ↔ ∀ j, j < n → 0 < f j
  | 0 => ⟨fun _ j h => by omega, fun _ => Nat.one_pos⟩
  | n + 1 => by
    show 0 < pr f n * f n ↔ _
    constructor
    · intro h j hj
      have h1 : pr f n ≠ 0 := fun e => by rw [e, Nat.zero_mul] at h; omega
      have h2 : f n ≠ 0 := fun e => by rw [e, Nat.mul_zero] at h; omega
      by_cases q : j = n
      · rw [q]; omega
      · exact (pr_pos n).1 (by omega) j (by omega)
    · intro h
      exact Nat.mul_pos ((pr_pos n).2 (fun j hj => h j (by omega))) (h n (by omega))

omit hc in
theorem wy_bd (q n : Nat) (hn : n ≤ 14) : wy l q n ≤ 3937376385699289 := by
  have h := pr_bd (f := fun j => cn l (q + j)) (fun j => Nat.le_trans (cn_bd hl _) (by omega)) n
  have h2 : 13 ^ n ≤ 13 ^ 14 := Nat.pow_le_pow_right (by decide) hn
  have h3 : (13 : Nat) ^ 14 = 3937376385699289 := by decide
  exact Nat.le_trans h (by omega)

/-- The counts by rank. -/
theorem many_p : ∃ m, loop (crib_runs_L1 l) ((List.replicate 15 (0 : Int)), 0) = some m ∧ m.length = 15 ∧ ∀ p : Nat, p < 15 → geti m (p : Int) = (cn l p : Int) := by
  have := count_loop (step := crib_runs_L1 l) (fun (s : List Int) (i : Nat) => (s, (i : Int))) (fun i s => s.length = 15 ∧ ∀ p : Nat, p < 15 → geti s (p : Int) = ((((l.take i).map pf).count (p : Int) : Nat) : Int)) (fun m => m.length = 15 ∧ ∀ p : Nat, p < 15 → geti m (p : Int) = (cn l p : Int)) 5 (List.replicate 15 (0 : Int)) ⟨rfl, fun p hp => by
      obtain ⟨k, rfl⟩ : ∃ k : Fin 15, p = k.val := ⟨⟨p, hp⟩, rfl⟩
      rw [show (((l.take 0).map pf).count ((k.val : Nat) : Int)) = 0 by simp]
      revert k; decide⟩ (by
    intro i s hi ⟨h1, h2⟩
    left
    have hm : geti l (i : Int) ∈ l := geti_mem (by omega)
    have hp := pf_bd (geti l (i : Int))
    obtain ⟨k, hk⟩ : ∃ k : Nat, pf (geti l (i : Int)) = (k : Int) := ⟨(pf (geti l (i : Int))).toNat, by omega⟩
    have h2k := h2 k (by omega)
    have hle := List.count_le_length (l := (l.take i).map pf) (a := (k : Int))
    rw [List.length_map, List.length_take] at hle
    refine ⟨s.set k (geti s (k : Int) + 1), ?_, by rw [List.length_set, h1], fun p hp' => ?_⟩
    · simp only [crib_runs_L1, crib_runs_J2, crib_runs_J3]
      rw [if_pos (decide_eq_true (by omega)), asrt_pos (by omega), pip_p (hc _ hm), Option.bind_some, asrt_pos (by omega), asrt_pos (by omega), asrt_pos (by omega), hk, Int.toNat_natCast, w64_of (by omega), w64_of (by omega)]; rfl
    · rw [map_take (by omega), List.count_append, List.count_singleton, hk, geti_set' (by omega) (by omega)]
      by_cases e : p = k
      · subst e
        rw [if_pos rfl, if_pos (by simp), h2 p hp']; omega
      · rw [if_neg (by omega), if_neg (by simp; omega), h2 p hp', Nat.add_zero]) (by
    intro s ⟨h1, h2⟩
    refine ⟨s, ?_, h1, fun p hp => ?_⟩
    · simp only [crib_runs_L1]
      rw [hl, if_neg (by decide)]
    · rw [h2 p hp, ← hl, List.take_length])
  exact this

omit hc in
theorem from_p {m : List Int} (hm : m.length = 15) (hg : ∀ p : Nat, p < 15 → geti m (p : Int) = (cn l p : Int)) {p : Nat} (hp : 1 ≤ p ∧ p < 15) :
    ∃ k : Nat, loop (crib_runs_L3 m (p : Int)) (0, 1) = some ((k : Int), (wy l p k : Int)) ∧ Rn l p k ∧ cn l (p + k) = 0 ∧ k ≤ 14 - p := by
  obtain ⟨r, e, k, rfl, h1, h2, h3⟩ := count_loop (step := crib_runs_L3 m (p : Int)) (fun (_ : Unit) (i : Nat) => ((i : Int), (wy l p i : Int))) (fun i _ => Rn l p i) (fun r => ∃ k : Nat, r = ((k : Int), (wy l p k : Int)) ∧ Rn l p k ∧ cn l (p + k) = 0 ∧ k ≤ 14 - p) (14 - p) () (fun j hj => by omega) (by
    intro i _ hi h
    have hgi := hg (p + i) (by omega)
    have wb := wy_bd hl p (i + 1) (by omega)
    have es : wy l p (i + 1) = wy l p i * cn l (p + i) := rfl
    simp only [crib_runs_L3]
    rw [w64_of (x := (p : Int) + (i : Int)) (by omega), show minI ((p : Int) + (i : Int)) 14 = ((p + i : Nat) : Int) by unfold minI; split <;> omega, asrt_pos (by omega), hgi]
    by_cases q : 0 < cn l (p + i)
    · left
      refine ⟨(), ?_, fun j hj => ?_⟩
      · rw [if_pos (decide_eq_true (by omega))]
        unfold crib_runs_J8
        rw [w64_of (x := (p : Int) + (i : Int)) (by omega), show (p : Int) + (i : Int) = ((p + i : Nat) : Int) by omega, hgi, asrt_pos (by omega), ← Int.natCast_mul, ← es, w64_nat (by omega), w64_of (by omega)]; rfl
      · by_cases e : j = i
        · rw [e]; exact q
        · exact h j (by omega)
    · right
      exact ⟨_, by rw [if_neg (by rw [decide_eq_true_eq]; omega)], i, rfl, h, by omega, by omega⟩) (by
    intro _ h
    have hgi := hg 14 (by omega)
    have h0 := cn_out (l := l) (p := 14) (Or.inr (by omega))
    refine ⟨_, ?_, 14 - p, rfl, h, by rw [show p + (14 - p) = 14 by omega]; exact h0, Nat.le_refl _⟩
    simp only [crib_runs_L3]
    rw [w64_of (by omega), show minI ((p : Int) + ((14 - p : Nat) : Int)) 14 = ((14 : Nat) : Int) by unfold minI; split <;> omega, asrt_pos (by omega), hgi, h0, if_neg (by decide)])
  exact ⟨k, e, h1, h2, h3⟩

/-- What is known of the longest run so far. -/
def Bst (l : List Int) (p : Nat) (b L : Int) : Prop :=
  (b = 0 ∧ L = 0 ∧ ∀ q, 1 ≤ q → q < p → ¬ Rn l q 3) ∨
  ∃ q n : Nat, 1 ≤ q ∧ q < p ∧ 3 ≤ n ∧ n ≤ 5 ∧ q + n ≤ 14 ∧ Rn l q n ∧ L = n ∧ b = ((n * wy l q n : Nat) : Int) ∧ ∀ q', 1 ≤ q' → q' < p → ¬ Rn l q' (n + 1)

theorem runs_p (x : Bool) : ∃ b L, crib_runs_m l x = some b ∧ Bst l 15 b L := by
  obtain ⟨m, hm0, hm, hg⟩ := many_p hl hc
  obtain ⟨b, e, L, h⟩ := count_loop (step := crib_runs_L2 m) (fun (s : Int × Int) (i : Nat) => (s.1, s.2, ((i + 1 : Nat) : Int))) (fun i s => Bst l (i + 1) s.1 s.2) (fun b => ∃ L, Bst l 15 b L) 14 (0, 0) (Or.inl ⟨rfl, rfl, fun q h1 h2 => by omega⟩) (by
    rintro i ⟨b, L⟩ hi hB
    left
    obtain ⟨k, e1, e2, e3, e4⟩ := from_p hl hm hg (p := i + 1) (by omega)
    have hk5 := e2.bd hl
    have wb := wy_bd hl (i + 1) k (by omega)
    have hno : ∀ n, k < n → ¬ Rn l (i + 1) n := fun n hn h => by have := h k hn; omega
    have hmul : k * wy l (i + 1) k ≤ 5 * 3937376385699289 := Nat.mul_le_mul hk5 wb
    by_cases q : 3 ≤ (k : Int) ∧ L < (k : Int)
    · refine ⟨(((k * wy l (i + 1) k : Nat) : Int), (k : Int)), ?_, Or.inr ⟨i + 1, k, by omega, by omega, by omega, hk5, by omega, e2, rfl, rfl, fun q' h1 h2 h => ?_⟩⟩
      · simp only [crib_runs_L2, crib_runs_J5]
        rw [if_pos (decide_eq_true (by omega)), e1, Option.bind_some]
        simp only [crib_runs_K3, crib_runs_J7, crib_runs_J6]
        rw [if_pos (by rw [Bool.and_eq_true]; exact ⟨decide_eq_true q.1, decide_eq_true q.2⟩), ← Int.natCast_mul, w64_nat (by omega), w64_of (by omega)]; rfl
      · by_cases e : q' = i + 1
        · rw [e] at h; exact hno _ (by omega) h
        · rcases hB with ⟨_, _, hB⟩ | ⟨q0, n, _, _, b3, _, _, _, b4, _, hB⟩
          · exact hB q' h1 (by omega) (h.le (by omega))
          · dsimp only at b4
            exact hB q' h1 (by omega) (h.le (by omega))
    · refine ⟨(b, L), ?_, ?_⟩
      · simp only [crib_runs_L2, crib_runs_J5]
        rw [if_pos (decide_eq_true (by omega)), e1, Option.bind_some]
        simp only [crib_runs_K3, crib_runs_J7, crib_runs_J6]
        rw [if_neg (by rw [Bool.and_eq_true, decide_eq_true_eq, decide_eq_true_eq]; exact q), w64_of (by omega)]; rfl
      · rcases hB with ⟨b1, b2, hB⟩ | ⟨q0, n, b1, b2, b3, b4, b5, b6, b7, b8, hB⟩
        · dsimp only at b2
          refine Or.inl ⟨b1, b2, fun q' h1 h2 h => ?_⟩
          by_cases e : q' = i + 1
          · rw [e] at h; exact hno _ (by omega) h
          · exact hB q' h1 (by omega) h
        · dsimp only at b7
          refine Or.inr ⟨q0, n, b1, by omega, b3, b4, b5, b6, b7, b8, fun q' h1 h2 h => ?_⟩
          by_cases e : q' = i + 1
          · rw [e] at h; exact hno _ (by omega) h
          · exact hB q' h1 (by omega) h) (by
    rintro ⟨b, L⟩ hB
    refine ⟨b, ?_, L, hB⟩
    simp only [crib_runs_L2]
    rw [if_neg (by decide)])
  refine ⟨b, L, ?_, h⟩
  unfold crib_runs_m
  rw [hm0, Option.bind_some]
  simp only [crib_runs_K1, crib_runs_J1]
  have e' : loop (crib_runs_L2 m) (0, 0, 1) = some b := e
  rw [e', Option.bind_some]; rfl

theorem low_r {n : Nat} (hn : 3 ≤ n ∧ n ≤ 5) : loop (gameroomref_ShowOf_L6 l (n : Int)) (0, 1) = some (sm (14 - n) (fun i => (wy l (i + 1) n : Int))) := by
  refine loop_from (r := sm (14 - n) (fun i => (wy l (i + 1) n : Int))) (fun i => (sm i (fun i => (wy l (i + 1) n : Int)), ((i + 1 : Nat) : Int))) (14 - n) rfl ?_ ?_
  · intro i hi
    have wb := wy_bd hl (i + 1) n (by omega)
    have sb := sm_bd (f := fun i => (wy l (i + 1) n : Int)) (a := 0) (b := 3937376385699289) i (fun j _ => ⟨by omega, by have := wy_bd hl (j + 1) n (by omega); omega⟩)
    simp only [gameroomref_ShowOf_L6, gameroomref_ShowOf_J16, gameroomref_ShowOf_J17]
    have hw : gameroomref_rowWays_m l ((i + 1 : Nat) : Int) (n : Int) = some (wy l (i + 1) n : Int) := by
      rw [ways_r (by omega) hc (by omega) (by omega)]
      rfl
    rw [w64_of (x := ((i + 1 : Nat) : Int) + (n : Int)) (by omega), if_pos (decide_eq_true (by omega)), hw, Option.bind_some, w64_of (x := ((i + 1 : Nat) : Int) + 1) (by omega), w64_of (by omega), sm_succ]; rfl
  · simp only [gameroomref_ShowOf_L6]
    rw [w64_of (by omega), if_neg (by rw [decide_eq_true_eq]; omega)]

theorem runs_r {b L : Int} (h : Bst l 15 b L) {n : Int} (hn : 0 ≤ n ∧ n ≤ 200) : 0 ≤ b ∧ b ≤ 5 * 3937376385699289 ∧ loop (gameroomref_ShowOf_L5 l n) 5 = some (n + b) := by
  have none : ∀ k : Nat, 3 ≤ k → k ≤ 5 → (∀ q, 1 ≤ q → q < 15 → ¬ Rn l q k) → gameroomref_ShowOf_L5 l n (k : Int) = some (.next ((k : Int) - 1)) := fun k h1 h2 hno => by
    simp only [gameroomref_ShowOf_L5, gameroomref_ShowOf_J13]
    rw [if_pos (decide_eq_true (by omega)), low_r hl hc ⟨h1, h2⟩, Option.bind_some, sm_congr (g := fun _ => 0) _ (fun i hi => ?_), sm_zero]
    · simp only [gameroomref_ShowOf_K6, gameroomref_ShowOf_J15, gameroomref_ShowOf_J14]
      rw [if_neg (by decide), w64_of (by omega)]
    · have : ¬ 0 < wy l (i + 1) k := fun h => hno (i + 1) (by omega) (by omega) ((pr_pos k).1 h)
      show (wy l (i + 1) k : Int) = 0
      omega
  have w5 : ((5 : Int) - 1) = ((4 : Nat) : Int) := rfl
  rcases h with ⟨b1, b2, hB⟩ | ⟨q0, k, b1, b2, b3, b4, b5, b6, b7, b8, hB⟩
  · have hno : ∀ k : Nat, 3 ≤ k → ∀ q, 1 ≤ q → q < 15 → ¬ Rn l q k := fun k hk q h1 h2 h => hB q h1 h2 (h.le hk)
    refine ⟨by omega, by omega, ?_⟩
    rw [b1, Int.add_zero]
    refine loop_next' (none 5 (by omega) (by omega) (hno 5 (by omega))) (loop_next' (none 4 (by omega) (by omega) (hno 4 (by omega))) (loop_next' (none 3 (by omega) (by omega) (hno 3 (by omega))) (loop_done ?_)))
    simp only [gameroomref_ShowOf_L5]
    rw [if_neg (by decide)]
  · have wb := wy_bd hl q0 k (by omega)
    have wp : 0 < wy l q0 k := (pr_pos k).2 b6
    have hmul : k * wy l q0 k ≤ 5 * 3937376385699289 := Nat.mul_le_mul b4 wb
    have hone : ∀ q, 1 ≤ q → q < 15 → q ≠ q0 → ¬ Rn l q k := fun q h1 h2 hne h => by
      rcases Nat.lt_or_ge q q0 with z | z
      · exact Rn.one hl b3 h b6 (hB q h1 h2) z
      · exact Rn.one hl b3 b6 h (hB q0 b1 b2) (by omega)
    have hit : gameroomref_ShowOf_L5 l n (k : Int) = some (.done (n + b)) := by
      simp only [gameroomref_ShowOf_L5, gameroomref_ShowOf_J13]
      rw [if_pos (decide_eq_true (by omega)), low_r hl hc ⟨b3, b4⟩, Option.bind_some, sm_congr (g := fun i => if i = q0 - 1 then (wy l q0 k : Int) else 0) _ (fun i hi => ?_), sm_pick (fun _ => (wy l q0 k : Int)), if_pos (by omega)]
      · simp only [gameroomref_ShowOf_K6, gameroomref_ShowOf_J15]
        rw [if_pos (decide_eq_true (by omega)), ← Int.natCast_mul, w64_nat (by omega), w64_of (by omega), b8]
      · by_cases e : i = q0 - 1
        · rw [if_pos e, e, show q0 - 1 + 1 = q0 by omega]
        · rw [if_neg e]
          have : ¬ 0 < wy l (i + 1) k := fun h => hone (i + 1) (by omega) (by omega) (by omega) ((pr_pos k).1 h)
          omega
    have hno : ∀ k' : Nat, k < k' → ∀ q, 1 ≤ q → q < 15 → ¬ Rn l q k' := fun k' hk q h1 h2 h => hB q h1 h2 (h.le hk)
    refine ⟨by omega, by omega, ?_⟩
    obtain rfl | rfl | rfl : k = 3 ∨ k = 4 ∨ k = 5 := by omega
    · exact loop_next' (none 5 (by omega) (by omega) (hno 5 (by omega))) (loop_next' (none 4 (by omega) (by omega) (hno 4 (by omega))) (loop_done hit))
    · exact loop_next' (none 5 (by omega) (by omega) (hno 5 (by omega))) (loop_done hit)
    · exact loop_done hit
end
end Go.Proofs.Ytlkdblflibgfpaa
