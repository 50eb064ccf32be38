/-
  CribPegs: the document's rows, equal ranks, and the law.
-/
import Derived.Test.YtgafnmnacolgbaaCPa
namespace Go.Proofs.Ytgafnmnacolgbaa
open Go Go.GL

/-! ### The ways of a row -/
def pr (f : Nat → Nat) : Nat → Nat
  | 0 => 1
  | n + 1 => pr f n * f n
theorem pr_one (f : Nat → Nat) : ∀ n, pr f n = 1 ↔ ∀ j, j < n → f j = 1
  | 0 => ⟨fun _ j h => by omega, fun _ => rfl⟩
  | n + 1 => by
    show pr f n * f n = 1 ↔ _
    have key : pr f n * f n = 1 ↔ pr f n = 1 ∧ f n = 1 :=
      ⟨fun h => ⟨Nat.eq_one_of_mul_eq_one_right h, Nat.eq_one_of_mul_eq_one_left h⟩, fun h => by rw [h.1, h.2]⟩
    rw [key, pr_one f n]
    constructor
    · rintro ⟨h1, h2⟩ j hj
      by_cases q : j = n
      · rw [q]; exact h2
      · exact h1 j (by omega)
    · intro h
      exact ⟨fun j hj => h j (by omega), h n (by omega)⟩
theorem pr_bd {f : Nat → Nat} (h : ∀ j, f j ≤ 13) : ∀ n, pr f n ≤ 13 ^ n
  | 0 => Nat.le_refl _
  | n + 1 => Nat.mul_le_mul (pr_bd h n) (h n)

theorem count_r {l : List Int} {p : Int} (hl : l.length ≤ 13) (hc : ∀ x ∈ l, Card x) : loop (gameroomref_rowWays_L2 l p) (0, 0) = some (((l.map pf).count p : Nat) : Int) := by
  refine loop_from (r := (((l.map pf).count p : Nat) : Int)) (fun i => ((((l.take i).map pf).count p : Nat), (i : Int))) l.length rfl ?_ ?_
  · intro i hi
    have hm : geti l (i : Int) ∈ l := geti_mem hi
    have hb := List.count_le_length (l := (l.take i).map pf) (a := p)
    rw [List.length_map, List.length_take] at hb
    simp only [gameroomref_rowWays_L2, gameroomref_rowWays_J5, gameroomref_rowWays_J6]
    rw [if_pos (decide_eq_true (by omega)), asrt_pos (by omega), pip_r (hc _ hm), Option.bind_some, map_take hi, List.count_append, w64_of (x := (i : Int) + 1) (by omega), List.count_singleton]
    by_cases q : pf (geti l (i : Int)) = p
    · rw [if_pos (by simpa using q), if_pos (by simpa using q), w64_of (by omega)]; rfl
    · rw [if_neg (by simpa using q), if_neg (by simpa using q)]; rfl
  · simp only [gameroomref_rowWays_L2]
    rw [if_neg (by simp), List.take_length]

theorem ways_r {l : List Int} {low : Int} {k : Nat} (hl : l.length ≤ 13) (hc : ∀ x ∈ l, Card x) (hlow : 0 ≤ low ∧ low ≤ 14) (hk : k ≤ 13) : gameroomref_rowWays_m l low k = some ((pr (fun j => (l.map pf).count (low + j)) k : Nat) : Int) := by
  have hf : ∀ j : Nat, (l.map pf).count (low + j) ≤ 13 := fun j => by
    have := List.count_le_length (l := l.map pf) (a := low + j)
    rw [List.length_map] at this; omega
  have h := loop_from (step := gameroomref_rowWays_L1 l low k) (s0 := (1, low)) (r := ((pr (fun j => (l.map pf).count (low + j)) k : Nat) : Int)) (fun i => (((pr (fun j => (l.map pf).count (low + j)) i : Nat) : Int), low + (i : Int))) k (by show (((1 : Nat) : Int), _) = _; rw [show low + ((0 : Nat) : Int) = low by omega]; rfl) (by
    intro i hi
    have b := pr_bd hf (i + 1)
    have b2 : 13 ^ (i + 1) ≤ 13 ^ 13 := Nat.pow_le_pow_right (by decide) (by omega)
    have b3 : (13 : Nat) ^ 13 = 302875106592253 := by decide
    have es : pr (fun j => (l.map pf).count (low + j)) (i + 1) = pr (fun j => (l.map pf).count (low + j)) i * (l.map pf).count (low + i) := rfl
    simp only [gameroomref_rowWays_L1, gameroomref_rowWays_J2]
    rw [w64_of (x := low + (k : Int)) (by omega), if_pos (decide_eq_true (by omega)), count_r hl hc, Option.bind_some]
    simp only [gameroomref_rowWays_K2, gameroomref_rowWays_J4, gameroomref_rowWays_J3]
    rw [← Int.natCast_mul, ← es, w64_nat (by omega), w64_of (by omega), show low + (i : Int) + 1 = low + ((i + 1 : Nat) : Int) by omega]) (by
    simp only [gameroomref_rowWays_L1]
    rw [w64_of (x := low + (k : Int)) (by omega), if_neg (by simp)])
  unfold gameroomref_rowWays_m
  rw [h]; rfl

/-- The least. -/
def mn (a : Int) (q : List Int) : Int := q.foldl (fun a x => if x < a then x else a) a
theorem mn_spec : ∀ (q : List Int) (a : Int), mn a q ≤ a ∧ (∀ x ∈ q, mn a q ≤ x) ∧ (mn a q = a ∨ mn a q ∈ q)
  | [], a => ⟨Int.le_refl _, fun x hx => by simp at hx, .inl rfl⟩
  | y :: q, a => by
    have ih := mn_spec q (if y < a then y else a)
    show mn (if y < a then y else a) q ≤ a ∧ (∀ x ∈ y :: q, mn (if y < a then y else a) q ≤ x) ∧ (mn (if y < a then y else a) q = a ∨ mn (if y < a then y else a) q ∈ y :: q)
    obtain ⟨i1, i2, i3⟩ := ih
    generalize mn (if y < a then y else a) q = m at *
    by_cases h : y < a
    · rw [if_pos h] at i1 i3
      refine ⟨by omega, fun x hx => ?_, ?_⟩
      · rcases List.mem_cons.1 hx with rfl | hx
        · exact i1
        · exact i2 x hx
      · rcases i3 with i3 | i3
        · right; rw [i3]; exact List.mem_cons_self ..
        · right; exact List.mem_cons_of_mem _ i3
    · rw [if_neg h] at i1 i3
      refine ⟨i1, fun x hx => ?_, ?_⟩
      · rcases List.mem_cons.1 hx with rfl | hx
        · omega
        · exact i2 x hx
      · rcases i3 with i3 | i3
        · left; exact i3
        · right; exact List.mem_cons_of_mem _ i3

theorem drop_get {l : List Int} {d j : Nat} : geti (l.drop d) (j : Int) = geti l ((d + j : Nat) : Int) := by
  rw [geti_nat, geti_nat, List.getD_eq_getElem?_getD, List.getD_eq_getElem?_getD, List.getElem?_drop]

theorem low_r {l : List Int} {k : Nat} (hl : l.length ≤ 13) (hk : k ≤ l.length) (hc : ∀ x ∈ l, Card x) : loop (gameroomref_PegOf_L5 l) (14, ((l.length - k : Nat) : Int)) = some (mn 14 ((l.drop (l.length - k)).map pf)) := by
  have hlen : (l.drop (l.length - k)).length = k := by rw [List.length_drop]; omega
  refine loop_from (r := mn 14 ((l.drop (l.length - k)).map pf)) (fun i => (mn 14 (((l.drop (l.length - k)).take i).map pf), ((l.length - k + i : Nat) : Int))) k rfl ?_ ?_
  · intro i hi
    have hm : geti l ((l.length - k + i : Nat) : Int) ∈ l := geti_mem (by omega)
    have es : mn 14 (((l.drop (l.length - k)).take (i + 1)).map pf) = if pf (geti l ((l.length - k + i : Nat) : Int)) < mn 14 (((l.drop (l.length - k)).take i).map pf) then pf (geti l ((l.length - k + i : Nat) : Int)) else mn 14 (((l.drop (l.length - k)).take i).map pf) := by
      rw [map_take (by omega), drop_get]
      unfold mn
      rw [List.foldl_append]; rfl
    simp only [gameroomref_PegOf_L5, gameroomref_PegOf_J17, gameroomref_PegOf_J18]
    rw [es, if_pos (decide_eq_true (by omega)), asrt_pos (by omega), pip_r (hc _ hm), Option.bind_some, Option.bind_some, asrt_pos (by omega), w64_of (by omega)]
    have e1 : ((l.length - k + i : Nat) : Int) + 1 = ((l.length - k + (i + 1) : Nat) : Int) := by omega
    rw [e1]
    by_cases q : pf (geti l ((l.length - k + i : Nat) : Int)) < mn 14 (((l.drop (l.length - k)).take i).map pf)
    · rw [if_pos (decide_eq_true q), if_pos q]
    · rw [if_neg (by simpa using q), if_neg q]
  · simp only [gameroomref_PegOf_L5]
    rw [if_neg (by rw [decide_eq_true_eq]; omega), List.take_of_length_le (by omega)]

open Classical in
/-- Both rows' loops. -/
theorem rows_both {l : List Int} (hl : l.length ≤ 13) (hc : ∀ x ∈ l, Card x) {n2 : Int} (hn : 0 ≤ n2 ∧ n2 ≤ 2) : ∀ k : Nat, k ≤ l.length → ∃ v x y, 0 ≤ v ∧ loop (crib_Peg_L3 l n2) (k : Int) = some x ∧ crib_Peg_K3 n2 x = some (v, 0) ∧ loop (gameroomref_PegOf_L4 l n2) (k : Int) = some y ∧ gameroomref_PegOf_K4 n2 y = some v := by
  intro k
  induction k with
  | zero =>
    intro _
    exact ⟨n2, .go (), .go (), hn.1, loop_done (by simp [crib_Peg_L3]), rfl, loop_done (by simp [gameroomref_PegOf_L4]), rfl⟩
  | succ k ih =>
    intro hk
    by_cases h3 : 3 ≤ k + 1
    · have ed : ((l.length : Int) - ((k + 1 : Nat) : Int)) = ((l.length - (k + 1) : Nat) : Int) := by omega
      have ec : cut l ((l.length - (k + 1) : Nat) : Int) (l.length : Int) = l.drop (l.length - (k + 1)) := by
        unfold cut
        rw [Int.toNat_natCast]
        exact List.take_of_length_le (by rw [List.length_drop]; omega)
      have hlen : (l.drop (l.length - (k + 1))).length = k + 1 := by rw [List.length_drop]; omega
      have hc2 : ∀ x ∈ l.drop (l.length - (k + 1)), Card x := fun x hx => hc x (List.mem_of_mem_drop hx)
      have h1 := row_p (l := l.drop (l.length - (k + 1))) (by omega) (by omega) hc2
      have hlow := low_r hl hk hc
      -- the least
      have hms := mn_spec ((l.drop (l.length - (k + 1))).map pf) 14
      have hql : ((l.drop (l.length - (k + 1))).map pf).length = k + 1 := by rw [List.length_map, hlen]
      have hqb : ∀ x ∈ (l.drop (l.length - (k + 1))).map pf, 1 ≤ x ∧ x ≤ 13 := fun x hx => by
        obtain ⟨c, _, rfl⟩ := List.mem_map.1 hx
        exact pf_bd c
      have hin : mn 14 ((l.drop (l.length - (k + 1))).map pf) ∈ (l.drop (l.length - (k + 1))).map pf := by
        rcases hms.2.2 with h | h
        · exfalso
          have hz : geti ((l.drop (l.length - (k + 1))).map pf) ((0 : Nat) : Int) ∈ (l.drop (l.length - (k + 1))).map pf := geti_mem (by omega)
          have a1 := hms.2.1 _ hz
          have a2 := hqb _ hz
          omega
        · exact h
      have hri := row_iff (by omega) hin hms.2.1
      have hlb := hqb _ hin
      rw [hql] at hri
      have hw := ways_r (low := mn 14 ((l.drop (l.length - (k + 1))).map pf)) (k := k + 1) (by omega) hc2 (by omega) (by omega)
      have s1 : crib_Peg_L3 l n2 ((k + 1 : Nat) : Int) = if Row ((l.drop (l.length - (k + 1))).map pf) then some (.done (.ret (n2 + ((k + 1 : Nat) : Int), 0))) else some (.next (k : Int)) := by
        simp only [crib_Peg_L3, crib_Peg_J12, crib_Peg_J13]
        rw [if_pos (decide_eq_true (by omega)), w64_of (x := (l.length : Int) - ((k + 1 : Nat) : Int)) (by omega), ed, asrt_pos (by omega), ec, h1, Option.bind_some, w64_of (x := n2 + ((k + 1 : Nat) : Int)) (by omega), w64_of (x := ((k + 1 : Nat) : Int) - 1) (by omega), show ((k + 1 : Nat) : Int) - 1 = (k : Int) by omega]
        by_cases q : Row ((l.drop (l.length - (k + 1))).map pf)
        · rw [if_pos (decide_eq_true q), if_pos q]
        · rw [if_neg (by simpa using q), if_neg q]
      have s2 : gameroomref_PegOf_L4 l n2 ((k + 1 : Nat) : Int) = if Row ((l.drop (l.length - (k + 1))).map pf) then some (.done (.ret (n2 + ((k + 1 : Nat) : Int)))) else some (.next (k : Int)) := by
        simp only [gameroomref_PegOf_L4, gameroomref_PegOf_J14]
        rw [if_pos (decide_eq_true (by omega)), w64_of (x := (l.length : Int) - ((k + 1 : Nat) : Int)) (by omega), ed, hlow, Option.bind_some]
        simp only [gameroomref_PegOf_K5]
        generalize mn 14 ((l.drop (l.length - (k + 1))).map pf) = low at *
        unfold gameroomref_PegOf_J16 gameroomref_PegOf_J15
        rw [w64_of (x := low + ((k + 1 : Nat) : Int)) (by omega), w64_of (x := (l.length : Int) - ((k + 1 : Nat) : Int)) (by omega), ed, asrt_pos (by intro _; omega), ec, w64_of (x := n2 + ((k + 1 : Nat) : Int)) (by omega), w64_of (x := ((k + 1 : Nat) : Int) - 1) (by omega), show ((k + 1 : Nat) : Int) - 1 = (k : Int) by omega]
        by_cases q : Row ((l.drop (l.length - (k + 1))).map pf)
        · have hq := hri.1 q
          -- the greatest is at most 13
          have hmax : low + ((k + 1 : Nat) : Int) ≤ 14 := by
            have hx := hq (low + (k : Int)) (by omega) (by omega)
            have hm : low + (k : Int) ∈ (l.drop (l.length - (k + 1))).map pf := List.count_pos_iff.1 (by omega)
            have := hqb _ hm
            omega
          have hone : pr (fun j => ((l.drop (l.length - (k + 1))).map pf).count (low + j)) (k + 1) = 1 := (pr_one _ _).2 fun j hj => hq _ (by omega) (by omega)
          rw [if_pos (decide_eq_true hmax), hw, hone, Option.bind_some, if_pos (by rw [decide_eq_true hmax]; rfl), if_pos q]
        · rw [if_neg q]
          by_cases hmax : low + ((k + 1 : Nat) : Int) ≤ 14
          · rw [if_pos (decide_eq_true hmax), hw, Option.bind_some, if_neg]
            intro hb
            rw [Bool.and_eq_true, beq_iff_eq] at hb
            have hone : pr (fun j => ((l.drop (l.length - (k + 1))).map pf).count (low + j)) (k + 1) = 1 := by omega
            refine q (hri.2 fun x hx1 hx2 => ?_)
            have := (pr_one _ _).1 hone (x - low).toNat (by omega)
            rwa [show low + (((x - low).toNat : Nat) : Int) = x by omega] at this
          · rw [if_neg (by simpa using hmax), Option.bind_some, if_neg (by rw [decide_eq_false hmax]; simp)]
      by_cases q : Row ((l.drop (l.length - (k + 1))).map pf)
      · rw [if_pos q] at s1 s2
        exact ⟨n2 + ((k + 1 : Nat) : Int), _, _, by omega, loop_done s1, rfl, loop_done s2, rfl⟩
      · rw [if_neg q] at s1 s2
        obtain ⟨v, x, y, h0, a1, a2, a3, a4⟩ := ih (by omega)
        exact ⟨v, x, y, h0, loop_next' s1 a1, a2, loop_next' s2 a3, a4⟩
    · exact ⟨n2, .go (), .go (), hn.1, loop_done (by simp only [crib_Peg_L3]; rw [if_neg (by simp; omega)]), rfl, loop_done (by simp only [gameroomref_PegOf_L4]; rw [if_neg (by simp; omega)]), rfl⟩
end Go.Proofs.Ytgafnmnacolgbaa
