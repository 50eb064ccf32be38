/-
  Men that are borne off: the law.
-/
import Derived.Test.YtbmhcapeikebgaaRLc
namespace Go.Proofs.Ytbmhcapeikebgaa
open Go Go.GL

/-! Fractions -/
theorem cop_of {u d : Nat} (hd : d ∣ 78364164096) (h2 : ¬ (2 ∣ u ∧ 2 ∣ d)) (h3 : ¬ (3 ∣ u ∧ 3 ∣ d)) : Nat.gcd u d = 1 := by
  have hu := Nat.gcd_dvd_left u d
  have hdd := Nat.gcd_dvd_right u d
  have hpos : 0 < Nat.gcd u d := Nat.pos_of_ne_zero fun e => by
    have := (Nat.gcd_eq_zero_iff.1 e).2
    subst this
    have := Nat.eq_zero_of_zero_dvd hd
    omega
  generalize Nat.gcd u d = e at *
  have e2 : Nat.gcd e 2 = 1 := by
    have h := Nat.gcd_dvd_right e 2
    have hl := Nat.le_of_dvd (by omega) h
    have h0 : Nat.gcd e 2 ≠ 0 := fun h => by have := (Nat.gcd_eq_zero_iff.1 h).2; omega
    by_cases q : Nat.gcd e 2 = 2
    · have := Nat.gcd_dvd_left e 2
      rw [q] at this
      exact absurd ⟨Nat.dvd_trans this hu, Nat.dvd_trans this hdd⟩ h2
    · omega
  have e3 : Nat.gcd e 3 = 1 := by
    have h := Nat.gcd_dvd_right e 3
    have hl := Nat.le_of_dvd (by omega) h
    have h0 : Nat.gcd e 3 ≠ 0 := fun h => by have := (Nat.gcd_eq_zero_iff.1 h).2; omega
    by_cases q : Nat.gcd e 3 = 3
    · have := Nat.gcd_dvd_left e 3
      rw [q] at this
      exact absurd ⟨Nat.dvd_trans this hu, Nat.dvd_trans this hdd⟩ h3
    · by_cases q2 : Nat.gcd e 3 = 2
      · rw [q2] at h; omega
      · omega
  have c2 : Nat.Coprime e (2 ^ 14) := Nat.Coprime.pow_right 14 e2
  have c3 : Nat.Coprime e (3 ^ 14) := Nat.Coprime.pow_right 14 e3
  have c : Nat.Coprime e (2 ^ 14 * 3 ^ 14) := Nat.Coprime.mul_right c2 c3
  have he : e ∣ 2 ^ 14 * 3 ^ 14 := Nat.dvd_trans hdd hd
  have := Nat.gcd_eq_left he
  unfold Nat.Coprime at c
  omega

theorem euclid : ∀ (n a b : Nat), b < n → loop gammon_Rolls_L2 ((a : Int), (b : Int)) = some ((Nat.gcd a b : Nat) : Int)
  | 0, _, _, h => by omega
  | n + 1, a, b, hb => by
    by_cases q : b = 0
    · subst q
      refine loop_done ?_
      simp [gammon_Rolls_L2]
    · have hr := Nat.mod_lt a (show 0 < b by omega)
      have ih := euclid n b (a % b) (by omega)
      have e : Nat.gcd a b = Nat.gcd b (a % b) := by
        rw [Nat.gcd_comm a b, Nat.gcd_rec b a, Nat.gcd_comm (a % b) b]
      rw [e]
      refine loop_next' ?_ ih
      simp only [gammon_Rolls_L2]
      rw [if_pos (by rw [bne_iff_ne]; omega)]
      unfold gammon_Rolls_J8
      rw [asrt_pos (by omega), Int.ofNat_tmod]

theorem part_r (p : Nat) (hp : 2 ≤ p) : ∀ (n u d : Nat), d < n → 0 < d → u < 9223372036854775808 → d < 9223372036854775808 → p < 9223372036854775808 →
    ∃ g u' d' : Nat, loop (gameroomref_RollsOf_L3 (p : Int)) ((u : Int), (d : Int)) = some ((u' : Int), (d' : Int)) ∧ u = g * u' ∧ d = g * d' ∧ ¬ (p ∣ u' ∧ p ∣ d') ∧ 0 < g
  | 0, _, _, h, _, _, _, _ => by omega
  | n + 1, u, d, hd, h0, hu, hdb, hpb => by
    have stepE : gameroomref_RollsOf_L3 (p : Int) ((u : Int), (d : Int)) = if p ∣ u ∧ p ∣ d then some (.next (((u / p : Nat) : Int), ((d / p : Nat) : Int))) else some (.done ((u : Int), (d : Int))) := by
      simp only [gameroomref_RollsOf_L3]
      have hu' : u / p ≤ u := Nat.div_le_self ..
      have hd' : d / p ≤ d := Nat.div_le_self ..
      have a1 : Int.tmod (u : Int) (p : Int) = ((u % p : Nat) : Int) := (Int.ofNat_tmod u p).symm
      have a2 : Int.tmod (d : Int) (p : Int) = ((d % p : Nat) : Int) := (Int.ofNat_tmod d p).symm
      have a3 : Int.tdiv (u : Int) (p : Int) = ((u / p : Nat) : Int) := (Int.ofNat_tdiv u p).symm
      have a4 : Int.tdiv (d : Int) (p : Int) = ((d / p : Nat) : Int) := (Int.ofNat_tdiv d p).symm
      rw [asrt_pos (by omega), asrt_pos (fun _ => by omega)]
      unfold gameroomref_RollsOf_J6
      rw [asrt_pos (by omega), asrt_pos (by omega), a1, a2, a3, a4]
      generalize u / p = x at *
      generalize d / p = y at *
      rw [w64_of (by omega), w64_of (by omega)]
      by_cases q : p ∣ u ∧ p ∣ d
      · rw [if_pos q, if_pos (by
          rw [Bool.and_eq_true, beq_iff_eq, beq_iff_eq, Nat.mod_eq_zero_of_dvd q.1, Nat.mod_eq_zero_of_dvd q.2]
          exact ⟨rfl, rfl⟩)]
      · rw [if_neg q, if_neg (by
          rw [Bool.and_eq_true, beq_iff_eq, beq_iff_eq]
          rintro ⟨b1, b2⟩
          exact q ⟨Nat.dvd_of_mod_eq_zero (by omega), Nat.dvd_of_mod_eq_zero (by omega)⟩)]
    by_cases q : p ∣ u ∧ p ∣ d
    · rw [if_pos q] at stepE
      have h1 := Nat.div_mul_cancel q.1
      have h2 := Nat.div_mul_cancel q.2
      have hlt : d / p < d := Nat.div_lt_self h0 (by omega)
      have hpos : 0 < d / p := Nat.pos_of_ne_zero fun e => by rw [e] at h2; omega
      have hu' : u / p ≤ u := Nat.div_le_self ..
      obtain ⟨g, u', d', r1, r2, r3, r4, r5⟩ := part_r p hp n (u / p) (d / p) (by omega) hpos (by omega) (by omega) hpb
      refine ⟨g * p, u', d', loop_next' stepE r1, ?_, ?_, r4, Nat.mul_pos r5 (by omega)⟩
      · rw [← h1, r2, Nat.mul_right_comm]
      · rw [← h2, r3, Nat.mul_right_comm]
    · rw [if_neg q] at stepE
      exact ⟨1, u, d, loop_done stepE, by omega, by omega, q, by omega⟩

/-- Both roads to the least terms. -/
theorem terms (u : Nat) (hu : u < 9223372036854775808) : ∃ g u' d' : Nat, loop gammon_Rolls_L2 ((u : Int), 78364164096) = some (g : Int) ∧ loop gameroomref_RollsOf_L2 ((u : Int), 78364164096, 2) = some ((u' : Int), (d' : Int)) ∧ 0 < g ∧ u = g * u' ∧ 78364164096 = g * d' := by
  obtain ⟨g1, u1, d1, r1, r2, r3, r4, r5⟩ := part_r 2 (by omega) _ u 78364164096 (Nat.lt_succ_self _) (by omega) hu (by omega) (by omega)
  have hu1 : u1 ≤ u := by rw [r2]; exact Nat.le_mul_of_pos_left _ r5
  have hd1 : d1 ≤ 78364164096 := by rw [r3]; exact Nat.le_mul_of_pos_left _ r5
  have hd0 : 0 < d1 := Nat.pos_of_ne_zero fun e => by rw [e] at r3; omega
  obtain ⟨g2, u2, d2, q1, q2, q3, q4, q5⟩ := part_r 3 (by omega) _ u1 d1 (Nat.lt_succ_self _) hd0 (by omega) (by omega) (by omega)
  have hE := euclid _ u 78364164096 (Nat.lt_succ_self _)
  have e1 : u = g1 * g2 * u2 := by rw [r2, q2, Nat.mul_assoc]
  have e2 : 78364164096 = g1 * g2 * d2 := by rw [r3, q3, Nat.mul_assoc]
  have hc : Nat.gcd u2 d2 = 1 := by
    refine cop_of ?_ ?_ q4
    · rw [e2]; exact Nat.dvd_mul_left ..
    · rintro ⟨b1, b2⟩
      exact r4 ⟨by rw [q2]; exact Nat.dvd_trans b1 (Nat.dvd_mul_left ..), by rw [q3]; exact Nat.dvd_trans b2 (Nat.dvd_mul_left ..)⟩
  have hg : Nat.gcd u 78364164096 = g1 * g2 := by
    conv => lhs; rw [e1]; rhs; rw [e2]
    rw [Nat.gcd_mul_left, hc, Nat.mul_one]
  refine ⟨g1 * g2, u2, d2, by rw [← hg]; exact hE, ?_, Nat.mul_pos r5 q5, e1, e2⟩
  have s2 : gameroomref_RollsOf_L2 ((u : Int), 78364164096, 2) = some (.next ((u1 : Int), (d1 : Int), 3)) := by
    simp only [gameroomref_RollsOf_L2]
    rw [if_pos (by decide)]
    unfold gameroomref_RollsOf_J4
    have r1' : loop (gameroomref_RollsOf_L3 2) ((u : Int), 78364164096) = some ((u1 : Int), (d1 : Int)) := r1
    rw [r1', Option.bind_some]
    rfl
  have s3 : gameroomref_RollsOf_L2 ((u1 : Int), (d1 : Int), 3) = some (.next ((u2 : Int), (d2 : Int), 4)) := by
    simp only [gameroomref_RollsOf_L2]
    rw [if_pos (by decide)]
    unfold gameroomref_RollsOf_J4
    have q1' : loop (gameroomref_RollsOf_L3 3) ((u1 : Int), (d1 : Int)) = some ((u2 : Int), (d2 : Int)) := q1
    rw [q1', Option.bind_some]
    rfl
  have s4 : gameroomref_RollsOf_L2 ((u2 : Int), (d2 : Int), 4) = some (.done ((u2 : Int), (d2 : Int))) := by
    simp only [gameroomref_RollsOf_L2]
    rw [if_neg (by decide)]
  exact loop_next' s2 (loop_next' s3 (loop_done s4))

/-! The law -/
def padH (men : List Int) : List Int := men ++ List.replicate (6 - men.length) 0
theorem pad_r {men : List Int} : ∀ (m : Nat) (l : List Int), l.length + m = 6 → loop gameroomref_RollsOf_L1 l = some (l ++ List.replicate m 0)
  | 0, l, h => by
    refine loop_done ?_
    simp only [gameroomref_RollsOf_L1]
    rw [if_neg (by rw [decide_eq_true_eq]; omega)]
    simp
  | m + 1, l, h => by
    have ih := pad_r (men := men) m (l ++ [0]) (by rw [List.length_append, List.length_singleton]; omega)
    have e : l ++ List.replicate (m + 1) 0 = (l ++ [0]) ++ List.replicate m 0 := by
      rw [List.replicate_succ, List.append_assoc]; rfl
    rw [e]
    refine loop_next' ?_ ih
    simp only [gameroomref_RollsOf_L1]
    rw [if_pos (by rw [decide_eq_true_eq]; omega)]
    unfold gameroomref_RollsOf_J2
    rw [asrt_pos (by unfold bigN; omega)]

/-- What was told of a list: the sum so far. -/
def presum (l : List Int) : Nat → Int
  | 0 => 0
  | i + 1 => presum l i + geti l (i : Int)
theorem presum_succ (l : List Int) (i : Nat) : presum l (i + 1) = presum l i + geti l (i : Int) := rfl
theorem presum_le {l : List Int} (hp : ∀ i : Nat, i < l.length → 0 ≤ geti l (i : Int)) : ∀ i j : Nat, i ≤ j → j ≤ l.length → presum l i ≤ presum l j
  | i, 0, h, _ => by rw [show i = 0 by omega]; exact Int.le_refl _
  | i, j + 1, h, hj => by
    by_cases e : i = j + 1
    · rw [e]; exact Int.le_refl _
    · have h1 := presum_le hp i j (by omega) (by omega)
      have h2 := hp j (by omega)
      rw [presum_succ]
      omega

theorem neg_p {men : List Int} (hl : men.length ≤ 6) : slices_ContainsFunc_m men = some (men.any (fun x => decide (x < 0))) := by
  unfold slices_ContainsFunc_m slices_IndexFunc_m
  rw [search_loop (l := men) (fun x => decide (x < 0)) (fun i => Fl.ret (i : Int)) (Fl.go ()) ?_ ?_ ?_]
  · simp only [Option.bind_some]
    have hn := fidx_neg (fun x : Int => decide (x < 0)) men
    unfold fidx at hn
    rw [show men.any (fun x => decide (x < 0)) = decide ((0 : Int) ≤ fidx (fun x => decide (x < 0)) men) by
      rw [Bool.eq_iff_iff, decide_eq_true_eq]; exact hn.symm]
    unfold fidx
    cases men.findIdx? (fun x => decide (x < 0)) <;> rfl
  · intro i x hx hp
    have hb := idx_bd hx
    simp only [slices_IndexFunc_L1, slices_IndexFunc_J2]
    rw [if_pos (by simpa using hb.2), asrt_pos hb, geti_some hx]
    simp only [gammon_Rolls_1_m, Option.bind_some]
    rw [if_pos hp]
  · intro i x hx hp
    have hb := idx_bd hx
    simp only [slices_IndexFunc_L1, slices_IndexFunc_J2]
    rw [if_pos (by simpa using hb.2), asrt_pos hb, geti_some hx]
    simp only [gammon_Rolls_1_m, Option.bind_some]
    rw [if_neg (by rw [hp]; simp)]
    simp only [slices_IndexFunc_J3]
    rw [w64_succ (by omega)]
  · simp only [slices_IndexFunc_L1]
    rw [if_neg (by simp)]

theorem neg_r {men : List Int} (hl : men.length ≤ 6) : loop (gameroomref_RollsMay_L1 men) 0 = some (if men.any (fun x => decide (x < 0)) = true then .ret 3 else .go ()) := by
  rw [search_loop (l := men) (fun x => decide (x < 0)) (fun _ => Fl.ret (3 : Int)) (Fl.go ()) ?_ ?_ ?_]
  · congr 1
    have hn := fidx_neg (fun x : Int => decide (x < 0)) men
    unfold fidx at hn
    cases h : men.findIdx? (fun x => decide (x < 0)) with
    | none =>
      rw [h] at hn
      rw [if_neg (fun q => by have := hn.2 q; simp at this)]
    | some i =>
      rw [h] at hn
      rw [if_pos (hn.1 (by simp))]
  · intro i x hx hp
    have hb := idx_bd hx
    simp only [gameroomref_RollsMay_L1, gameroomref_RollsMay_J3]
    rw [if_pos (by simpa using hb.2), asrt_pos hb, geti_some hx, if_pos hp]
  · intro i x hx hp
    have hb := idx_bd hx
    simp only [gameroomref_RollsMay_L1, gameroomref_RollsMay_J3]
    rw [if_pos (by simpa using hb.2), asrt_pos hb, geti_some hx, if_neg (by rw [hp]; simp)]
    simp only [gameroomref_RollsMay_J4]
    rw [w64_succ (by omega)]
  · simp only [gameroomref_RollsMay_L1]
    rw [if_neg (by simp)]

section
variable {men : List Int}

/-- The program's copy. -/
theorem copy_p (hl : men.length ≤ 6) (hp : ∀ i : Nat, i < men.length → 0 ≤ geti men (i : Int)) :
    (presum men men.length ≤ 3 → loop (gammon_Rolls_L1 men) (List.replicate 6 0, 3, 0) = some (.go (padH men))) ∧ (¬ presum men men.length ≤ 3 → loop (gammon_Rolls_L1 men) (List.replicate 6 0, 3, 0) = some (.ret (0, 0, 11))) := by
  have key := count_loop (step := gammon_Rolls_L1 men) (fun (_ : Unit) (i : Nat) => (men.take i ++ List.replicate (6 - i) 0, 3 - presum men i, (i : Int))) (fun n _ => presum men n ≤ 3) (fun r => (presum men men.length ≤ 3 ∧ r = .go (padH men)) ∨ (¬ presum men men.length ≤ 3 ∧ r = .ret (0, 0, 11))) men.length () (by unfold presum; omega) (by
    rintro i _ hi hI
    have hx := get_geti hi
    have h0 := hp i hi
    have hps : 0 ≤ presum men i := by
      have := presum_le hp 0 i (by omega) (by omega)
      exact this
    simp only [gammon_Rolls_L1]
    rw [if_pos (by rw [decide_eq_true_eq]; omega)]
    unfold gammon_Rolls_J4 gammon_Rolls_J6 gammon_Rolls_J5
    rw [asrt_pos (by omega)]
    by_cases q : 3 - presum men i < geti men (i : Int)
    · right
      rw [if_pos (decide_eq_true q)]
      refine ⟨_, rfl, .inr ⟨fun h => ?_, rfl⟩⟩
      have := presum_le hp (i + 1) men.length (by omega) (by omega)
      rw [presum_succ] at this
      omega
    · left
      rw [if_neg (by rw [decide_eq_true_eq]; exact q), asrt_pos (by omega), asrt_pos (by simp; omega), w64_of (by omega), w64_of (by omega), Int.toNat_natCast]
      refine ⟨(), ?_, by rw [presum_succ]; omega⟩
      have e1 : (men.take i ++ List.replicate (6 - i) (0 : Int)).set i (geti men (i : Int)) = men.take (i + 1) ++ List.replicate (6 - (i + 1)) 0 := by
        rw [List.take_add_one, hx, List.set_append, if_neg (by rw [List.length_take]; omega)]
        rw [show i - (men.take i).length = 0 by rw [List.length_take]; omega, show 6 - i = (6 - (i + 1)) + 1 by omega, List.replicate_succ]
        simp
      rw [e1, presum_succ]
      congr 4
      omega) (by
    rintro _ hI
    refine ⟨.go (padH men), ?_, .inl ⟨hI, rfl⟩⟩
    simp only [gammon_Rolls_L1]
    rw [if_neg (by simp), List.take_length]
    rfl)
  obtain ⟨r, hr, h⟩ := key
  have hr' : loop (gammon_Rolls_L1 men) (List.replicate 6 0, 3, 0) = some r := hr
  refine ⟨fun hq => ?_, fun hq => ?_⟩
  · rcases h with ⟨_, rfl⟩ | ⟨h, _⟩
    · exact hr'
    · exact absurd hq h
  · rcases h with ⟨h, _⟩ | ⟨_, rfl⟩
    · exact absurd h hq
    · exact hr'

theorem sum_r (hl : men.length ≤ 6) (hp : ∀ i : Nat, i < men.length → 0 ≤ geti men (i : Int)) :
    gameroomref_RollsMay_J2 men = some (if presum men men.length ≤ 3 then 0 else 11) := by
  unfold gameroomref_RollsMay_J2
  have key := count_loop (step := gameroomref_RollsMay_L2 men) (fun (_ : Unit) (i : Nat) => (presum men i, (i : Int))) (fun n _ => presum men n ≤ 3 * n) (fun r => gameroomref_RollsMay_K2 r = some (if presum men men.length ≤ 3 then 0 else 11)) men.length () (by unfold presum; omega) (by
    rintro i _ hi hI
    have h0 := hp i hi
    have hps : 0 ≤ presum men i := presum_le hp 0 i (by omega) (by omega)
    simp only [gameroomref_RollsMay_L2]
    rw [if_pos (by rw [decide_eq_true_eq]; omega)]
    unfold gameroomref_RollsMay_J6 gameroomref_RollsMay_J8 gameroomref_RollsMay_J7
    rw [asrt_pos (by omega)]
    by_cases q : 3 < geti men (i : Int)
    · right
      rw [if_pos (decide_eq_true q)]
      refine ⟨_, rfl, ?_⟩
      simp only [gameroomref_RollsMay_K2]
      rw [if_neg]
      have := presum_le hp (i + 1) men.length (by omega) (by omega)
      rw [presum_succ] at this
      omega
    · left
      rw [if_neg (by rw [decide_eq_true_eq]; exact q), asrt_pos (by omega), w64_of (by omega), w64_of (by omega)]
      exact ⟨(), rfl, by unfold presum; omega⟩) (by
    rintro _ hI
    refine ⟨.go (presum men men.length), ?_, ?_⟩
    · simp only [gameroomref_RollsMay_L2]
      rw [if_neg (by simp)]
    · simp only [gameroomref_RollsMay_K2]
      unfold gameroomref_RollsMay_J5 gameroomref_RollsMay_J9
      by_cases q : presum men men.length ≤ 3
      · rw [if_neg (by rw [decide_eq_true_eq]; omega), if_pos q]
      · rw [if_pos (by rw [decide_eq_true_eq]; omega), if_neg q])
  obtain ⟨r, hr, h⟩ := key
  have hr' : loop (gameroomref_RollsMay_L2 men) (0, 0) = some r := hr
  rw [hr', Option.bind_some, h]

theorem pad_good (hl : men.length ≤ 6) (hp : ∀ i : Nat, i < men.length → 0 ≤ geti men (i : Int)) (hs : presum men men.length ≤ 3) : GoodH (padH men) := by
  have hlen : (padH men).length = 6 := by unfold padH; rw [List.length_append, List.length_replicate]; omega
  have hg : ∀ i : Nat, i < 6 → geti (padH men) (i : Int) = if i < men.length then geti men (i : Int) else 0 := by
    intro i hi
    unfold padH
    by_cases q : i < men.length
    · rw [if_pos q, geti_some (x := geti men (i : Int))]
      rw [List.getElem?_append_left q, get_geti q]
    · rw [if_neg q, geti_some (x := 0)]
      rw [List.getElem?_append_right (by omega), List.getElem?_replicate, if_pos (by omega)]
  refine ⟨hlen, fun i hi => ?_, ?_⟩
  · rw [hg i hi]
    split
    · exact hp i (by assumption)
    · exact Int.le_refl _
  · have e : ∀ n : Nat, n ≤ 6 → psum (padH men) n = presum men (min n men.length) := by
      intro n
      induction n with
      | zero => intro _; simp [psum, presum]
      | succ n ih =>
        intro hn
        unfold psum
        rw [ih (by omega), hg n (by omega)]
        by_cases q : n < men.length
        · rw [if_pos q, show min n men.length = n by omega, show min (n + 1) men.length = n + 1 by omega]
          rfl
        · rw [if_neg q, show min n men.length = men.length by omega, show min (n + 1) men.length = men.length by omega]
          omega
    rw [← psum6, e 6 (by omega), show min 6 men.length = men.length by omega]
    exact hs

theorem true_GammonRolls (men : List Int) (hl0 : men.length ≤ 17592186043904) (_ : ∀ x ∈ men, inI x) : gameroomlaw_GammonRolls_m men = some true := by
  unfold gameroomlaw_GammonRolls_m
  have hi : gameroomlaw_ints_m men = some men := by
    unfold gameroomlaw_ints_m
    rw [asrt_pos (by unfold bigN; omega)]
    rfl
  rw [hi, Option.bind_some]
  unfold gammon_Rolls_m gameroomref_RollsMay_m
  by_cases h6 : (6 : Int) < (men.length : Int)
  · rw [if_pos (decide_eq_true h6), Option.bind_some, if_pos (decide_eq_true h6), Option.bind_some, if_pos (by decide)]
    rfl
  · have hl : men.length ≤ 6 := by omega
    rw [if_neg (by rw [decide_eq_true_eq]; exact h6), if_neg (by rw [decide_eq_true_eq]; exact h6)]
    unfold gammon_Rolls_J1 gameroomref_RollsMay_J1
    rw [neg_p hl, Option.bind_some, neg_r hl, Option.bind_some]
    by_cases hn : men.any (fun x => decide (x < 0)) = true
    · rw [if_pos hn, if_pos hn, Option.bind_some]
      simp only [gameroomref_RollsMay_K1, Option.bind_some]
      rw [if_pos (by decide)]
      rfl
    · rw [if_neg hn, if_neg hn]
      simp only [gameroomref_RollsMay_K1]
      have hp : ∀ i : Nat, i < men.length → 0 ≤ geti men (i : Int) := by
        intro i hi
        rw [Bool.not_eq_true, List.any_eq_false] at hn
        have := hn (geti men (i : Int)) (List.mem_of_getElem? (get_geti hi))
        rw [decide_eq_true_eq] at this
        omega
      rw [sum_r hl hp]
      unfold gammon_Rolls_J2
      obtain ⟨c1, c2⟩ := copy_p hl hp
      by_cases hs : presum men men.length ≤ 3
      · rw [c1 hs, Option.bind_some, if_pos hs]
        have g := pad_good hl hp hs
        obtain ⟨m', o1⟩ := of_pm g
        obtain ⟨a, b, o2⟩ := of_rm g
        have v0 := meanV_pos (padH men)
        have v1 := meanV_le (padH men)
        obtain ⟨k, u', d', t1, t2, t3, t4, t5⟩ := terms (meanV (padH men)).toNat (by omega)
        rw [show (((meanV (padH men)).toNat : Nat) : Int) = meanV (padH men) by omega] at t1 t2
        have hd : (k : Int) * (d' : Int) = 78364164096 := by rw [← Int.natCast_mul, ← t5]; rfl
        have hu : (k : Int) * (u' : Int) = meanV (padH men) := by rw [← Int.natCast_mul, ← t4]; omega
        have a1 : Int.tdiv (meanV (padH men)) (k : Int) = (u' : Int) := by
          rw [← hu, Int.mul_tdiv_cancel_left _ (by omega)]
        have a2 : Int.tdiv 78364164096 (k : Int) = (d' : Int) := by
          rw [← hd, Int.mul_tdiv_cancel_left _ (by omega)]
        have hdl : d' ≤ 78364164096 := by rw [t5]; exact Nat.le_mul_of_pos_left _ t3
        have hul : u' ≤ (meanV (padH men)).toNat := by rw [t4]; exact Nat.le_mul_of_pos_left _ t3
        simp only [gammon_Rolls_K1]
        unfold gammon_Rolls_J3
        rw [o1, Option.bind_some]
        simp only
        rw [t1, Option.bind_some]
        simp only [gammon_Rolls_K2]
        unfold gammon_Rolls_J7
        rw [asrt_pos (by omega), asrt_pos (by omega)]
        simp only
        rw [a1, a2, w64_of (by omega), w64_of (by omega), Option.bind_some, Option.bind_some, if_neg (by decide)]
        unfold gameroomlaw_GammonRolls_J1 gameroomref_RollsOf_m
        rw [ints_r (by omega), Option.bind_some, pad_r (men := men) (6 - men.length) men (by omega), Option.bind_some]
        simp only [gameroomref_RollsOf_K1]
        unfold gameroomref_RollsOf_J1
        have ep : men ++ List.replicate (6 - men.length) 0 = padH men := rfl
        rw [ep, o2, Option.bind_some]
        simp only
        rw [t2, Option.bind_some]
        simp [gameroomref_RollsOf_K2, gameroomref_RollsOf_J3]
      · rw [c2 hs, Option.bind_some, if_neg hs]
        simp only [gammon_Rolls_K1, Option.bind_some]
        rw [if_pos (by decide)]
        rfl
end
end Go.Proofs.Ytbmhcapeikebgaa
