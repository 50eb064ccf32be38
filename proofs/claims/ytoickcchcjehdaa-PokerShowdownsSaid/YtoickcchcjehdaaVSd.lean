/-
  PokerShowdowns: the document's sums; the law.
-/
import Derived.Test.YtoickcchcjehdaaVSc
import Derived.Test.YtoickcchcjehdaaLibT
namespace Go.Proofs.Ytoickcchcjehdaa
open Go Go.GL

section
variable {a b bd : List Int}

theorem left_r (ha : a.length ≤ 1000) (hb : b.length ≤ 1000) (hbd : bd.length ≤ 1000) : loop (gameroomref_ShowdownOf_L1 a b bd) (([] : List Int), 0) = some (leftFrom (a ++ b ++ bd) 52 0) := by
  refine loop_from (f := fun i => (leftFrom (a ++ b ++ bd) i 0, (i : Int))) 52 (by rfl) (fun i hi => ?_) ?_
  · have hl := leftFrom_len (known := a ++ b ++ bd) i 0
    simp only [gameroomref_ShowdownOf_L1]
    rw [if_pos (decide_eq_true (by omega))]
    unfold gameroomref_ShowdownOf_J2 gameroomref_ShowdownOf_J3
    obtain ⟨v1, e1, h1⟩ := at_r (l := a) (i : Int) (by omega)
    obtain ⟨v2, e2, h2⟩ := at_r (l := b) (i : Int) (by omega)
    obtain ⟨v3, e3, h3⟩ := at_r (l := bd) (i : Int) (by omega)
    have ei : w64 ((i : Int) + 1) = ((i + 1 : Nat) : Int) := by rw [w64_of (by omega)]; rfl
    rw [leftFrom_snoc, Nat.zero_add, e1, Option.bind_some, ei]
    by_cases q1 : (i : Int) ∈ a
    · have d1 : decide (v1 < 0) = false := decide_eq_false (by have := h1.2 q1; omega)
      rw [d1, if_neg (by decide), Option.bind_some, Bool.false_and, if_neg (by decide), Option.bind_some, Bool.false_and, if_neg (by decide), if_pos (by simp [q1]), List.append_nil]
    · have d1 : decide (v1 < 0) = true := decide_eq_true (by
        rcases Int.lt_or_le v1 0 with h | h
        · exact h
        · exact absurd (h1.1 h) q1)
      rw [d1, if_pos rfl, e2, Option.bind_some, Bool.true_and]
      by_cases q2 : (i : Int) ∈ b
      · have d2 : decide (v2 < 0) = false := decide_eq_false (by have := h2.2 q2; omega)
        rw [d2, if_neg (by decide), Option.bind_some, Bool.false_and, if_neg (by decide), if_pos (by simp [q2]), List.append_nil]
      · have d2 : decide (v2 < 0) = true := decide_eq_true (by
          rcases Int.lt_or_le v2 0 with h | h
          · exact h
          · exact absurd (h2.1 h) q2)
        rw [d2, if_pos rfl, e3, Option.bind_some, Bool.true_and]
        by_cases q3 : (i : Int) ∈ bd
        · have d3 : decide (v3 < 0) = false := decide_eq_false (by have := h3.2 q3; omega)
          rw [d3, if_neg (by decide), if_pos (by simp [q3]), List.append_nil]
        · have d3 : decide (v3 < 0) = true := decide_eq_true (by
            rcases Int.lt_or_le v3 0 with h | h
            · exact h
            · exact absurd (h3.1 h) q3)
          rw [d3, if_pos rfl, if_neg (by simp [q1, q2, q3]), asrt_pos (by unfold bigN; omega)]
  · simp only [gameroomref_ShowdownOf_L1]
    rw [if_neg (by simp)]

/-- A sum over rows. -/
def sumR (f : List Int → Int) : List (List Int) → Int
  | [] => 0
  | x :: l => f x + sumR f l
theorem sumR_app (f : List Int → Int) : ∀ x y : List (List Int), sumR f (x ++ y) = sumR f x + sumR f y
  | [], y => by simp [sumR]
  | r :: x, y => by rw [List.cons_append, sumR, sumR, sumR_app f x y]; omega
theorem sumR_bd {f : List Int → Int} (hf : ∀ x, 0 ≤ f x ∧ f x ≤ 1) : ∀ l, 0 ≤ sumR f l ∧ sumR f l ≤ l.length
  | [] => by simp [sumR]
  | x :: l => by
    have := sumR_bd hf l
    have := hf x
    rw [sumR, List.length_cons]
    omega
theorem sumR_map (f : List Int → Int) (g : Int → List Int) : ∀ l : List Int, sumR f (l.map g) = sum1 (fun x => f (g x)) l
  | [] => rfl
  | x :: l => by rw [List.map_cons, sumR, sum1, sumR_map f g l]

/-- All fills told over. -/
theorem tell_r {fills : List (List Int)} (hl : fills.length ≤ 10000) (hbd : bd.length ≤ 1000) (ha : a.length ≤ 1000) (hb : b.length ≤ 1000)
    (hf : ∀ x ∈ fills, x.length ≤ 1000 ∧ gameroomref_BestFive_m (a ++ (bd ++ x)) = some (FF (a ++ (bd ++ x)) 5 [] 0 (-1, [])) ∧ gameroomref_BestFive_m (b ++ (bd ++ x)) = some (FF (b ++ (bd ++ x)) 5 [] 0 (-1, []))) :
    gameroomref_ShowdownOf_J4 a b bd fills = some (sumR (fun x => win a b (bd ++ x)) fills, sumR (fun x => tie a b (bd ++ x)) fills, (fills.length : Int)) := by
  unfold gameroomref_ShowdownOf_J4
  have key : loop (gameroomref_ShowdownOf_L5 a b bd fills) (0, 0, 0) = some (sumR (fun x => win a b (bd ++ x)) fills, sumR (fun x => tie a b (bd ++ x)) fills) := by
    refine loop_from (f := fun i => (sumR (fun x => win a b (bd ++ x)) (fills.take i), sumR (fun x => tie a b (bd ++ x)) (fills.take i), (i : Int))) fills.length (by rfl) (fun i hi => ?_) ?_
    · have hb1 := sumR_bd (f := fun x => win a b (bd ++ x)) (fun x => win_bd a b _) (fills.take i)
      have hb2 := sumR_bd (f := fun x => tie a b (bd ++ x)) (fun x => tie_bd a b _) (fills.take i)
      rw [List.length_take] at hb1 hb2
      have ht : fills.take (i + 1) = fills.take i ++ [fills[i]] := List.take_succ_eq_append_getElem hi
      have hg : geti2 fills (i : Int) = fills[i] := by rw [geti2_nat, List.getD_eq_getElem?_getD, List.getElem?_eq_getElem hi]; rfl
      obtain ⟨f0, f1, f2⟩ := hf fills[i] (List.getElem_mem hi)
      simp only [gameroomref_ShowdownOf_L5]
      rw [if_pos (decide_eq_true (by omega))]
      unfold gameroomref_ShowdownOf_J12 gameroomref_Ints_m
      rw [asrt_pos (by omega), asrt_pos (by unfold bigN; omega), Option.bind_some, List.nil_append, hg, asrt_pos (by unfold bigN; omega)]
      unfold gameroomref_ShowdownOf_J14 gameroomref_Ints_m
      rw [asrt_pos (by unfold bigN; omega), Option.bind_some, List.nil_append, asrt_pos (by unfold bigN; rw [List.length_append]; omega), f1, Option.bind_some, asrt_pos (by unfold bigN; omega), Option.bind_some, List.nil_append, asrt_pos (by unfold bigN; rw [List.length_append]; omega), f2, Option.bind_some]
      have ew : ∀ x, (FF x 5 [] 0 (-1, [])).1 = best5 x := fun _ => rfl
      rw [ew, ew, ht, sumR_app, sumR_app]
      simp only [sumR, Int.add_zero]
      unfold gameroomref_ShowdownOf_J15 gameroomref_ShowdownOf_J13
      have ei : w64 ((i : Int) + 1) = ((i + 1 : Nat) : Int) := by rw [w64_of (by omega)]; rfl
      rw [ei]
      unfold win tie at *
      rw [ew, ew]
      by_cases hw : best5 (b ++ (bd ++ fills[i])) < best5 (a ++ (bd ++ fills[i]))
      · rw [if_pos (decide_eq_true hw), if_pos hw, if_neg (by rw [beq_iff_eq]; omega), if_neg (by omega), Int.add_zero, w64_of (by omega)]
      · rw [if_neg (by simpa using hw), if_neg hw, Int.add_zero]
        by_cases he : best5 (a ++ (bd ++ fills[i])) = best5 (b ++ (bd ++ fills[i]))
        · rw [if_pos (by simpa using he), if_pos he, w64_of (by omega)]
        · rw [if_neg (by simpa using he), if_neg he, Int.add_zero]
    · simp only [gameroomref_ShowdownOf_L5]
      rw [if_neg (by simp), List.take_length]
  rw [key]; rfl

theorem ones_r {l : List Int} (hl : l.length ≤ 1000) : loop (gameroomref_ShowdownOf_L2 l) (([] : List (List Int)), 0) = some (l.map fun x => [x]) := by
  refine loop_from (f := fun i => ((l.take i).map fun x => [x], (i : Int))) l.length (by rfl) (fun i hi => ?_) ?_
  · have hg := get_geti hi
    simp only [gameroomref_ShowdownOf_L2]
    rw [if_pos (decide_eq_true (by omega))]
    unfold gameroomref_ShowdownOf_J5 gameroomref_ShowdownOf_J6
    rw [asrt_pos (by omega), asrt_pos (by unfold bigR; simp; omega), w64_of (by omega), List.take_add_one, hg]
    simp
  · simp only [gameroomref_ShowdownOf_L2]
    rw [if_neg (by simp), List.take_length]

/-- Each with each before it. -/
def pairs (l : List Int) (n : Nat) : List (List Int) := (List.range n).flatMap fun j => (l.take j).map fun x => [geti l (j : Int), x]
theorem pairs_succ (l : List Int) (n : Nat) : pairs l (n + 1) = pairs l n ++ (l.take n).map fun x => [geti l (n : Int), x] := by
  unfold pairs
  rw [List.range_succ, List.flatMap_append]
  simp
theorem pairs_len (l : List Int) (hl : l.length ≤ 52) : ∀ n, n ≤ 52 → (pairs l n).length ≤ n * 52
  | 0, _ => by simp [pairs]
  | n + 1, h => by
    have := pairs_len l hl n (by omega)
    rw [pairs_succ, List.length_append, List.length_map, List.length_take]
    omega

theorem twos_r {l : List Int} (hl : l.length ≤ 52) : loop (gameroomref_ShowdownOf_L3 l) (([] : List (List Int)), 0) = some (pairs l l.length) := by
  refine loop_from (f := fun i => (pairs l i, (i : Int))) l.length (by rfl) (fun i hi => ?_) ?_
  · have hg := get_geti hi
    have hp := pairs_len l hl i (by omega)
    simp only [gameroomref_ShowdownOf_L3]
    rw [if_pos (decide_eq_true (by omega))]
    unfold gameroomref_ShowdownOf_J7
    have key : loop (gameroomref_ShowdownOf_L4 l (i : Int)) (pairs l i, 0) = some (pairs l i ++ (l.take i).map fun x => [geti l (i : Int), x]) := by
      refine loop_from (f := fun k => (pairs l i ++ (l.take k).map fun x => [geti l (i : Int), x], (k : Int))) i (by simp) (fun k hk => ?_) ?_
      · have hgk := get_geti (l := l) (i := k) (by omega)
        simp only [gameroomref_ShowdownOf_L4]
        rw [if_pos (decide_eq_true (by omega))]
        unfold gameroomref_ShowdownOf_J9 gameroomref_ShowdownOf_J10
        rw [asrt_pos (by omega), asrt_pos (by omega), asrt_pos (by unfold bigR; rw [List.length_append, List.length_map, List.length_take]; omega), w64_of (by omega), List.take_add_one, hgk]
        simp
      · simp only [gameroomref_ShowdownOf_L4]
        rw [if_neg (by simp)]
    rw [key, Option.bind_some]
    simp only [gameroomref_ShowdownOf_K4]
    unfold gameroomref_ShowdownOf_J8
    rw [w64_of (by omega), pairs_succ]
    rfl
  · simp only [gameroomref_ShowdownOf_L3]
    rw [if_neg (by simp)]

theorem sum_pairs {f : List Int → Int} {g : Int → Int → Int} {l : List Int} (h : ∀ (i j : Nat), j < i → i < l.length → f [geti l (i : Int), geti l (j : Int)] = g (geti l (j : Int)) (geti l (i : Int))) : ∀ n, n ≤ l.length → sumR f (pairs l n) = sum2 g (l.take n)
  | 0, _ => rfl
  | n + 1, hn => by
    have hg := get_geti (l := l) (i := n) (by omega)
    rw [pairs_succ, sumR_app, sum_pairs h n (by omega), sumR_map, List.take_add_one, hg]
    show _ = sum2 g (l.take n ++ [geti l (n : Int)])
    rw [sum2_snoc]
    congr 1
    refine sum1_congr fun x hx => ?_
    obtain ⟨j, hj, rfl⟩ := List.mem_iff_getElem.1 hx
    rw [List.length_take] at hj
    have e : (l.take n)[j] = geti l (j : Int) := by
      have := get_geti (l := l) (i := j) (by omega)
      rw [List.getElem_take]
      have h2 := List.getElem?_eq_getElem (l := l) (i := j) (by omega)
      rw [this] at h2
      injection h2 with h2
      exact h2.symm
    rw [e]
    exact h n j (by omega) (by omega)

theorem Fit.of (ha : a.length = 2) (hb : b.length = 2) (hn : (a ++ b ++ bd).Nodup) (hr : ∀ x ∈ a ++ b ++ bd, 0 ≤ x ∧ x ≤ 51) : Fit a b (a ++ b ++ bd) bd 0 where
  la := ha
  lb := hb
  na := by
    rw [List.append_assoc] at hn
    exact hn.sublist (List.Sublist.append_left (List.sublist_append_right _ _) _)
  nb := by
    rw [List.append_assoc] at hn
    exact (List.nodup_append.1 hn).2.1
  ra := fun x hx => hr x (by simp [hx])
  rb := fun x hx => hr x (by simp [hx])
  rt := fun x hx => hr x (by simp [hx])
  ka := fun x hx => by simp [hx]
  kb := fun x hx => by simp [hx]
  kt := fun x hx => .inl (by simp [hx])

theorem left_fit (hF : Fit a b (a ++ b ++ bd) bd 0) {x : Int} (hx : x ∈ leftFrom (a ++ b ++ bd) 52 0) : ∃ j : Nat, x = (j : Int) ∧ j < 52 ∧ Fit a b (a ++ b ++ bd) (bd ++ [x]) (j + 1) := by
  obtain ⟨h0, h1, h2⟩ := leftFrom_mem hx
  obtain ⟨j, rfl⟩ := Int.eq_ofNat_of_zero_le (show 0 ≤ x by omega)
  exact ⟨j, rfl, by omega, hF.step (by omega) (by omega) h2⟩

theorem swap_best (hF : Fit a b (a ++ b ++ bd) bd 0) {x y : Int} (hx : x ∈ leftFrom (a ++ b ++ bd) 52 0) (hy : y ∈ leftFrom (a ++ b ++ bd) 52 0) (hxy : x < y) (i : Nat) (hi : (i : Int) = y + 1) :
    Fit a b (a ++ b ++ bd) (bd ++ [x] ++ [y]) i ∧ Fit a b (a ++ b ++ bd) (bd ++ [y, x]) i := by
  obtain ⟨j, rfl, hj, h1⟩ := left_fit hF hx
  obtain ⟨h0, h2, h3⟩ := leftFrom_mem hy
  obtain ⟨k, rfl⟩ := Int.eq_ofNat_of_zero_le (show 0 ≤ y by omega)
  have hf := h1.step (j := k) (by omega) (by omega) h3
  have e : i = k + 1 := by omega
  subst e
  refine ⟨hf, ?_⟩
  have hp : (bd ++ [(k : Int), (j : Int)]).Perm (bd ++ [(j : Int)] ++ [(k : Int)]) := by
    rw [List.append_assoc]
    exact List.Perm.append_left _ (List.Perm.swap _ _ _)
  exact { la := hf.la, lb := hf.lb, na := ((hp.append_left a).nodup_iff).2 hf.na, nb := ((hp.append_left b).nodup_iff).2 hf.nb, ra := hf.ra, rb := hf.rb, rt := fun x hx => hf.rt x (hp.mem_iff.1 hx), ka := hf.ka, kb := hf.kb, kt := fun x hx => hf.kt x (hp.mem_iff.1 hx) }

theorem outs_swap (hF : Fit a b (a ++ b ++ bd) bd 0) {x y : Int} (hx : x ∈ leftFrom (a ++ b ++ bd) 52 0) (hy : y ∈ leftFrom (a ++ b ++ bd) 52 0) (hxy : x < y) :
    win a b (bd ++ [y, x]) = win a b (bd ++ [x] ++ [y]) ∧ tie a b (bd ++ [y, x]) = tie a b (bd ++ [x] ++ [y]) := by
  have hy0 := leftFrom_mem hy
  obtain ⟨h1, h2⟩ := swap_best hF hx hy hxy (y + 1).toNat (by omega)
  have hp : (bd ++ [y, x]).Perm (bd ++ [x] ++ [y]) := by
    rw [List.append_assoc]
    exact List.Perm.append_left _ (List.Perm.swap _ _ _)
  have e1 := best5_perm h2.range.1 h2.na (hp.append_left a)
  have e2 := best5_perm h2.range.2 h2.nb (hp.append_left b)
  unfold win tie
  rw [e1, e2]
  exact ⟨rfl, rfl⟩

theorem one_len (l : List Int) : sum1 (fun _ => 1) l = (l.length : Int) := by
  induction l with
  | nil => rfl
  | cons x l ih => rw [sum1, ih, List.length_cons]; omega

theorem sum2_bd {f : Int → Int → Int} (hf : ∀ x y, 0 ≤ f x y ∧ f x y ≤ 1) : ∀ l : List Int, l.length ≤ 52 → 0 ≤ sum2 f l ∧ sum2 f l ≤ 52 * (l.length : Int)
  | [], _ => by simp [sum2]
  | x :: l, h => by
    rw [List.length_cons] at h
    have := sum2_bd hf l (by omega)
    have := sum1_bd (f := f x) (hf x) l
    rw [sum2, List.length_cons]
    omega

/-- Both sides' three numbers. -/
theorem show_eq (ha : a.length = 2) (hb : b.length = 2) (h3 : 3 ≤ bd.length) (h5 : bd.length ≤ 5) (hn : (a ++ b ++ bd).Nodup) (hr : ∀ x ∈ a ++ b ++ bd, 0 ≤ x ∧ x ≤ 51) :
    ∃ n w t, poker_Showdown_1_m 0 bd a b 0 0 0 (a ++ b ++ bd) = some (n, w, t) ∧ gameroomref_ShowdownOf_m a b bd = some (w, t, n) := by
  have hF := Fit.of ha hb hn hr
  have hll := leftFrom_len (known := a ++ b ++ bd) 52 0
  have hkl : (a ++ b ++ bd).length ≤ 1000 := by simp; omega
  have hprog : ∀ k, bd.length + k = 5 → Zs (a ++ b ++ bd) (fun _ => 1) k bd (leftFrom (a ++ b ++ bd) 52 0) ≤ 1000000 → Zs (a ++ b ++ bd) (win a b) k bd (leftFrom (a ++ b ++ bd) 52 0) ≤ 1000000 → Zs (a ++ b ++ bd) (tie a b) k bd (leftFrom (a ++ b ++ bd) 52 0) ≤ 1000000 →
      poker_Showdown_1_m 0 bd a b 0 0 0 (a ++ b ++ bd) = some (Zs (a ++ b ++ bd) (fun _ => 1) k bd (leftFrom (a ++ b ++ bd) 52 0), Zs (a ++ b ++ bd) (win a b) k bd (leftFrom (a ++ b ++ bd) 52 0), Zs (a ++ b ++ bd) (tie a b) k bd (leftFrom (a ++ b ++ bd) 52 0)) := by
    intro k hk b0 b1 b2
    have := fill_p (a := a) (b := b) hkl k bd 0 0 0 0 hk (by omega) hF (by omega) (by omega) (by omega) (by simpa using b0) (by simpa using b1) (by simpa using b2)
    have h2 := poker_Showdown_1_m_of _ _ _ _ _ _ _ _ _ this
    simpa using h2
  have hdoc : gameroomref_ShowdownOf_m a b bd = gameroomref_ShowdownOf_J1 a b bd (leftFrom (a ++ b ++ bd) 52 0) := by
    unfold gameroomref_ShowdownOf_m
    rw [left_r (by omega) (by omega) (by omega), Option.bind_some]
    rfl
  rw [hdoc]
  unfold gameroomref_ShowdownOf_J1
  have hc : bd.length = 5 ∨ bd.length = 4 ∨ bd.length = 3 := by omega
  rcases hc with hc | hc | hc
  · have hp := hprog 0 (by omega) (by rw [Zs]; omega) (by rw [Zs]; have := win_bd a b bd; omega) (by rw [Zs]; have := tie_bd a b bd; omega)
    rw [Zs, Zs, Zs] at hp
    refine ⟨_, _, _, hp, ?_⟩
    rw [if_pos (by rw [beq_iff_eq]; omega), asrt_pos (by unfold bigR; omega), List.nil_append, tell_r (by simp) (by omega) (by omega) (by omega) (fun x hx => ?_)]
    · simp [sumR]
    · simp at hx
      subst hx
      have := hF.besta (by omega)
      rw [List.append_nil]
      exact ⟨by simp, this.2.2.1, this.2.2.2⟩
  · have s1 := sum1_bd (f := fun _ => 1) (fun _ => by omega) (leftFrom (a ++ b ++ bd) 52 0)
    have s2 := sum1_bd (f := fun x => win a b (bd ++ [x])) (fun x => win_bd a b _) (leftFrom (a ++ b ++ bd) 52 0)
    have s3 := sum1_bd (f := fun x => tie a b (bd ++ [x])) (fun x => tie_bd a b _) (leftFrom (a ++ b ++ bd) 52 0)
    have hp := hprog 1 (by omega) (by rw [Zs_one]; omega) (by rw [Zs_one]; omega) (by rw [Zs_one]; omega)
    rw [Zs_one, Zs_one, Zs_one] at hp
    refine ⟨_, _, _, hp, ?_⟩
    rw [if_neg (by rw [beq_iff_eq]; omega), if_pos (by rw [beq_iff_eq]; omega), ones_r (by omega), Option.bind_some]
    simp only [gameroomref_ShowdownOf_K2]
    rw [tell_r (by rw [List.length_map]; omega) (by omega) (by omega) (by omega) (fun x hx => ?_)]
    · rw [sumR_map, sumR_map, List.length_map, one_len]
    · rw [List.mem_map] at hx
      obtain ⟨y, hy, rfl⟩ := hx
      obtain ⟨j, _, _, hf⟩ := left_fit hF hy
      have := hf.besta (by simp; omega)
      exact ⟨by simp, this.2.2.1, this.2.2.2⟩
  · have hlt := leftFrom_lt (known := a ++ b ++ bd) 52 0
    have hget : ∀ (i j : Nat), j < i → i < (leftFrom (a ++ b ++ bd) 52 0).length → geti (leftFrom (a ++ b ++ bd) 52 0) (j : Int) ∈ leftFrom (a ++ b ++ bd) 52 0 ∧ geti (leftFrom (a ++ b ++ bd) 52 0) (i : Int) ∈ leftFrom (a ++ b ++ bd) 52 0 ∧ geti (leftFrom (a ++ b ++ bd) 52 0) (j : Int) < geti (leftFrom (a ++ b ++ bd) 52 0) (i : Int) := by
      intro i j hji hi
      have g1 := get_geti (l := leftFrom (a ++ b ++ bd) 52 0) (i := j) (by omega)
      have g2 := get_geti (l := leftFrom (a ++ b ++ bd) 52 0) (i := i) hi
      refine ⟨List.mem_of_getElem? g1, List.mem_of_getElem? g2, ?_⟩
      rw [List.pairwise_iff_getElem] at hlt
      have := hlt j i (by omega) hi hji
      rw [List.getElem?_eq_getElem (by omega)] at g1 g2
      injection g1 with g1
      injection g2 with g2
      rw [g1, g2] at this
      exact this
    have s1 := sum2_bd (f := fun _ _ => 1) (fun _ _ => by omega) (leftFrom (a ++ b ++ bd) 52 0) hll
    have s2 := sum2_bd (f := fun x y => win a b (bd ++ [x] ++ [y])) (fun x y => win_bd a b _) (leftFrom (a ++ b ++ bd) 52 0) hll
    have s3 := sum2_bd (f := fun x y => tie a b (bd ++ [x] ++ [y])) (fun x y => tie_bd a b _) (leftFrom (a ++ b ++ bd) 52 0) hll
    have hp := hprog 2 (by omega) (by rw [Zs_two]; omega) (by rw [Zs_two]; omega) (by rw [Zs_two]; omega)
    rw [Zs_two, Zs_two, Zs_two] at hp
    refine ⟨_, _, _, hp, ?_⟩
    have hpl := pairs_len (leftFrom (a ++ b ++ bd) 52 0) hll (leftFrom (a ++ b ++ bd) 52 0).length hll
    rw [if_neg (by rw [beq_iff_eq]; omega), if_neg (by rw [beq_iff_eq]; omega), if_pos (by rw [beq_iff_eq]; omega), twos_r hll, Option.bind_some]
    simp only [gameroomref_ShowdownOf_K3]
    rw [tell_r (by omega) (by omega) (by omega) (by omega) (fun x hx => ?_)]
    · have e1 := sum_pairs (f := fun x => win a b (bd ++ x)) (g := fun x y => win a b (bd ++ [x] ++ [y])) (l := leftFrom (a ++ b ++ bd) 52 0) (fun i j hji hi => by
        obtain ⟨h1, h2, h3⟩ := hget i j hji hi
        exact (outs_swap hF h1 h2 h3).1) _ (Nat.le_refl _)
      have e2 := sum_pairs (f := fun x => tie a b (bd ++ x)) (g := fun x y => tie a b (bd ++ [x] ++ [y])) (l := leftFrom (a ++ b ++ bd) 52 0) (fun i j hji hi => by
        obtain ⟨h1, h2, h3⟩ := hget i j hji hi
        exact (outs_swap hF h1 h2 h3).2) _ (Nat.le_refl _)
      have e3 := sum_pairs (f := fun _ => 1) (g := fun _ _ => 1) (l := leftFrom (a ++ b ++ bd) 52 0) (fun i j hji hi => rfl) _ (Nat.le_refl _)
      have e4 : ∀ l : List (List Int), sumR (fun _ => 1) l = (l.length : Int) := fun l => by
        induction l with
        | nil => rfl
        | cons x l ih => rw [sumR, ih, List.length_cons]; omega
      rw [List.take_length] at e1 e2 e3
      rw [e1, e2, ← e4, e3]
    · unfold pairs at hx
      rw [List.mem_flatMap] at hx
      obtain ⟨i, hi, hx⟩ := hx
      rw [List.mem_range] at hi
      rw [List.mem_map] at hx
      obtain ⟨y, hy, rfl⟩ := hx
      obtain ⟨j, hj, rfl⟩ := List.mem_iff_getElem.1 hy
      rw [List.length_take] at hj
      have e : ((leftFrom (a ++ b ++ bd) 52 0).take i)[j] = geti (leftFrom (a ++ b ++ bd) 52 0) (j : Int) := by
        have := get_geti (l := leftFrom (a ++ b ++ bd) 52 0) (i := j) (by omega)
        rw [List.getElem_take]
        have h2 := List.getElem?_eq_getElem (l := leftFrom (a ++ b ++ bd) 52 0) (i := j) (by omega)
        rw [this] at h2
        injection h2 with h2
        exact h2.symm
      rw [e]
      obtain ⟨h1, h2, h3⟩ := hget i j (by omega) hi
      have hb2 := leftFrom_mem h2
      have := (swap_best hF h1 h2 h3 (geti (leftFrom (a ++ b ++ bd) 52 0) (i : Int) + 1).toNat (by omega)).2.besta (by simp; omega)
      exact ⟨by simp, this.2.2.1, this.2.2.2⟩
end

theorem true_PokerShowdowns (a b bd : List Int) (ha : a.length ≤ 17592186043904) (_ia : ∀ y ∈ a, inI y) (hb : b.length ≤ 17592186043904) (_ib : ∀ y ∈ b, inI y) (hd : bd.length ≤ 17592186043904) (_id : ∀ y ∈ bd, inI y) : gameroomlaw_PokerShowdowns_m a b bd = some true := by
  have hints : ∀ l : List Int, l.length ≤ 17592186043904 → gameroomlaw_ints_m l = some l := fun l h => by
    unfold gameroomlaw_ints_m
    rw [asrt_pos (by unfold bigN; omega), List.nil_append]
  unfold gameroomlaw_PokerShowdowns_m
  rw [hints a ha, Option.bind_some, hints b hb, Option.bind_some, hints bd hd, Option.bind_some]
  unfold poker_Showdown_m
  by_cases hc : a.length = 2 ∧ b.length = 2 ∧ 3 ≤ bd.length ∧ bd.length ≤ 5
  · obtain ⟨la, lb, l3, l5⟩ := hc
    have c1 : ((((((a.length : Int) != 2) || ((b.length : Int) != 2)) || (decide ((bd.length : Int) < 3))) || (decide ((5 : Int) < (bd.length : Int)))) : Bool) = false := by
      simp [la, lb]; omega
    have c2 : ((((((a.length : Int) == 2) && ((b.length : Int) == 2)) && (decide ((3 : Int) ≤ (bd.length : Int)))) && (decide ((bd.length : Int) ≤ 5))) : Bool) = true := by
      simp [la, lb]; omega
    rw [c1, if_neg (by decide), c2]
    unfold poker_Showdown_J1
    have ef : ([a, b, bd] : List (List Int)).flatten = a ++ b ++ bd := by simp
    have hl : (a ++ b ++ bd).length ≤ 17592186043904 := by simp; omega
    rw [concat_ok _ (by simp) (by simp [tot]; omega), Option.bind_some, ef, check_p hl, Option.bind_some]
    by_cases hw : wrong (a ++ b ++ bd) = 0
    · obtain ⟨h1, h2⟩ := wrong_0 hw
      obtain ⟨n, w, t, e1, e2⟩ := show_eq la lb l3 l5 h2 h1
      rw [if_neg (by rw [hw]; decide)]
      unfold poker_Showdown_J2 poker_Showdown_J3
      rw [e1, Option.bind_some, Option.bind_some, if_pos rfl, Option.bind_some, asrt_pos (by unfold bigN; omega), asrt_pos (by unfold bigN; rw [List.length_append]; omega), cards_r hl, Option.bind_some]
      unfold gameroomlaw_PokerShowdowns_J1
      rw [if_neg (by rw [hw]; decide)]
      unfold gameroomlaw_PokerShowdowns_J2
      rw [e2]
      simp
    · rw [if_pos (bne_iff_ne.2 hw), Option.bind_some, if_pos rfl, Option.bind_some, asrt_pos (by unfold bigN; omega), asrt_pos (by unfold bigN; rw [List.length_append]; omega), cards_r hl, Option.bind_some]
      unfold gameroomlaw_PokerShowdowns_J1
      rw [if_pos (bne_iff_ne.2 hw)]
      simp
  · have c1 : ((((((a.length : Int) != 2) || ((b.length : Int) != 2)) || (decide ((bd.length : Int) < 3))) || (decide ((5 : Int) < (bd.length : Int)))) : Bool) = true := by
      simp; omega
    have c2 : ((((((a.length : Int) == 2) && ((b.length : Int) == 2)) && (decide ((3 : Int) ≤ (bd.length : Int)))) && (decide ((bd.length : Int) ≤ 5))) : Bool) = false := by
      rw [Bool.eq_false_iff]; simp; omega
    rw [c1, if_pos rfl, Option.bind_some, c2, if_neg (by decide)]
    rfl
end Go.Proofs.Ytoickcchcjehdaa
