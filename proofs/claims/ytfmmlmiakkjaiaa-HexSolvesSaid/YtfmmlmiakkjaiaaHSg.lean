/-
  Hex: the law on hex.Solve and hex.Shortest.
-/
import Derived.Test.YtfmmlmiakkjaiaaHSf
namespace Go.Proofs.Ytfmmlmiakkjaiaa
open Go Go.GL

section
variable {W H : Int} {c : List Int} {who : Int}

theorem hexMay_r (hs : c.length ≤ 17592186044416) : gameroomref_HexMay_m W H c = some (okG W H c && (W == H)) := by
  unfold gameroomref_HexMay_m
  rw [gridMay_eq W H hs]
  rfl
theorem check_p (hs : c.length ≤ 17592186044416) : hex_check_m W H c = some (if (okG W H c && (W == H)) = true then 0 else 12) := by
  unfold hex_check_m hex_check_J1
  rw [may_p W H hs, Option.bind_some]
  cases okG W H c <;> by_cases h : W = H <;> simp [h]
theorem player_p (hs : c.length ≤ 17592186044416) : hex_player_m W H c who = some (if (okG W H c && (W == H)) = true then (if who = 1 ∨ who = 2 then 0 else 4) else 12) := by
  unfold hex_player_m hex_player_J1
  rw [check_p hs, Option.bind_some]
  by_cases h : (okG W H c && (W == H)) = true
  · rw [if_pos h, if_pos h]
    by_cases h1 : who = 1
    · simp [h1]
    · by_cases h2 : who = 2
      · simp [h2]
      · simp [h1, h2]
  · rw [if_neg h, if_neg h]
    simp
theorem clone_p (hs : c.length ≤ 17592186044416) : slices_Clone_m c = some c := by
  unfold slices_Clone_m slices_Clone_J1
  simp [asrt, bigN]
  try omega

theorem open_p (hc : c.length ≤ 300) : loop (hex_Solve_L1 c) (0, 0) = some (c.count 0 : Int) := by
  have key := fold_loop (step := hex_Solve_L1 c) (fun (s : Int) (i : Nat) => (s, (i : Int))) (fun (s x : Int) => if x = 0 then s + 1 else s) (fun n s => 0 ≤ s ∧ s ≤ n) (fun s => s) c 0 ⟨Int.le_refl _, by omega⟩ (by
    intro i x s hx hI
    have hb := idx_bd hx
    simp only [hex_Solve_L1]
    rw [if_pos (by simpa using hb.2)]
    unfold hex_Solve_J3 hex_Solve_J4
    rw [asrt_pos hb, geti_some hx, w64_of (x := (i : Int) + 1) (by omega), w64_of (x := s + 1) (by omega)]
    by_cases q : x = 0
    · rw [if_pos (by rw [beq_iff_eq]; exact q), if_pos q]
      exact ⟨rfl, by omega⟩
    · rw [if_neg (by rw [beq_iff_eq]; exact q), if_neg q]
      exact ⟨rfl, by omega⟩) (by
    intro s _
    simp only [hex_Solve_L1]
    rw [if_neg (by simp)])
  have h1 : loop (hex_Solve_L1 c) (0, 0) = _ := key.1
  rw [h1]
  congr 1
  have : ∀ (l : List Int) (s : Int), l.foldl (fun (s x : Int) => if x = 0 then s + 1 else s) s = s + (l.count 0 : Int) := by
    intro l
    induction l with
    | nil => intro s; simp
    | cons x l ih =>
      intro s
      rw [List.foldl_cons, ih, List.count_cons]
      by_cases q : x = 0
      · simp [q]; omega
      · simp [q]
  rw [this]
  omega
theorem open_r (hc : c.length ≤ 300) : gameroomref_OpenPlaces_m W H c = some (c.count 0 : Int) := by
  have key := fold_loop (step := gameroomref_OpenPlaces_L1 c) (fun (s : Int) (i : Nat) => (s, (i : Int))) (fun (s x : Int) => if x = 0 then s + 1 else s) (fun n s => 0 ≤ s ∧ s ≤ n) (fun s => s) c 0 ⟨Int.le_refl _, by omega⟩ (by
    intro i x s hx hI
    have hb := idx_bd hx
    simp only [gameroomref_OpenPlaces_L1]
    rw [if_pos (by simpa using hb.2)]
    unfold gameroomref_OpenPlaces_J2 gameroomref_OpenPlaces_J3
    rw [asrt_pos hb, geti_some hx, w64_of (x := (i : Int) + 1) (by omega), w64_of (x := s + 1) (by omega)]
    by_cases q : x = 0
    · rw [if_pos (by rw [beq_iff_eq]; exact q), if_pos q]
      exact ⟨rfl, by omega⟩
    · rw [if_neg (by rw [beq_iff_eq]; exact q), if_neg q]
      exact ⟨rfl, by omega⟩) (by
    intro s _
    simp only [gameroomref_OpenPlaces_L1]
    rw [if_neg (by simp)])
  have h1 : loop (gameroomref_OpenPlaces_L1 c) (0, 0) = _ := key.1
  unfold gameroomref_OpenPlaces_m
  rw [h1, Option.bind_some]
  simp only [gameroomref_OpenPlaces_K1, gameroomref_OpenPlaces_J1]
  congr 1
  have : ∀ (l : List Int) (s : Int), l.foldl (fun (s x : Int) => if x = 0 then s + 1 else s) s = s + (l.count 0 : Int) := by
    intro l
    induction l with
    | nil => intro s; simp
    | cons x l ih =>
      intro s
      rw [List.foldl_cons, ih, List.count_cons]
      by_cases q : x = 0
      · simp [q]; omega
      · simp [q]
  rw [this]
  omega

theorem true_HexSolves (W H : Int) (c : List Int) (who : Int) (_ : inI W) (_ : inI H) (hl0 : c.length ≤ 17592186043904) (_ : ∀ x ∈ c, inI x) (_ : inI who) : gameroomlaw_HexSolves_m W H c who = some true := by
  have hl : c.length ≤ 17592186044416 := by omega
  unfold gameroomlaw_HexSolves_m
  rw [gridOf_r H hl]
  simp only [Option.bind_some]
  unfold hex_Solve_m
  rw [player_p hl, Option.bind_some]
  by_cases hG : (okG W H c && (W == H)) = true
  · rw [if_pos hG]
    have hWH : W = H := by rw [Bool.and_eq_true, beq_iff_eq] at hG; exact hG.2
    subst hWH
    have hok : okG W W c = true := by rw [Bool.and_eq_true] at hG; exact hG.1
    have B := okG_dm hok
    have hsm := B.small
    have h100 : c.length ≤ 100 := by
      have h1 := B.len
      have h2 : W * W ≤ 10 * 10 := Int.mul_le_mul (by have := B.w; omega) (by have := B.w; omega) (by have := B.w; omega) (by omega)
      omega
    have hc : In2 c := fun i hi => okG_in hok i hi
    by_cases hw : who = 1 ∨ who = 2
    · rw [if_pos hw, if_neg (by decide)]
      unfold hex_Shortest_m
      rw [player_p hl, if_pos hG, if_pos hw]
      unfold hex_Solve_J1
      rw [open_p hsm, Option.bind_some]
      simp only [hex_Solve_K1]
      obtain ⟨k, s1, s2⟩ := shortest_p B hw hc h100
      obtain ⟨k', t1, t2⟩ := shortest_r B W hw hc
      obtain rfl := s2.uniq t2
      obtain ⟨y, j1, j2⟩ := joinedH B
      have solve : ∃ n x, (c.count 0 ≤ 9 → hex_Solve_J2 W W c who (c.count 0 : Int) = some (n, x, 0) ∧ gameroomref_HexSolve_m W W c who = some (n, x)) ∧ (¬ c.count 0 ≤ 9 → hex_Solve_J2 W W c who (c.count 0 : Int) = some (0, [], 2)) ∧ x.length ≤ c.length := by
        unfold hex_Solve_J2
        by_cases h9 : c.count 0 ≤ 9
        · rw [if_neg (by rw [decide_eq_true_eq]; omega)]
          unfold hex_Solve_J5 hex_Solve_J6
          rw [clone_p hl, Option.bind_some, j1, Option.bind_some]
          simp only
          by_cases hj : 0 < JH W c
          · rw [if_pos (decide_eq_true hj)]
            refine ⟨JH W c, [], fun _ => ⟨rfl, ?_⟩, fun h => absurd h9 h, by simp⟩
            unfold gameroomref_HexSolve_m
            rw [j2, Option.bind_some]
            simp only
            rw [if_pos (decide_eq_true hj)]
          · rw [if_neg (by rw [decide_eq_true_eq]; exact hj), solve_p B hc hw, solve_r B hw hj]
            by_cases h : 0 < (lstS W c who c.length).length
            · rw [if_pos h, if_pos h]
              exact ⟨_, _, fun _ => ⟨rfl, rfl⟩, fun h => absurd h9 h, lstS_len _⟩
            · rw [if_neg h, if_neg h]
              exact ⟨_, _, fun _ => ⟨rfl, rfl⟩, fun h => absurd h9 h, by simp⟩
        · rw [if_pos (by rw [decide_eq_true_eq]; omega)]
          exact ⟨0, [], fun h => absurd h h9, fun _ => rfl, by simp⟩
      obtain ⟨n, x, p1, p2, p3⟩ := solve
      have fin : ∀ r2 : Int × List Int × Int, hex_Solve_J2 W W c who (c.count 0 : Int) = some r2 → ((hex_Solve_J2 W W c who (c.count 0 : Int)).bind fun r2 => ((some (0 : Int)).bind fun r1 => if (r1 != 0) = true then some (0, r1) else hex_Shortest_J1 W W c who).bind fun r4 => (gameroomref_HexMay_m W W c).bind fun r5 => if (!r5) = true then gameroomlaw_HexSolves_J1 W W c who r2 r4 12 else if (who != 1 && who != 2) = true then gameroomlaw_HexSolves_J1 W W c who r2 r4 4 else gameroomlaw_HexSolves_J1 W W c who r2 r4 0) = some true := by
        intro r2 hr2
        rw [hr2, Option.bind_some, Option.bind_some]
        rw [if_neg (by decide), s1, Option.bind_some, hexMay_r hl, Option.bind_some, hG, if_neg (by decide), if_neg (by rcases hw with rfl | rfl <;> decide)]
        unfold gameroomlaw_HexSolves_J1
        rw [if_neg (by decide)]
        unfold gameroomlaw_HexSolves_J2
        simp only
        rw [if_pos (by decide), t1, Option.bind_some, if_neg (by simp)]
        unfold gameroomlaw_HexSolves_J3
        rw [open_r hsm, Option.bind_some]
        by_cases h9 : c.count 0 ≤ 9
        · rw [if_neg (by rw [decide_eq_true_eq]; omega)]
          obtain ⟨q1, q2⟩ := p1 h9
          rw [hr2] at q1
          obtain rfl := Option.some.inj q1
          unfold gameroomlaw_HexSolves_J4
          rw [q2, Option.bind_some]
          simp only
          rw [if_pos (by simp), sameInts_eq (by omega), Option.bind_some]
          simp
        · rw [if_pos (by rw [decide_eq_true_eq]; omega)]
          have q1 := p2 h9
          rw [hr2] at q1
          obtain rfl := Option.some.inj q1
          simp
      by_cases h9 : c.count 0 ≤ 9
      · exact fin _ (p1 h9).1
      · exact fin _ (p2 h9)
    · rw [if_neg hw, if_pos (by decide), Option.bind_some]
      unfold hex_Shortest_m
      rw [player_p hl, if_pos hG, if_neg hw, Option.bind_some, if_pos (by decide), Option.bind_some, hexMay_r hl, Option.bind_some, hG, if_neg (by decide), if_pos (by
        rw [Bool.and_eq_true, bne_iff_ne, bne_iff_ne]
        exact ⟨fun h => hw (.inl h), fun h => hw (.inr h)⟩)]
      unfold gameroomlaw_HexSolves_J1
      rw [if_pos (by decide)]
      simp
  · rw [if_neg hG, if_pos (by decide), Option.bind_some]
    unfold hex_Shortest_m
    rw [player_p hl, if_neg hG, Option.bind_some, if_pos (by decide), Option.bind_some, hexMay_r hl, Option.bind_some, Bool.eq_false_iff.2 hG, if_pos (by decide)]
    unfold gameroomlaw_HexSolves_J1
    rw [if_pos (by decide)]
    simp
end
end Go.Proofs.Ytfmmlmiakkjaiaa
