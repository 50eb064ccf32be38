/-
  DeckNumbers: the order of a number, and the law.
-/
import Derived.Test.YtlkdblflibgfpaaDNb
namespace Go.Proofs.Ytlkdblflibgfpaa
open Go Go.GL

/-- What is left from x on. -/
def flx (l : List Int) (x m : Nat) : List Int := ((List.range' x m).map (fun (i : Nat) => (i : Int))).filter (fun y => decide (y ∉ l))
theorem flx_lt (l : List Int) (x m : Nat) : (flx l x m).Pairwise (· < ·) := by
  unfold flx
  refine List.Pairwise.filter _ ?_
  rw [List.pairwise_map]
  exact (List.pairwise_lt_range' 1).imp (fun h => by omega)
theorem flx_nil (n : Nat) : flx [] 0 n = rng n := by
  unfold flx rng mr
  rw [List.range_eq_range', List.filter_eq_self.2 (fun y _ => by simp)]
theorem flx_snoc {l : List Int} {n : Nat} {A B : List Int} {x : Int} (e : flx l 0 n = A ++ x :: B) : flx (l ++ [x]) 0 n = A ++ B := by
  have hs := flx_lt l 0 n
  rw [e] at hs
  have q := List.pairwise_append.1 hs
  have e2 : flx (l ++ [x]) 0 n = (flx l 0 n).filter (fun y => decide (y ≠ x)) := by
    unfold flx
    rw [List.filter_filter]
    congr 1
    funext y
    rw [← Bool.decide_and, decide_eq_decide, List.mem_append, List.mem_singleton, not_or]
    exact ⟨fun h => ⟨h.2, h.1⟩, fun h => ⟨h.2, h.1⟩⟩
  rw [e2, e, List.filter_append, List.filter_cons_of_neg (by simp), List.filter_eq_self.2 (fun a ha => ?_), List.filter_eq_self.2 (fun b hb => ?_)]
  · have := (List.pairwise_cons.1 q.2.1).1 b hb
    rw [decide_eq_true_eq]; omega
  · have := q.2.2 a ha x (by simp)
    rw [decide_eq_true_eq]; omega

theorem pick_split {q : List Int} {s : Nat} (hs : s < q.length) : q = q.take s ++ geti q (s : Int) :: q.drop (s + 1) := by
  rw [← drop_cons hs, List.take_append_drop]

/-- The document's pick. -/
theorem pick_r {l : List Int} {n : Nat} (hn : n ≤ 12) (hl : l.length ≤ 12) {k F : Nat} : ∀ (m x s : Nat), x + m = n → s < (flx l x m).length → loop (gameroomref_NthOf_L2 n k l F) ((s : Int), (x : Int)) = some (Int.tmod (k : Int) (F : Int), l ++ [geti (flx l x m) (s : Int)])
  | 0, x, s, _, h => by simp [flx] at h
  | m + 1, x, s, hx, h => by
    obtain ⟨v, v1, v2⟩ := at_r (l := l) (x : Int) (by omega)
    have st : gameroomref_NthOf_L2 n k l F ((s : Int), (x : Int)) = gameroomref_NthOf_J3 k l F s x := by
      simp only [gameroomref_NthOf_L2]
      rw [if_pos (decide_eq_true (by omega))]
    have e0 : flx l x (m + 1) = if (x : Int) ∈ l then flx l (x + 1) m else (x : Int) :: flx l (x + 1) m := by
      unfold flx
      rw [List.range'_succ, List.map_cons]
      by_cases q : (x : Int) ∈ l
      · rw [if_pos q, List.filter_cons_of_neg (by simpa using q)]
      · rw [if_neg q, List.filter_cons_of_pos (by simpa using q)]
    by_cases q : (x : Int) ∈ l
    · rw [if_pos q] at e0
      rw [e0] at h ⊢
      refine loop_next' (s' := ((s : Int), ((x + 1 : Nat) : Int))) ?_ (pick_r hn hl m (x + 1) s (by omega) h)
      rw [st]
      unfold gameroomref_NthOf_J3 gameroomref_NthOf_J4
      rw [v1, Option.bind_some, if_pos (decide_eq_true (v2.2 q)), w64_of (by omega)]; rfl
    · rw [if_neg q] at e0
      rw [e0] at h ⊢
      have hv : ¬ (decide ((0 : Int) ≤ v)) = true := fun z => q (v2.1 (of_decide_eq_true z))
      rcases s with _ | s
      · refine loop_done ?_
        rw [st]
        unfold gameroomref_NthOf_J3 gameroomref_NthOf_J5
        rw [v1, Option.bind_some, if_neg hv, if_pos (by decide), asrt_pos (by unfold bigN; omega)]; rfl
      · have ih := pick_r hn hl (k := k) (F := F) m (x + 1) s (by omega) (by simp at h; exact h)
        have eg : geti ((x : Int) :: flx l (x + 1) m) ((s + 1 : Nat) : Int) = geti (flx l (x + 1) m) (s : Int) := by
          rw [geti_nat, geti_nat]; rfl
        have hsl : s + 1 ≤ 12 := by
          have : (flx l (x + 1) m).length ≤ m := Nat.le_trans (List.length_filter_le _ _) (by rw [List.length_map, List.length_range']; exact Nat.le_refl _)
          simp at h
          omega
        rw [eg]
        refine loop_next' (s' := ((s : Int), ((x + 1 : Nat) : Int))) ?_ ih
        rw [st]
        unfold gameroomref_NthOf_J3 gameroomref_NthOf_J5 gameroomref_NthOf_J6 gameroomref_NthOf_J4
        rw [v1, Option.bind_some, if_neg hv, if_neg (by simp; omega), w64_of (by omega), w64_of (by omega), show ((s + 1 : Nat) : Int) - 1 = (s : Int) by omega]; rfl

theorem nth_both {n : Nat} (hn : n ≤ 12) {k : Nat} (hk : k < fac n) : ∃ o : List Int, o.length ≤ 12 ∧ deck_Nth_J5 n k (fac n : Int) = some (o, 0) ∧ gameroomref_NthOf_m n k = some o := by
  obtain ⟨r1, r2, e1, e2, e3, e4⟩ := count_loop2' (step1 := deck_Nth_L2) (step2 := gameroomref_NthOf_L1 n)
    (fun (x : Nat × List Int) (j : Nat) => ((x.1 : Int), (fac (n - j) : Int), flx x.2 0 n, x.2, ((n - j : Nat) : Int))) (fun (x : Nat × List Int) (_ : Nat) => ((x.1 : Int), x.2))
    (fun j x => x.2.length = j ∧ x.1 < fac (n - j) ∧ (flx x.2 0 n).length = n - j) (fun r1 r2 => r1 = r2 ∧ r1.length ≤ 12) n (k, []) ⟨rfl, hk, by rw [flx_nil, rng_length]; rfl⟩ (by
    rintro j ⟨k, l⟩ hj ⟨h1, h2, h3⟩
    dsimp only at h1 h2 h3
    obtain ⟨m, hm⟩ : ∃ m, n - j = m + 1 := ⟨n - j - 1, by omega⟩
    have hf : fac (n - j) = (m + 1) * fac m := by rw [hm]; rfl
    have hfp := fac_pos m
    have hfb := fac_bd m (by omega)
    have hfb2 := fac_bd (n - j) (by omega)
    have hq : k / fac m < m + 1 := Nat.div_lt_of_lt_mul (by rw [Nat.mul_comm]; omega)
    have hqF : (k / fac m) < (flx l 0 n).length := by omega
    have hr : k % fac m < fac m := Nat.mod_lt _ hfp
    have hsp := pick_split hqF
    have htl : ((flx l 0 n).take (k / fac m)).length = k / fac m := by rw [List.length_take]; omega
    have hnew := flx_snoc hsp
    have hdl : slices_Delete_2_m (flx l 0 n) ((k / fac m : Nat) : Int) (((k / fac m : Nat) : Int) + 1) = some (flx (l ++ [geti (flx l 0 n) ((k / fac m : Nat) : Int)]) 0 n) := by
      unfold slices_Delete_2_m
      rw [asrt_pos (by omega), hnew]
      unfold delI
      rw [Int.toNat_natCast, show (((k / fac m : Nat) : Int) + 1).toNat = k / fac m + 1 by omega]
    have hnl : (flx (l ++ [geti (flx l 0 n) ((k / fac m : Nat) : Int)]) 0 n).length = n - (j + 1) := by
      rw [hnew, List.length_append, htl, List.length_drop, h3]; omega
    refine ⟨(k % fac m, l ++ [geti (flx l 0 n) ((k / fac m : Nat) : Int)]), ?_, ?_, by dsimp only; rw [List.length_append, h1]; rfl, by dsimp only; rw [show n - (j + 1) = m by omega]; exact hr, hnl⟩
    · simp only [deck_Nth_L2, deck_Nth_J7, deck_Nth_J8]
      have ha : Int.tdiv (fac (n - j) : Int) ((n - j : Nat) : Int) = (fac m : Int) := by
        rw [hf, hm, Int.tdiv_eq_ediv_of_nonneg (by omega), Int.natCast_mul, Int.mul_ediv_cancel_left _ (by omega)]
      have hd : Int.tdiv (k : Int) (fac m : Int) = ((k / fac m : Nat) : Int) := by
        rw [Int.tdiv_eq_ediv_of_nonneg (by omega)]; rfl
      have hmo : Int.tmod (k : Int) (fac m : Int) = ((k % fac m : Nat) : Int) := by
        rw [Int.tmod_eq_emod_of_nonneg (by omega)]; rfl
      rw [if_pos (decide_eq_true (by omega)), ha, w64_nat (by omega), hd, w64_nat (by omega), asrt_pos (by omega), asrt_pos (by omega), asrt_pos (by omega), asrt_pos (by omega), asrt_pos (by unfold bigN; omega), w64_of (x := ((k / fac m : Nat) : Int) + 1) (by omega), hdl, Option.bind_some, hmo, w64_of (by omega), show n - (j + 1) = m by omega, show ((n - j : Nat) : Int) - 1 = (m : Int) by omega]
    · have hmo : Int.tmod (k : Int) (fac m : Int) = ((k % fac m : Nat) : Int) := by
        rw [Int.tmod_eq_emod_of_nonneg (by omega)]; rfl
      have hd : Int.tdiv (k : Int) (fac m : Int) = ((k / fac m : Nat) : Int) := by
        rw [Int.tdiv_eq_ediv_of_nonneg (by omega)]; rfl
      have pk := pick_r (l := l) hn (by omega) (k := k) (F := fac m) n 0 (k / fac m) (by omega) hqF
      simp only [gameroomref_NthOf_L1, gameroomref_NthOf_J2]
      rw [if_pos (decide_eq_true (by omega)), w64_of (x := (n : Int) - 1) (by omega), w64_of (by omega), show (n : Int) - 1 - (l.length : Int) = (m : Int) by omega, factorial_r (by omega), Option.bind_some, asrt_pos (by omega), asrt_pos (by omega), hd, w64_nat (by omega)]
      have pk' : loop (gameroomref_NthOf_L2 n k l (fac m : Int)) (((k / fac m : Nat) : Int), 0) = some (Int.tmod (k : Int) (fac m : Int), l ++ [geti (flx l 0 n) ((k / fac m : Nat) : Int)]) := pk
      rw [pk', Option.bind_some, hmo]; rfl) (by
    rintro ⟨k, l⟩ ⟨h1, h2, h3⟩
    dsimp only at h1
    refine ⟨l, l, ?_, ?_, rfl, by omega⟩
    · simp only [deck_Nth_L2]
      rw [if_neg (by rw [Nat.sub_self]; decide)]
    · simp only [gameroomref_NthOf_L1]
      rw [if_neg (by rw [decide_eq_true_eq]; omega)])
  refine ⟨r1, e4, ?_, ?_⟩
  · unfold deck_Nth_J5
    rw [sorted_p (by omega), Option.bind_some, ← flx_nil]
    have e1' : loop deck_Nth_L2 ((k : Int), (fac n : Int), flx [] 0 n, ([] : List Int), (n : Int)) = some r1 := e1
    rw [e1']; rfl
  · unfold gameroomref_NthOf_m
    have e2' : loop (gameroomref_NthOf_L1 n) ((k : Int), ([] : List Int)) = some r2 := e2
    rw [e2', ← e3]; rfl

theorem same_n {l : List Int} (hl : l.length ≤ 1000) : gameroomlaw_sameInts_m l l = some true := by
  unfold gameroomlaw_sameInts_m
  rw [if_neg (by simp)]
  unfold gameroomlaw_sameInts_J1
  have : loop (gameroomlaw_sameInts_L1 l l) 0 = some (.go ()) := by
    refine loop_from (r := Fl.go ()) (fun i => (i : Int)) l.length rfl (fun i hi => ?_) ?_
    · simp only [gameroomlaw_sameInts_L1, gameroomlaw_sameInts_J3, gameroomlaw_sameInts_J4]
      rw [if_pos (decide_eq_true (by omega)), asrt_pos (by omega), asrt_pos (by omega), if_neg (by simp), w64_of (by omega)]; rfl
    · simp only [gameroomlaw_sameInts_L1]
      rw [if_neg (by simp)]
  rw [this]; rfl

theorem nth_law (n k : Int) : ∃ r5, deck_Nth_m n k = some r5 ∧ gameroomlaw_DeckNumbers_J2 n k r5 = some true := by
  unfold deck_Nth_m gameroomlaw_DeckNumbers_J2
  by_cases hn : n < 0 ∨ 12 < n
  · refine ⟨_, if_pos (by rw [Bool.or_eq_true, decide_eq_true_eq, decide_eq_true_eq]; exact hn), ?_⟩
    rw [if_pos (by rw [Bool.or_eq_true, decide_eq_true_eq, decide_eq_true_eq]; exact hn)]; rfl
  · obtain ⟨N, rfl⟩ : ∃ N : Nat, n = N := ⟨n.toNat, by omega⟩
    have hN : N ≤ 12 := by omega
    have hb := fac_bd N hN
    have l1 := fac_loop (step := deck_Nth_L1 N) hN (fun f i hi hb => by
      simp only [deck_Nth_L1, deck_Nth_J3, deck_Nth_J4]
      rw [if_pos (decide_eq_true (by omega)), ← Int.natCast_mul, w64_nat (by omega), w64_of (by omega)]; rfl) (fun f i hi => by
      simp only [deck_Nth_L1]
      rw [if_neg (by rw [decide_eq_true_eq]; omega)])
    have l2 := fac_loop (step := gameroomlaw_DeckNumbers_L1 N) hN (fun f i hi hb => by
      simp only [gameroomlaw_DeckNumbers_L1, gameroomlaw_DeckNumbers_J5, gameroomlaw_DeckNumbers_J6]
      rw [if_pos (decide_eq_true (by omega)), ← Int.natCast_mul, w64_nat (by omega), w64_of (by omega)]; rfl) (fun f i hi => by
      simp only [gameroomlaw_DeckNumbers_L1]
      rw [if_neg (by rw [decide_eq_true_eq]; omega)])
    rw [if_neg (by rw [Bool.or_eq_true, decide_eq_true_eq, decide_eq_true_eq]; exact hn)]
    unfold deck_Nth_J1
    rw [l1, Option.bind_some]
    simp only [deck_Nth_K1, deck_Nth_J2]
    by_cases hk : k < 0 ∨ (fac N : Int) ≤ k
    · refine ⟨_, if_pos (by rw [Bool.or_eq_true, decide_eq_true_eq, decide_eq_true_eq]; exact hk), ?_⟩
      rw [if_neg (by rw [Bool.or_eq_true, decide_eq_true_eq, decide_eq_true_eq]; exact hn)]
      unfold gameroomlaw_DeckNumbers_J3
      rw [l2, Option.bind_some]
      simp only [gameroomlaw_DeckNumbers_K1, gameroomlaw_DeckNumbers_J4]
      rw [if_pos (by rw [Bool.or_eq_true, decide_eq_true_eq, decide_eq_true_eq]; exact hk)]; rfl
    · obtain ⟨K, rfl⟩ : ∃ K : Nat, k = K := ⟨k.toNat, by omega⟩
      obtain ⟨o, ol, o1, o2⟩ := nth_both hN (k := K) (by omega)
      refine ⟨(o, 0), ?_, ?_⟩
      · rw [if_neg (by rw [Bool.or_eq_true, decide_eq_true_eq, decide_eq_true_eq]; exact hk)]; exact o1
      · rw [if_neg (by rw [Bool.or_eq_true, decide_eq_true_eq, decide_eq_true_eq]; exact hn)]
        unfold gameroomlaw_DeckNumbers_J3
        rw [l2, Option.bind_some]
        simp only [gameroomlaw_DeckNumbers_K1, gameroomlaw_DeckNumbers_J4]
        rw [if_neg (by rw [Bool.or_eq_true, decide_eq_true_eq, decide_eq_true_eq]; exact hk)]
        unfold gameroomlaw_DeckNumbers_J7 gameroomlaw_DeckNumbers_J8
        dsimp only
        rw [if_pos (by decide), o2, Option.bind_some, if_pos (by decide), same_n (by omega), Option.bind_some]; rfl

theorem number_law {l : List Int} (hl : l.length ≤ 17592186043904) : ∃ r4, deck_Number_m l = some r4 ∧ ∀ n k r5, gameroomlaw_DeckNumbers_J2 n k r5 = some true → gameroomlaw_DeckNumbers_J1 l n k r4 r5 = some true := by
  classical
  unfold deck_Number_m gameroomlaw_DeckNumbers_J1
  by_cases h : 12 < l.length
  · refine ⟨_, if_pos (decide_eq_true (by omega)), fun n k r5 h5 => ?_⟩
    rw [if_pos (decide_eq_true (by omega)), if_neg (by decide), h5]
  · rw [if_neg (by rw [decide_eq_true_eq]; omega), order_p hl, Option.bind_some]
    by_cases ho : Ord l
    · refine ⟨((Nm l : Int), 0), ?_, fun n k r5 h5 => ?_⟩
      · rw [decide_eq_true ho, if_neg (by decide)]; exact number_p (by omega) ho
      · rw [if_neg (by rw [decide_eq_true_eq]; omega), order_r hl, Option.bind_some, decide_eq_true ho, if_neg (by decide), if_pos (by rfl), number_r (by omega), Option.bind_some, if_neg (by simp), h5]
    · refine ⟨(0, 1), ?_, fun n k r5 h5 => ?_⟩
      · rw [decide_eq_false ho, if_pos (by decide)]
      · rw [if_neg (by rw [decide_eq_true_eq]; omega), order_r hl, Option.bind_some, decide_eq_false ho, if_pos (by decide), if_neg (by decide), h5]

theorem true_DeckNumbers (l : List Int) (n k : Int) (hl : l.length ≤ 17592186043904) (_hy : ∀ y ∈ l, inI y) (_hn : inI n) (_hk : inI k) : gameroomlaw_DeckNumbers_m l n k = some true := by
  classical
  unfold gameroomlaw_DeckNumbers_m gameroomlaw_ints_m
  rw [asrt_pos (by unfold bigN; omega), Option.bind_some, List.nil_append]
  obtain ⟨r4, e4, h4⟩ := number_law hl
  obtain ⟨r5, e5, h5⟩ := nth_law n k
  have h45 := h4 n k r5 h5
  unfold deck_Sign_m
  by_cases h : 104 < l.length
  · rw [if_pos (decide_eq_true (by omega)), Option.bind_some, Option.bind_some, e4, Option.bind_some, e5, Option.bind_some, if_pos (decide_eq_true (by omega)), if_neg (by decide), h45]
  · rw [if_neg (by rw [decide_eq_true_eq]; omega), order_p hl, Option.bind_some]
    by_cases ho : Ord l
    · rw [decide_eq_true ho, if_neg (by decide), sign_p (by omega) ho, Option.bind_some, Option.bind_some, e4, Option.bind_some, e5, Option.bind_some, if_neg (by rw [decide_eq_true_eq]; omega), order_r hl, Option.bind_some, decide_eq_true ho, if_neg (by decide), if_pos (by rfl), sign_r (by omega), Option.bind_some, if_neg (by simp), h45]
    · rw [decide_eq_false ho, if_pos (by decide), Option.bind_some, Option.bind_some, e4, Option.bind_some, e5, Option.bind_some, if_neg (by rw [decide_eq_true_eq]; omega), order_r hl, Option.bind_some, decide_eq_false ho, if_pos (by decide), if_neg (by decide), h45]
end Go.Proofs.Ytlkdblflibgfpaa
