/-
  DraughtsWays: rows put in, and rows compared.
-/
import Derived.Test.YtoickcchcjehdaaNDW
import Derived.Test.YtoickcchcjehdaaLibN
import Derived.Test.YtoickcchcjehdaaLibX
import Derived.Test.YtoickcchcjehdaaLibRv
namespace Go.Proofs.Ytoickcchcjehdaa
open Go Go.GL

/-- A loop that ends early at the first bad round. -/
theorem loop_find {S R : Type} {step : S → Option (St S R)} {f : Nat → S} {n : Nat} {bad : Nat → Bool} {out rd : R} (h : ∀ i, i < n → step (f i) = if bad i then some (.done out) else some (.next (f (i + 1)))) (hd : step (f n) = some (.done rd)) : loop step (f 0) = some (if (List.range n).any bad then out else rd) := by
  have key : ∀ m i, i + m = n → loop step (f i) = some (if (List.range' i m).any bad then out else rd) := by
    intro m
    induction m with
    | zero => intro i hi
              obtain rfl : i = n := by omega
              simpa using loop_done hd
    | succ m ih => intro i hi
                   have hs := h i (by omega)
                   rw [List.range'_succ, List.any_cons]
                   cases hb : bad i with
                   | true =>
                     rw [hb, if_pos rfl] at hs
                     rw [loop_done hs]; simp
                   | false =>
                     rw [hb, if_neg (by decide)] at hs
                     rw [loop_next hs rfl (by rw [ih (i + 1) (by omega)]; rfl), ih (i + 1) (by omega), Bool.false_or]
  rw [key n 0 (by omega), List.range_eq_range']

theorem geti_bang {l : List Int} {i : Nat} (h : i < l.length) : geti l (i : Int) = l[i]! := by
  rw [geti_nat, List.getD_eq_getElem?_getD, List.getElem?_eq_getElem h, getElem!_pos l i h]
  rfl

theorem less_p {a b : List Int} (ha : a.length ≤ 4611686018427387904) : gameroomref_lessInts_m a b = some (decide (cmpL a b < 0)) := by
  have key : ∀ m i, i + m = a.length → (loop (gameroomref_lessInts_L1 a b) (i : Int)).bind (gameroomref_lessInts_K1 a b) = some (decide (cmpL (a.drop i) (b.drop i) < 0)) := by
    intro m
    induction m with
    | zero =>
      intro i hi
      obtain rfl : i = a.length := by omega
      rw [loop_done (r := (Fl.go () : Fl Unit Bool)) (by
        unfold gameroomref_lessInts_L1
        dsimp only
        rw [if_neg (by simp)]), List.drop_length]
      show gameroomref_lessInts_J1 a b = _
      unfold gameroomref_lessInts_J1
      congr 1
      rw [Bool.eq_iff_iff, decide_eq_true_eq, decide_eq_true_eq]
      by_cases h : a.length < b.length
      · rw [List.drop_eq_getElem_cons h]
        simp [cmpL]; omega
      · rw [List.drop_eq_nil_of_le (by omega)]
        simp [cmpL]; omega
    | succ m ih =>
      intro i hi
      by_cases hb : i < b.length
      · have e := cmpL_step (x := a) (y := b) (k := i) (by omega) hb
        have hs : gameroomref_lessInts_L1 a b (i : Int) = if geti a (i : Int) != geti b (i : Int) then some (.done (.ret (decide (geti a (i : Int) < geti b (i : Int))))) else some (.next ((i + 1 : Nat) : Int)) := by
          unfold gameroomref_lessInts_L1 gameroomref_lessInts_J2 gameroomref_lessInts_J3
          dsimp only
          rw [if_pos (by rw [Bool.and_eq_true, decide_eq_true_eq, decide_eq_true_eq]; omega), asrt_pos (by omega), asrt_pos (by omega), asrt_pos (by omega), asrt_pos (by omega), w64_of (x := (i : Int) + 1) (by omega)]
          rfl
        rw [e, ← geti_bang (by omega), ← geti_bang hb]
        by_cases hn : geti a (i : Int) = geti b (i : Int)
        · rw [if_neg (by simpa using hn)] at hs
          have h := ih (i + 1) (by omega)
          have c0 : cmpI (geti a (i : Int)) (geti b (i : Int)) = 0 := by
            unfold cmpI
            rw [if_neg (by omega), if_neg (by omega)]
          rw [if_pos c0, ← h]
          rw [loop_next hs rfl (by
            cases hq : loop (gameroomref_lessInts_L1 a b) ((i + 1 : Nat) : Int) with
            | some x => rfl
            | none => rw [hq] at h; exact absurd h (by simp))]
        · rw [if_pos (by simpa using hn)] at hs
          rw [loop_done hs]
          show some (decide (geti a (i : Int) < geti b (i : Int))) = _
          congr 1
          rw [Bool.eq_iff_iff, decide_eq_true_eq, decide_eq_true_eq]
          unfold cmpI
          by_cases h1 : geti a (i : Int) < geti b (i : Int)
          · simp [h1]
          · have h2 : geti b (i : Int) < geti a (i : Int) := by omega
            simp [h1, h2]
      · rw [loop_done (r := (Fl.go () : Fl Unit Bool)) (by
          unfold gameroomref_lessInts_L1
          dsimp only
          rw [if_neg (by rw [Bool.and_eq_true, decide_eq_true_eq, decide_eq_true_eq]; omega)])]
        show gameroomref_lessInts_J1 a b = _
        unfold gameroomref_lessInts_J1
        congr 1
        rw [Bool.eq_iff_iff, decide_eq_true_eq, decide_eq_true_eq, List.drop_eq_getElem_cons (show i < a.length by omega), List.drop_eq_nil_of_le (show b.length ≤ i by omega)]
        simp [cmpL]; omega
  have h := key a.length 0 (by omega)
  rw [List.drop_zero, List.drop_zero] at h
  exact h

theorem same_loop {step : Int → Option (St Int (Fl Unit Bool))} {a b : List Int} (hl : a.length = b.length) (hs : ∀ i : Nat, i < a.length → step (i : Int) = if geti a (i : Int) != geti b (i : Int) then some (.done (.ret false)) else some (.next ((i + 1 : Nat) : Int))) (he : step (a.length : Int) = some (.done (.go ()))) : loop step 0 = some (if decide (a = b) then .go () else .ret false) := by
  rw [show (0 : Int) = ((0 : Nat) : Int) from rfl, loop_find (f := fun k => (k : Int)) (n := a.length) (bad := fun i => geti a (i : Int) != geti b (i : Int)) hs he]
  by_cases e : a = b
  · subst e
    rw [if_neg (by simp), if_pos (by simp)]
  · rw [if_pos, if_neg (by simpa using e)]
    rw [List.any_eq_true]
    refine Decidable.byContradiction fun hc => e (List.ext_getElem hl fun i h1 h2 => ?_)
    have : geti a (i : Int) = geti b (i : Int) := Decidable.byContradiction fun hn => hc ⟨i, List.mem_range.2 h1, by simpa using hn⟩
    rwa [geti_bang h1, geti_bang h2, getElem!_pos a i h1, getElem!_pos b i h2] at this

theorem same_r {a b : List Int} (ha : a.length ≤ 4611686018427387904) : gameroomref_sameInts_m a b = some (decide (a = b)) := by
  unfold gameroomref_sameInts_m
  by_cases hl : a.length = b.length
  · rw [if_neg (by simp; omega)]
    unfold gameroomref_sameInts_J1
    rw [same_loop hl (fun i hi => by
      unfold gameroomref_sameInts_L1 gameroomref_sameInts_J3 gameroomref_sameInts_J4
      dsimp only
      rw [if_pos (by rw [decide_eq_true_eq]; omega), asrt_pos (by omega), asrt_pos (by omega), w64_of (x := (i : Int) + 1) (by omega)]
      rfl) (by
      unfold gameroomref_sameInts_L1
      dsimp only
      rw [if_neg (by simp)]), Option.bind_some]
    cases decide (a = b) <;> rfl
  · rw [if_pos (by simp; omega), decide_eq_false (fun e => hl (by rw [e]))]

theorem same_w {a b : List Int} (ha : a.length ≤ 4611686018427387904) : gameroomlaw_sameInts_m a b = some (decide (a = b)) := by
  unfold gameroomlaw_sameInts_m
  by_cases hl : a.length = b.length
  · rw [if_neg (by simp; omega)]
    unfold gameroomlaw_sameInts_J1
    rw [same_loop hl (fun i hi => by
      unfold gameroomlaw_sameInts_L1 gameroomlaw_sameInts_J3 gameroomlaw_sameInts_J4
      dsimp only
      rw [if_pos (by rw [decide_eq_true_eq]; omega), asrt_pos (by omega), asrt_pos (by omega), w64_of (x := (i : Int) + 1) (by omega)]
      rfl) (by
      unfold gameroomlaw_sameInts_L1
      dsimp only
      rw [if_neg (by simp)]), Option.bind_some]
    cases decide (a = b) <;> rfl
  · rw [if_pos (by simp; omega), decide_eq_false (fun e => hl (by rw [e]))]

theorem cut_take (l : List (List Int)) (k : Nat) : cut l (0 : Int) (k : Int) = l.take k := by
  unfold cut
  simp
theorem cut_drop (l : List (List Int)) (k : Nat) : cut l (k : Int) (l.length : Int) = l.drop k := by
  unfold cut
  simp
  exact List.take_of_length_le (by simp)

theorem put_p {l : List (List Int)} {w : List Int} (hl : l.length < 1000000000000) (hr : ∀ x ∈ l, x.length ≤ 4611686018427387904) : gameroomref_putWay_3_m l w = some (insW w l) := by
  have hget : ∀ i, i < l.length → geti2 l (i : Int) = l.getD i [] ∧ (l.getD i []).length ≤ 4611686018427387904 := fun i hi => by
    have e : geti2 l (i : Int) = l.getD i [] := by unfold geti2; rw [Int.toNat_natCast]
    refine ⟨e, hr _ ?_⟩
    rw [List.getD_eq_getElem?_getD, List.getElem?_eq_getElem hi]
    exact List.getElem_mem hi
  obtain ⟨k, hk, h1, h2⟩ : ∃ k, k ≤ l.length ∧ (∀ j, j < k → cmpL (l.getD j []) w < 0) ∧ (k < l.length → ¬ cmpL (l.getD k []) w < 0) := by
    have key : ∀ m, m ≤ l.length → (∃ k, k ≤ m ∧ (∀ j, j < k → cmpL (l.getD j []) w < 0) ∧ (k < m → ¬ cmpL (l.getD k []) w < 0)) := by
      intro m
      induction m with
      | zero => exact fun _ => ⟨0, Nat.le_refl _, fun j hj => by omega, fun h => by omega⟩
      | succ m ih =>
        intro hm
        obtain ⟨k, a1, a2, a3⟩ := ih (by omega)
        by_cases e : k < m
        · exact ⟨k, by omega, a2, fun _ => a3 e⟩
        · obtain rfl : k = m := by omega
          by_cases h : cmpL (l.getD k []) w < 0
          · exact ⟨k + 1, Nat.le_refl _, fun j hj => by
              by_cases e : j = k
              · rw [e]; exact h
              · exact a2 j (by omega), fun h => by omega⟩
          · exact ⟨k, by omega, a2, fun _ => h⟩
    exact key l.length (Nat.le_refl _)
  unfold gameroomref_putWay_3_m
  rw [loop_from (s0 := (0 : Int)) (r := (k : Int)) (fun i => (i : Int)) k rfl (fun i hi => ?_) ?_, Option.bind_some, insW_at hk h1 h2]
  · unfold gameroomref_putWay_3_K1 gameroomref_putWay_3_J1
    dsimp only
    by_cases e : k < l.length
    · rw [asrt_pos (fun _ => by omega), if_pos (by rw [decide_eq_true_eq]; omega), (hget k e).1, same_r (hget k e).2, Option.bind_some]
      by_cases e2 : l.getD k [] = w
      · rw [if_pos (by rw [Bool.and_eq_true, decide_eq_true_eq, decide_eq_true_eq]; exact ⟨by omega, e2⟩), if_pos ⟨e, e2⟩]
      · rw [if_neg (by rw [Bool.and_eq_true, decide_eq_true_eq, decide_eq_true_eq]; exact fun h => e2 h.2), if_neg (fun h => e2 h.2)]
        unfold gameroomref_putWay_3_J3
        rw [cut_take, cut_drop, asrt_pos (by omega), asrt_pos (by simp [bigR]; omega), asrt_pos (by simp [bigR]; omega), asrt_pos (by omega), asrt_pos (by simp [bigR]; omega), List.nil_append]
    · rw [asrt_pos (fun h => by rw [decide_eq_true_eq] at h; omega), if_neg (by rw [decide_eq_true_eq]; omega), Option.bind_some, if_neg (by simp), if_neg (fun h => e h.1)]
      unfold gameroomref_putWay_3_J3
      rw [cut_take, cut_drop, asrt_pos (by omega), asrt_pos (by simp [bigR]; omega), asrt_pos (by simp [bigR]; omega), asrt_pos (by omega), asrt_pos (by simp [bigR]; omega), List.nil_append]
  · unfold gameroomref_putWay_3_L1
    dsimp only
    by_cases e : k < l.length
    · rw [asrt_pos (fun _ => by omega), if_pos (by rw [decide_eq_true_eq]; omega), (hget k e).1, less_p (hget k e).2, Option.bind_some, if_neg (by rw [Bool.and_eq_true, decide_eq_true_eq, decide_eq_true_eq]; exact fun h => h2 e h.2)]
    · rw [asrt_pos (fun h => by rw [decide_eq_true_eq] at h; omega), if_neg (by rw [decide_eq_true_eq]; omega), Option.bind_some, if_neg (by simp)]
  · unfold gameroomref_putWay_3_L1 gameroomref_putWay_3_J2
    dsimp only
    rw [asrt_pos (fun _ => by omega), if_pos (by rw [decide_eq_true_eq]; omega), (hget i (by omega)).1, less_p (hget i (by omega)).2, Option.bind_some, if_pos (by rw [Bool.and_eq_true, decide_eq_true_eq, decide_eq_true_eq]; exact ⟨by omega, h1 i hi⟩), w64_of (x := (i : Int) + 1) (by omega)]
    rfl
end Go.Proofs.Ytoickcchcjehdaa
