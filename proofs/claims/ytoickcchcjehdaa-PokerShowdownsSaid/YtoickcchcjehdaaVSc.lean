/-
  PokerShowdowns: the program's recursion, as a sum.
-/
import Derived.Test.YtoickcchcjehdaaVSb
namespace Go.Proofs.Ytoickcchcjehdaa
open Go Go.GL

theorem contains_p {l : List Int} (v : Int) (hs : l.length ≤ 17592186044416) : slices_Contains_m l v = some (decide (v ∈ l)) := by
  unfold slices_Contains_m slices_Index_m
  rw [search_loop (l := l) (fun x => v == x) (fun i => Fl.ret (i : Int)) (Fl.go ()) ?_ ?_ ?_]
  · have hn := fidx_neg (fun x => v == x) l
    unfold fidx at hn
    have hm : l.any (fun x => v == x) = true ↔ v ∈ l := by
      rw [List.any_eq_true]
      constructor
      · rintro ⟨x, hx, h⟩
        rw [beq_iff_eq] at h
        rw [h]; exact hx
      · intro h
        exact ⟨v, h, by simp⟩
    cases hf : l.findIdx? (fun x => v == x) with
    | none =>
      rw [hf] at hn
      have : ¬ v ∈ l := fun h => by have := hn.2 (hm.2 h); simp at this
      simp [slices_Index_K1, slices_Index_J1, this]
    | some i =>
      rw [hf] at hn
      have : v ∈ l := hm.1 (hn.1 (by simp))
      simp [slices_Index_K1, this]
  · intro i x hx hp
    have hb := idx_bd hx
    simp only [slices_Index_L1, slices_Index_J2]
    rw [if_pos (by simpa using hb.2), asrt_pos hb, geti_some hx]
    exact if_pos hp
  · intro i x hx hp
    have hb := idx_bd hx
    simp only [slices_Index_L1, slices_Index_J2]
    rw [if_pos (by simpa using hb.2), asrt_pos hb, geti_some hx, if_neg (by simpa using hp)]
    simp only [slices_Index_J3]
    rw [w64_succ (by omega)]
  · simp only [slices_Index_L1]
    rw [if_neg (by simp)]

def tot (m : List (List Int)) : Nat := (m.map List.length).sum
theorem geti2_nat (m : List (List Int)) (k : Nat) : geti2 m (k : Int) = m.getD k [] := by simp [geti2]
theorem tot_take {m : List (List Int)} {i : Nat} (h : i < m.length) : tot (m.take (i + 1)) = tot (m.take i) + (m.getD i []).length := by
  unfold tot
  rw [List.take_succ_eq_append_getElem h, List.map_append, List.sum_append, List.getD_eq_getElem?_getD, List.getElem?_eq_getElem h]
  simp
theorem tot_le (m : List (List Int)) (i : Nat) : tot (m.take i) ≤ tot m := by
  unfold tot
  rw [← List.take_append_drop i m, List.map_append, List.sum_append]
  simp
theorem flat_len (m : List (List Int)) : m.flatten.length = tot m := by unfold tot; simp [List.length_flatten]
theorem grow_ok (n : Nat) (h : n ≤ 1000000) : slices_Grow_m (n : Int) = some [] := by
  unfold slices_Grow_m
  rw [if_neg (by simp)]
  unfold slices_Grow_J1 slices_Grow_J2
  have e1 : w64 (0 - 0) = 0 := by decide
  have e2 : w64 ((n : Int) - 0) = n := by rw [Int.sub_zero, w64_of (by omega)]
  rw [e1, e2]
  by_cases hn : 0 < (n : Int)
  · rw [if_pos (by simpa using hn), asrt_pos (by unfold bigN; omega), asrt_pos ⟨by omega, by omega, by simp⟩]
    simp [cut]
  · rw [if_neg (by simpa using hn)]
theorem concat_ok (m : List (List Int)) (hl : m.length ≤ 1000000) (hb : tot m ≤ 1000000) : slices_Concat_m m = some m.flatten := by
  have k1 : loop (slices_Concat_L1 m) (0, 0) = some ((tot m : Nat) : Int) := by
    refine loop_from (fun i => (((tot (m.take i) : Nat) : Int), (i : Int))) m.length (by simp [tot]) (fun i hi => ?_) ?_
    · have h1 := tot_take hi
      have h2 := tot_le m (i + 1)
      simp only [slices_Concat_L1, slices_Concat_J2, slices_Concat_J3]
      rw [if_pos (by simp; omega), asrt_pos ⟨by omega, by omega⟩, geti2_nat, w64_of (x := ((tot (m.take i) : Nat) : Int) + ((m.getD i []).length : Int)) (by omega), if_neg (by simp; omega), w64_of (by omega)]
      simp only [Option.some.injEq, St.next.injEq, Prod.mk.injEq]
      constructor <;> omega
    · simp only [slices_Concat_L1]
      rw [if_neg (by simp), List.take_length]
  have k2 : loop (slices_Concat_L2 m) (([] : List Int), 0) = some m.flatten := by
    refine loop_from (fun i => ((m.take i).flatten, (i : Int))) m.length (by simp) (fun i hi => ?_) ?_
    · have h1 := tot_take hi
      have h2 := tot_le m (i + 1)
      simp only [slices_Concat_L2, slices_Concat_J5, slices_Concat_J6]
      rw [if_pos (by simp; omega), asrt_pos ⟨by omega, by omega⟩, geti2_nat, asrt_pos (by unfold bigN; rw [flat_len]; omega), w64_of (by omega)]
      simp only [Option.some.injEq, St.next.injEq, Prod.mk.injEq]
      refine ⟨?_, by omega⟩
      rw [List.take_succ_eq_append_getElem hi, List.flatten_append, List.getD_eq_getElem?_getD, List.getElem?_eq_getElem hi]
      simp
    · simp only [slices_Concat_L2]
      rw [if_neg (by simp), List.take_length]
  unfold slices_Concat_m
  rw [k1]
  simp only [Option.bind_some, slices_Concat_K1, slices_Concat_J1]
  rw [grow_ok _ hb]
  simp only [Option.bind_some]
  rw [k2]
  rfl

/-- Cards that may lie so. -/
structure Fit (a b known t : List Int) (i : Nat) : Prop where
  la : a.length = 2
  lb : b.length = 2
  na : (a ++ t).Nodup
  nb : (b ++ t).Nodup
  ra : ∀ x ∈ a, 0 ≤ x ∧ x ≤ 51
  rb : ∀ x ∈ b, 0 ≤ x ∧ x ≤ 51
  rt : ∀ x ∈ t, 0 ≤ x ∧ x ≤ 51
  ka : ∀ x ∈ a, x ∈ known
  kb : ∀ x ∈ b, x ∈ known
  kt : ∀ x ∈ t, x ∈ known ∨ x < (i : Int)
section
variable {a b known t : List Int} {i : Nat}
theorem Fit.step (h : Fit a b known t i) {j : Nat} (hij : i ≤ j) (hj : j < 52) (hk : (j : Int) ∉ known) : Fit a b known (t ++ [(j : Int)]) (j + 1) where
  la := h.la
  lb := h.lb
  na := by
    rw [← List.append_assoc, List.nodup_append]
    refine ⟨h.na, by simp, fun x hx y hy e => ?_⟩
    simp at hy
    subst hy
    subst e
    rcases List.mem_append.1 hx with hx | hx
    · exact hk (h.ka _ hx)
    · rcases h.kt _ hx with hx | hx
      · exact hk hx
      · omega
  nb := by
    rw [← List.append_assoc, List.nodup_append]
    refine ⟨h.nb, by simp, fun x hx y hy e => ?_⟩
    simp at hy
    subst hy
    subst e
    rcases List.mem_append.1 hx with hx | hx
    · exact hk (h.kb _ hx)
    · rcases h.kt _ hx with hx | hx
      · exact hk hx
      · omega
  ra := h.ra
  rb := h.rb
  rt := fun x hx => by
    rcases List.mem_append.1 hx with hx | hx
    · exact h.rt x hx
    · simp at hx
      omega
  ka := h.ka
  kb := h.kb
  kt := fun x hx => by
    rcases List.mem_append.1 hx with hx | hx
    · rcases h.kt x hx with h1 | h1
      · exact .inl h1
      · right; omega
    · simp at hx
      right; omega
theorem Fit.range (h : Fit a b known t i) : (∀ x ∈ a ++ t, 0 ≤ x ∧ x ≤ 51) ∧ ∀ x ∈ b ++ t, 0 ≤ x ∧ x ≤ 51 := by
  constructor
  · intro x hx
    rcases List.mem_append.1 hx with hx | hx
    · exact h.ra x hx
    · exact h.rt x hx
  · intro x hx
    rcases List.mem_append.1 hx with hx | hx
    · exact h.rb x hx
    · exact h.rt x hx
theorem Fit.besta (h : Fit a b known t i) (ht : t.length ≤ 5) : poker_best_m (a ++ t) = some (FF (a ++ t) 5 [] 0 (-1, [])) ∧ poker_best_m (b ++ t) = some (FF (b ++ t) 5 [] 0 (-1, [])) ∧ gameroomref_BestFive_m (a ++ t) = some (FF (a ++ t) 5 [] 0 (-1, [])) ∧ gameroomref_BestFive_m (b ++ t) = some (FF (b ++ t) 5 [] 0 (-1, [])) := by
  have la : (a ++ t).length ≤ 1000 := by rw [List.length_append, h.la]; omega
  have lb : (b ++ t).length ≤ 1000 := by rw [List.length_append, h.lb]; omega
  exact ⟨best_p la h.range.1 h.na, best_p lb h.range.2 h.nb, best_r la h.range.1 h.na, best_r lb h.range.2 h.nb⟩

theorem Zs_nonneg {f : List Int → Int} (hf : ∀ t, 0 ≤ f t) : ∀ (k : Nat) (t l : List Int), 0 ≤ Zs known f k t l
  | 0, t, l => by rw [Zs]; exact hf t
  | k + 1, t, [] => by rw [Zs]; omega
  | k + 1, t, x :: l => by
    rw [Zs]
    have := Zs_nonneg hf k (t ++ [x]) l
    have := Zs_nonneg hf (k + 1) t l
    omega
termination_by k _ l => (k, l.length)

theorem fill_p (hkn : known.length ≤ 1000) : ∀ (k : Nat) (t : List Int) (i : Nat) (all wins ties : Int), t.length + k = 5 → i ≤ 52 → Fit a b known t i → 0 ≤ all → 0 ≤ wins → 0 ≤ ties →
    all + Zs known (fun _ => 1) k t (leftFrom known (52 - i) i) ≤ 1000000 → wins + Zs known (win a b) k t (leftFrom known (52 - i) i) ≤ 1000000 → ties + Zs known (tie a b) k t (leftFrom known (52 - i) i) ≤ 1000000 →
    poker_Showdown_1_mF (k + 1) (i : Int) t a b all wins ties known = some (all + Zs known (fun _ => 1) k t (leftFrom known (52 - i) i), wins + Zs known (win a b) k t (leftFrom known (52 - i) i), ties + Zs known (tie a b) k t (leftFrom known (52 - i) i)) := by
  have z1 : ∀ k t l, 0 ≤ Zs known (fun _ => 1) k t l := Zs_nonneg (fun _ => by omega)
  have z2 : ∀ k t l, 0 ≤ Zs known (win a b) k t l := Zs_nonneg (fun t => (win_bd a b t).1)
  have z3 : ∀ k t l, 0 ≤ Zs known (tie a b) k t l := Zs_nonneg (fun t => (tie_bd a b t).1)
  intro k
  induction k with
  | zero =>
    intro t i all wins ties ht hi hF h0 h1 h2 b0 b1 b2
    show poker_Showdown_1_B _ _ _ _ _ _ _ _ _ = _
    obtain ⟨e1, e2, _, _⟩ := hF.besta (by omega)
    have la := hF.la
    have lb := hF.lb
    rw [Zs] at b0 b1 b2
    unfold poker_Showdown_1_B
    rw [if_pos (by rw [beq_iff_eq]; omega), concat_ok _ (by simp) (by simp [tot]; omega), Option.bind_some]
    have f1 : [a, t].flatten = a ++ t := by simp
    have f2 : [b, t].flatten = b ++ t := by simp
    rw [f1, e1, Option.bind_some, concat_ok _ (by simp) (by simp [tot]; omega), Option.bind_some, f2, e2, Option.bind_some]
    rw [Zs, Zs, Zs]
    have ew : ∀ x, (FF x 5 [] 0 (-1, [])).1 = best5 x := fun _ => rfl
    rw [ew, ew]
    unfold poker_Showdown_1_J3
    unfold win at b1 ⊢
    unfold tie at b2 ⊢
    by_cases hw : best5 (b ++ t) < best5 (a ++ t)
    · rw [if_pos (decide_eq_true hw), if_pos hw, if_neg (by omega), Int.add_zero]
      rw [if_pos hw] at b1
      rw [w64_of (by omega), w64_of (by omega)]
    · rw [if_neg (by simpa using hw), if_neg hw, Int.add_zero]
      by_cases he : best5 (a ++ t) = best5 (b ++ t)
      · rw [if_pos (by simpa using he), if_pos he]
        rw [if_pos he] at b2
        rw [w64_of (by omega), w64_of (by omega)]
      · rw [if_neg (by simpa using he), if_neg he, Int.add_zero, w64_of (by omega)]
  | succ k ih =>
    intro t i all wins ties ht hi hF h0 h1 h2 b0 b1 b2
    show poker_Showdown_1_B _ _ _ _ _ _ _ _ _ = _
    unfold poker_Showdown_1_B
    rw [if_neg (by rw [beq_iff_eq]; omega)]
    unfold poker_Showdown_1_J2
    have key : ∀ (m j : Nat) (all wins ties : Int), i ≤ j → j + m = 52 → 0 ≤ all → 0 ≤ wins → 0 ≤ ties → all + Zs known (fun _ => 1) (k + 1) t (leftFrom known m j) ≤ 1000000 → wins + Zs known (win a b) (k + 1) t (leftFrom known m j) ≤ 1000000 → ties + Zs known (tie a b) (k + 1) t (leftFrom known m j) ≤ 1000000 →
        loop (poker_Showdown_1_L1 (poker_Showdown_1_mF (k + 1)) t a b known) (all, wins, ties, (j : Int)) = some (all + Zs known (fun _ => 1) (k + 1) t (leftFrom known m j), wins + Zs known (win a b) (k + 1) t (leftFrom known m j), ties + Zs known (tie a b) (k + 1) t (leftFrom known m j)) := by
      intro m
      induction m with
      | zero =>
        intro j all wins ties hij hj h0 h1 h2 b0 b1 b2
        refine loop_done ?_
        simp only [poker_Showdown_1_L1]
        rw [if_neg (by rw [decide_eq_true_eq]; omega)]
        unfold leftFrom
        rw [Zs, Zs, Zs, Int.add_zero, Int.add_zero, Int.add_zero]
      | succ m ihm =>
        intro j all wins ties hij hj h0 h1 h2 b0 b1 b2
        have ej : w64 ((j : Int) + 1) = ((j + 1 : Nat) : Int) := by rw [w64_of (by omega)]; rfl
        by_cases hk : (j : Int) ∈ known
        · have el : leftFrom known (m + 1) j = leftFrom known m (j + 1) := by rw [leftFrom, if_pos hk]
          rw [el] at b0 b1 b2 ⊢
          refine loop_next' (s' := (all, wins, ties, ((j + 1 : Nat) : Int))) ?_ (ihm (j + 1) all wins ties (by omega) (by omega) h0 h1 h2 b0 b1 b2)
          simp only [poker_Showdown_1_L1]
          rw [if_pos (decide_eq_true (by omega))]
          unfold poker_Showdown_1_J4 poker_Showdown_1_J5
          rw [contains_p _ (by omega), Option.bind_some, if_neg (by simp [hk]), ej]
        · have el : leftFrom known (m + 1) j = (j : Int) :: leftFrom known m (j + 1) := by rw [leftFrom, if_neg hk]
          rw [el, Zs] at b0 b1 b2
          rw [el, Zs, Zs, Zs]
          have e52 : 52 - (j + 1) = m := by omega
          have hz1 := z1 (k + 1) t (leftFrom known m (j + 1))
          have hz2 := z2 (k + 1) t (leftFrom known m (j + 1))
          have hz3 := z3 (k + 1) t (leftFrom known m (j + 1))
          have hy1 := z1 k (t ++ [(j : Int)]) (leftFrom known m (j + 1))
          have hy2 := z2 k (t ++ [(j : Int)]) (leftFrom known m (j + 1))
          have hy3 := z3 k (t ++ [(j : Int)]) (leftFrom known m (j + 1))
          have hrec := ih (t ++ [(j : Int)]) (j + 1) all wins ties (by simp; omega) (by omega) (hF.step hij (by omega) hk) h0 h1 h2 (by rw [e52]; omega) (by rw [e52]; omega) (by rw [e52]; omega)
          rw [e52] at hrec
          rw [← Int.add_assoc, ← Int.add_assoc, ← Int.add_assoc]
          refine loop_next' (s' := (all + Zs known (fun _ => 1) k (t ++ [(j : Int)]) (leftFrom known m (j + 1)), wins + Zs known (win a b) k (t ++ [(j : Int)]) (leftFrom known m (j + 1)), ties + Zs known (tie a b) k (t ++ [(j : Int)]) (leftFrom known m (j + 1)), ((j + 1 : Nat) : Int))) ?_
            (ihm (j + 1) _ _ _ (by omega) (by omega) (by omega) (by omega) (by omega) (by omega) (by omega) (by omega))
          simp only [poker_Showdown_1_L1]
          rw [if_pos (decide_eq_true (by omega))]
          unfold poker_Showdown_1_J4 poker_Showdown_1_J5
          rw [contains_p _ (by omega), Option.bind_some, if_pos (by simp [hk])]
          unfold slices_Clone_m slices_Clone_J1
          rw [asrt_pos (by unfold bigN; omega), Option.bind_some, asrt_pos (by unfold bigN; simp; omega), List.nil_append, ej, hrec, Option.bind_some]
    have := key (52 - i) i all wins ties (Nat.le_refl _) (by omega) h0 h1 h2 b0 b1 b2
    rw [this]
    rfl
end
end Go.Proofs.Ytoickcchcjehdaa
