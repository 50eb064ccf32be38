/-
  Hands by their ranks: the tree of rows of ranks, and one number that tells all.
-/
import Derived.Test.YtnplejebgbdfpaaPCb
namespace Go.Proofs.Ytnplejebgbdfpaa
open Go Go.GL

def bigC : Nat := 10 ^ 100
def basC : Nat := 1000000000
def codeP (P : List (Nat × Nat)) : Nat := (P.map (fun x => x.2 * basC ^ x.1)).sum
def codeO : Option (List (Nat × Nat)) → Nat
  | none => bigC
  | some P => codeP P
def KT : Nat → List Nat → Nat → Nat
  | 0, ranks, _ => codeO (leafO ranks)
  | m + 1, ranks, high => sumN (fun r => KT m (ranks ++ [r]) r) (high + 1)
def goP (f : Nat → List (Nat × Nat)) : Nat → List (Nat × Nat)
  | 0 => []
  | j + 1 => f j ++ goP f j
def PT : Nat → List Nat → Nat → List (Nat × Nat)
  | 0, ranks, _ => (leafO ranks).getD []
  | m + 1, ranks, high => goP (fun r => PT m (ranks ++ [r]) r) (high + 1)

theorem codeP_app (P Q : List (Nat × Nat)) : codeP (P ++ Q) = codeP P + codeP Q := by
  unfold codeP
  rw [List.map_append, List.sum_append]
theorem goP_code (f : Nat → List (Nat × Nat)) : ∀ n, codeP (goP f n) = sumN (fun r => codeP (f r)) n
  | 0 => rfl
  | n + 1 => by
    unfold goP
    rw [codeP_app, goP_code f n]
    simp only [sumN]; omega
theorem sumN_part {f : Nat → Nat} : ∀ n i, i < n → f i ≤ sumN f n
  | 0, i, h => by omega
  | n + 1, i, h => by
    by_cases e : i = n
    · subst e; simp only [sumN]; omega
    · have := sumN_part (f := f) n i (by omega)
      simp only [sumN]; omega

theorem KT_code : ∀ (m : Nat) (ranks : List Nat) (high : Nat), KT m ranks high < bigC → KT m ranks high = codeP (PT m ranks high)
  | 0, ranks, high, h => by
    unfold KT at h ⊢
    unfold PT
    cases hl : leafO ranks with
    | none => rw [hl] at h; exact absurd h (Nat.lt_irrefl _)
    | some P => rfl
  | m + 1, ranks, high, h => by
    unfold KT at h ⊢
    unfold PT
    rw [goP_code]
    refine sumN_congr fun i hi => ?_
    exact KT_code m _ _ (Nat.lt_of_le_of_lt (sumN_part (f := fun r => KT m (ranks ++ [r]) r) _ i hi) h)

theorem addP_app (out : List Int) (P Q : List (Nat × Nat)) : addP out (P ++ Q) = addP (addP out P) Q := by
  unfold addP; rw [List.foldl_append]
theorem addP_len : ∀ (P : List (Nat × Nat)) (out : List Int), (addP out P).length = out.length
  | [], _ => rfl
  | x :: P, out => by
    have := addP_len P (out.set x.1 (w64 (geti out (x.1 : Int) + (x.2 : Int))))
    unfold addP at this ⊢
    rw [List.foldl_cons, this, List.length_set]

theorem goP_mem {f : Nat → List (Nat × Nat)} {x : Nat × Nat} : ∀ n, x ∈ goP f n → ∃ i, i < n ∧ x ∈ f i
  | 0, h => by cases h
  | n + 1, h => by
    unfold goP at h
    rcases List.mem_append.1 h with h | h
    · exact ⟨n, by omega, h⟩
    · obtain ⟨i, h1, h2⟩ := goP_mem n h
      exact ⟨i, by omega, h2⟩
theorem goP_len {f : Nat → List (Nat × Nat)} {k : Nat} : ∀ n, (∀ i, i < n → (f i).length ≤ k) → (goP f n).length ≤ n * k
  | 0, _ => by simp [goP]
  | n + 1, h => by
    have h1 := goP_len n (fun i hi => h i (by omega))
    have h2 := h n (by omega)
    unfold goP
    rw [List.length_append, Nat.add_mul]
    omega

theorem PT_mem : ∀ (m : Nat) (ranks : List Nat) (high : Nat), ∀ x ∈ PT m ranks high, x.1 < 9 ∧ x.2 ≤ 1024
  | 0, ranks, high, x, h => by
    unfold PT at h
    cases hl : leafO ranks with
    | none => rw [hl] at h; cases h
    | some P =>
      rw [hl] at h
      exact (leaf_r (out := List.replicate 9 0) hl rfl).2.2 x h
  | m + 1, ranks, high, x, h => by
    unfold PT at h
    obtain ⟨i, h1, h2⟩ := goP_mem _ h
    exact PT_mem m _ _ x h2
theorem PT_len : ∀ (m : Nat) (ranks : List Nat) (high : Nat), high ≤ 12 → (PT m ranks high).length ≤ 2 * 13 ^ m
  | 0, ranks, high, _ => by
    unfold PT
    cases hl : leafO ranks with
    | none => simp
    | some P => simpa using (leaf_r (out := List.replicate 9 0) hl rfl).2.1
  | m + 1, ranks, high, hh => by
    unfold PT
    have := goP_len (f := fun r => PT m (ranks ++ [r]) r) (k := 2 * 13 ^ m) (high + 1) (fun i hi => PT_len m _ _ (by omega))
    refine Nat.le_trans this ?_
    rw [Nat.pow_succ]
    calc (high + 1) * (2 * 13 ^ m) ≤ 13 * (2 * 13 ^ m) := Nat.mul_le_mul_right _ (by omega)
      _ = 2 * (13 ^ m * 13) := by rw [Nat.mul_comm 13, Nat.mul_assoc]

/-- The document's tree. -/
theorem tree_r (at1 : Int) : ∀ (m : Nat) (ranks : List Nat) (high : Nat) (out : List Int), high ≤ 12 → ranks.length + m = 5 → (ranks.length = 0 → high = 12) → (0 < ranks.length → geti (rkI ranks) ((ranks.length : Int) - 1) = high) → KT m ranks high < bigC → out.length = 9 →
    gameroomref_countRanks_2_mF (m + 1) (rkI ranks) at1 out = some (addP out (PT m ranks high))
  | 0, ranks, high, out, _, hl, _, _, hK, ho => by
    have hrl : (rkI ranks).length = ranks.length := by unfold rkI; rw [List.length_map]
    unfold gameroomref_countRanks_2_mF gameroomref_countRanks_2_B
    rw [if_neg (by rw [decide_eq_true_eq]; omega)]
    unfold KT at hK
    unfold PT
    cases hlf : leafO ranks with
    | none => rw [hlf] at hK; exact absurd hK (Nat.lt_irrefl _)
    | some P => exact (leaf_r hlf ho).1
  | m + 1, ranks, high, out, hh, hl, h0, h1, hK, ho => by
    have hrl : (rkI ranks).length = ranks.length := by unfold rkI; rw [List.length_map]
    have main : gameroomref_countRanks_2_J3 (gameroomref_countRanks_2_mF (m + 1)) (rkI ranks) at1 out (high : Int) = some (addP out (PT (m + 1) ranks high)) := by
      unfold gameroomref_countRanks_2_J3
      have key : ∀ (j : Nat) (o : List Int), j ≤ high + 1 → o.length = 9 → loop (gameroomref_countRanks_2_L1 (gameroomref_countRanks_2_mF (m + 1)) (rkI ranks) at1) (o, (j : Int) - 1) = some (addP o (goP (fun r => PT m (ranks ++ [r]) r) j)) := by
        intro j
        induction j with
        | zero =>
          intro o _ _
          refine loop_done ?_
          simp only [gameroomref_countRanks_2_L1]
          rw [if_neg (by decide)]
          rfl
        | succ j ih =>
          intro o hj hol
          unfold KT at hK
          have hKj : KT m (ranks ++ [j]) j < bigC := Nat.lt_of_le_of_lt (sumN_part (f := fun r => KT m (ranks ++ [r]) r) _ j (by omega)) hK
          have hr := tree_r at1 m (ranks ++ [j]) j o (by omega) (by rw [List.length_append, List.length_singleton]; omega) (fun h => by rw [List.length_append, List.length_singleton] at h; omega) (fun _ => by
            rw [List.length_append, List.length_singleton, show ((ranks.length + 1 : Nat) : Int) - 1 = (ranks.length : Int) by omega]
            rw [rkI_get (by rw [List.length_append, List.length_singleton]; omega), List.getD_eq_getElem?_getD, List.getElem?_append_right (Nat.le_refl _)]
            simp) hKj hol
          have ih' := ih (addP o (PT m (ranks ++ [j]) j)) (by omega) (by rw [addP_len]; exact hol)
          have e : goP (fun r => PT m (ranks ++ [r]) r) (j + 1) = PT m (ranks ++ [j]) j ++ goP (fun r => PT m (ranks ++ [r]) r) j := rfl
          rw [e, addP_app]
          refine loop_next' ?_ ih'
          simp only [gameroomref_countRanks_2_L1]
          rw [if_pos (by rw [decide_eq_true_eq]; omega)]
          unfold gameroomref_countRanks_2_J5 gameroomref_countRanks_2_J6
          have er : rkI ranks ++ [(j : Int)] = rkI (ranks ++ [j]) := by unfold rkI; rw [List.map_append]; rfl
          rw [List.nil_append, asrt_pos (by unfold bigN; omega), asrt_pos (by unfold bigN; omega), show ((j + 1 : Nat) : Int) - 1 = (j : Int) by omega, er, hr, Option.bind_some, w64_of (by omega)]
      have k := key (high + 1) out (Nat.le_refl _) ho
      rw [show ((high + 1 : Nat) : Int) - 1 = (high : Int) by omega] at k
      rw [k, Option.bind_some]
      rfl
    unfold gameroomref_countRanks_2_mF gameroomref_countRanks_2_B
    rw [if_pos (by rw [decide_eq_true_eq]; omega)]
    by_cases q : 0 < ranks.length
    · rw [if_pos (by rw [decide_eq_true_eq]; omega), w64_of (by omega), asrt_pos (by omega), hrl, h1 q]
      exact main
    · rw [if_neg (by rw [decide_eq_true_eq]; omega)]
      have := h0 (by omega)
      subst this
      exact main

/-! What one class gets -/
def T9 (c : Nat) (P : List (Nat × Nat)) : Nat := ((P.filter (fun x => x.1 == c)).map (fun x => x.2)).sum
theorem T9_cons (c : Nat) (x : Nat × Nat) (P : List (Nat × Nat)) : T9 c (x :: P) = (if x.1 = c then x.2 else 0) + T9 c P := by
  unfold T9
  rw [List.filter_cons]
  by_cases h : x.1 = c
  · rw [if_pos (by rw [beq_iff_eq]; exact h), if_pos h, List.map_cons, List.sum_cons]
  · rw [if_neg (by rw [beq_iff_eq]; exact h), if_neg h, Nat.zero_add]
theorem T9_le (c : Nat) : ∀ P : List (Nat × Nat), (∀ x ∈ P, x.2 ≤ 1024) → T9 c P ≤ 1024 * P.length
  | [], _ => by simp [T9]
  | x :: P, h => by
    have h1 := T9_le c P (fun y hy => h y (List.mem_cons_of_mem _ hy))
    have h2 := h x (List.mem_cons_self ..)
    rw [T9_cons, List.length_cons]
    split <;> omega
def horn (T : Nat → Nat) : Nat → Nat → Nat
  | _, 0 => 0
  | c, n + 1 => T c + basC * horn T (c + 1) n
theorem horn_congr {T U : Nat → Nat} : ∀ n c, (∀ d, c ≤ d → d < c + n → T d = U d) → horn T c n = horn U c n
  | 0, _, _ => rfl
  | n + 1, c, h => by
    unfold horn
    rw [h c (by omega) (by omega), horn_congr n (c + 1) (fun d h1 h2 => h d (by omega) (by omega))]
theorem horn_add (T U : Nat → Nat) : ∀ n c, horn (fun d => T d + U d) c n = horn T c n + horn U c n
  | 0, _ => rfl
  | n + 1, c => by
    unfold horn
    rw [horn_add T U n (c + 1), Nat.mul_add]
    omega
theorem horn_zero : ∀ n c, horn (fun _ => 0) c n = 0
  | 0, _ => rfl
  | n + 1, c => by
    unfold horn
    rw [horn_zero n (c + 1), Nat.mul_zero]
theorem horn_one (a k : Nat) : ∀ n c, c ≤ k → k < c + n → horn (fun d => if k = d then a else 0) c n = a * basC ^ (k - c)
  | 0, c, h1, h2 => by omega
  | n + 1, c, h1, h2 => by
    unfold horn
    by_cases e : k = c
    · subst e
      rw [if_pos rfl, horn_congr n (k + 1) (U := fun _ => 0) (fun d h3 h4 => by rw [if_neg (by omega)]), horn_zero]
      simp
    · rw [if_neg e, horn_one a k n (c + 1) (by omega) (by omega), show k - c = (k - (c + 1)) + 1 by omega, Nat.pow_succ, Nat.zero_add, Nat.mul_left_comm]
      rw [Nat.mul_comm basC]
theorem code_horn : ∀ P : List (Nat × Nat), (∀ x ∈ P, x.1 < 9) → codeP P = horn (fun c => T9 c P) 0 9
  | [], _ => by
    have : horn (fun c => T9 c []) 0 9 = horn (fun _ => 0) 0 9 := horn_congr _ _ fun d _ _ => rfl
    rw [this, horn_zero]
    rfl
  | x :: P, h => by
    have ih := code_horn P (fun y hy => h y (List.mem_cons_of_mem _ hy))
    have e : horn (fun c => T9 c (x :: P)) 0 9 = horn (fun c => (if x.1 = c then x.2 else 0) + T9 c P) 0 9 := horn_congr _ _ fun d _ _ => T9_cons d x P
    rw [e, horn_add, horn_one _ _ 9 0 (by omega) (by have := h x (List.mem_cons_self ..); omega), ← ih, Nat.sub_zero]
    unfold codeP
    rw [List.map_cons, List.sum_cons]
theorem horn_inj {T U : Nat → Nat} : ∀ n c, (∀ d, T d < basC) → (∀ d, U d < basC) → horn T c n = horn U c n → ∀ d, c ≤ d → d < c + n → T d = U d
  | 0, c, _, _, _, d, h1, h2 => by omega
  | n + 1, c, hT, hU, h, d, h1, h2 => by
    unfold horn at h
    have a := hT c
    have b := hU c
    have e1 : T c = U c := by
      have := congrArg (· % basC) h
      simp only [Nat.add_mul_mod_self_left] at this
      rwa [Nat.mod_eq_of_lt a, Nat.mod_eq_of_lt b] at this
    by_cases e : d = c
    · rw [e]; exact e1
    · rw [e1] at h
      have h3 : basC * horn T (c + 1) n = basC * horn U (c + 1) n := by omega
      exact horn_inj n (c + 1) hT hU (Nat.eq_of_mul_eq_mul_left (by decide) h3) d (by omega) (by omega)

theorem add_geti (c : Nat) : ∀ (P : List (Nat × Nat)) (out : List Int), out.length = 9 → (∀ x ∈ P, x.1 < 9) → c < 9 → (∀ d : Nat, d < 9 → 0 ≤ geti out (d : Int) ∧ geti out (d : Int) + T9 d P < 4611686018427387904) → geti (addP out P) (c : Int) = geti out (c : Int) + T9 c P
  | [], out, _, _, _, _ => by simp [addP, T9]
  | x :: P, out, hl, hx, hc, hb => by
    have h1 := hx x (List.mem_cons_self ..)
    have hset : ∀ d : Nat, geti (out.set x.1 (w64 (geti out (x.1 : Int) + (x.2 : Int)))) (d : Int) = if d = x.1 then w64 (geti out (x.1 : Int) + (x.2 : Int)) else geti out (d : Int) := by
      intro d
      rw [geti_set' (by omega) (by omega)]
      by_cases e : d = x.1
      · subst e; simp
      · rw [if_neg (by omega), if_neg e]
    have hbx := hb x.1 h1
    rw [T9_cons, if_pos rfl] at hbx
    have hw : w64 (geti out (x.1 : Int) + (x.2 : Int)) = geti out (x.1 : Int) + (x.2 : Int) := w64_of (by omega)
    have ih := add_geti c P (out.set x.1 (w64 (geti out (x.1 : Int) + (x.2 : Int)))) (by rw [List.length_set]; exact hl) (fun y hy => hx y (List.mem_cons_of_mem _ hy)) hc (fun d hd => by
      rw [hset, hw]
      have := hb d hd
      rw [T9_cons] at this
      by_cases e : d = x.1
      · subst e
        rw [if_pos rfl] at this ⊢
        omega
      · rw [if_neg (fun h => e h.symm)] at this
        rw [if_neg e]
        omega)
    have e : addP out (x :: P) = addP (out.set x.1 (w64 (geti out (x.1 : Int) + (x.2 : Int)))) P := rfl
    rw [e, ih, hset, hw, T9_cons]
    by_cases e : c = x.1
    · subst e
      rw [if_pos rfl, if_pos rfl]
      omega
    · rw [if_neg e, if_neg (fun h => e h.symm)]
      omega
end Go.Proofs.Ytnplejebgbdfpaa
