/-
  MagicTells: sides; sums along lines.
-/
import Derived.Test.YtoickcchcjehdaaNMT
import Derived.Test.YtoickcchcjehdaaLibN
import Derived.Test.YtoickcchcjehdaaLibX
namespace Go.Proofs.Ytoickcchcjehdaa
open Go Go.GL

/-- A loop that ends early at the first bad round. -/
theorem loop_find {S R : Type} {step : S → Option (St S R)} {f : Nat → S} {n : Nat} {bad : Nat → Bool} {out rd : R} (h : ∀ i, i < n → step (f i) = if bad i then some (.done out) else some (.next (f (i + 1)))) (hd : step (f n) = some (.done rd)) : loop step (f 0) = some (if (List.range n).any bad then out else rd) := by
  have key : ∀ m i, i + m = n → loop step (f i) = some (if (List.range' i m).any bad then out else rd) := by
    intro m
    induction m with
    | zero => intro i hi
              obtain rfl : i = n := by omega
              simpa using loop_done hd
    | succ m ih => intro i hi
                   have hs := h i (by omega)
                   rw [List.range'_succ, List.any_cons]
                   cases hb : bad i with
                   | true =>
                     rw [hb, if_pos rfl] at hs
                     rw [loop_done hs]; simp
                   | false =>
                     rw [hb, if_neg (by decide)] at hs
                     rw [loop_next hs rfl (by rw [ih (i + 1) (by omega)]; rfl), ih (i + 1) (by omega), Bool.false_or]
  rw [key n 0 (by omega), List.range_eq_range']

theorem sq_lt {i n : Nat} (h : i < n) : i * i < n * n := Nat.mul_self_lt_mul_self h
theorem sq_le {i n : Nat} (h : i ≤ n) : i * i ≤ n * n := Nat.mul_self_le_mul_self h
theorem w64_sq {i : Nat} (h : i ≤ 5000000) : w64 ((i : Int) * (i : Int)) = ((i * i : Nat) : Int) := by
  have := sq_le h
  rw [show (i : Int) * (i : Int) = ((i * i : Nat) : Int) by push_cast; rfl]
  exact w64_nat (by omega)

/-- The first number whose square is no less. -/
theorem least_sq (L : Nat) : ∀ m, (∃ n, 1 ≤ n ∧ n ≤ m ∧ L ≤ n * n ∧ ∀ j, 1 ≤ j → j < n → j * j < L) ∨ ∀ j, 1 ≤ j → j ≤ m → j * j < L := by
  intro m
  induction m with
  | zero => exact .inr fun j h1 h2 => by omega
  | succ m ih =>
    rcases ih with ⟨n, h1, h2, h3, h4⟩ | h
    · exact .inl ⟨n, h1, by omega, h3, h4⟩
    · by_cases e : L ≤ (m + 1) * (m + 1)
      · exact .inl ⟨m + 1, by omega, by omega, e, fun j a b => h j a (by omega)⟩
      · exact .inr fun j a b => by
          by_cases e2 : j = m + 1
          · subst e2; omega
          · exact h j a (by omega)

theorem refSide {l : List Int} (hl : l.length ≤ 17592186043904) : ∃ n : Nat, 1 ≤ n ∧ l.length ≤ n * n ∧ (∀ j, 1 ≤ j → j < n → j * j < l.length) ∧ gameroomref_MagicSide_m l = some (if n * n = l.length ∧ n ≤ 12 then (n : Int) else 0) := by
  obtain ⟨n, h1, h2, h3, h4⟩ : ∃ n, 1 ≤ n ∧ n ≤ 4194304 ∧ l.length ≤ n * n ∧ ∀ j, 1 ≤ j → j < n → j * j < l.length := by
    rcases least_sq l.length 4194304 with h | h
    · exact h
    · have := h 4194304 (by omega) (Nat.le_refl _)
      omega
  refine ⟨n, h1, h3, h4, ?_⟩
  unfold gameroomref_MagicSide_m
  rw [loop_from (s0 := (1 : Int)) (r := (n : Int)) (fun i => ((i + 1 : Nat) : Int)) (n - 1) rfl (fun i hi => ?_) ?_, Option.bind_some]
  · unfold gameroomref_MagicSide_K1 gameroomref_MagicSide_J1 gameroomref_MagicSide_J3
    dsimp only
    rw [w64_sq (by omega)]
    by_cases e : n * n = l.length ∧ n ≤ 12
    · rw [if_neg (by simp; omega), if_pos e]
    · rw [if_pos (by simp; omega), if_neg e]
  · unfold gameroomref_MagicSide_L1
    dsimp only
    rw [show n - 1 + 1 = n by omega, w64_sq (by omega), if_neg (by rw [decide_eq_true_eq]; omega)]
  · unfold gameroomref_MagicSide_L1 gameroomref_MagicSide_J2
    dsimp only
    have := h4 (i + 1) (by omega) (by omega)
    rw [w64_sq (by omega), if_pos (by rw [decide_eq_true_eq]; omega), w64_of (by omega)]
    rfl

theorem progSide {l : List Int} : (∃ n : Nat, 1 ≤ n ∧ n ≤ 12 ∧ n * n = l.length ∧ magic_side_m l = some (n : Int)) ∨ ((∀ n : Nat, 1 ≤ n → n ≤ 12 → n * n ≠ l.length) ∧ magic_side_m l = some 0) := by
  by_cases h : ∃ n : Nat, 1 ≤ n ∧ n ≤ 12 ∧ n * n = l.length
  · obtain ⟨n, h1, h2, h3⟩ := h
    refine .inl ⟨n, h1, h2, h3, ?_⟩
    unfold magic_side_m
    rw [loop_from (s0 := (1 : Int)) (r := (Fl.ret (n : Int) : Fl Unit Int)) (fun i => ((i + 1 : Nat) : Int)) (n - 1) rfl (fun i hi => ?_) ?_, Option.bind_some]
    · rfl
    · unfold magic_side_L1 magic_side_J2
      dsimp only
      rw [show n - 1 + 1 = n by omega, if_pos (by rw [decide_eq_true_eq]; omega), w64_sq (by omega), if_pos (by rw [beq_iff_eq]; omega)]
    · unfold magic_side_L1 magic_side_J2 magic_side_J3
      dsimp only
      have := sq_lt (i := i + 1) (n := n) (by omega)
      rw [if_pos (by rw [decide_eq_true_eq]; omega), w64_sq (by omega), if_neg (by rw [beq_iff_eq]; omega), w64_of (by omega)]
      rfl
  · refine .inr ⟨fun n a b c => h ⟨n, a, b, c⟩, ?_⟩
    unfold magic_side_m
    rw [loop_from (s0 := (1 : Int)) (r := (Fl.go () : Fl Unit Int)) (fun i => ((i + 1 : Nat) : Int)) 12 rfl (fun i hi => ?_) ?_, Option.bind_some]
    · rfl
    · rfl
    · unfold magic_side_L1 magic_side_J2 magic_side_J3
      dsimp only
      have : (i + 1) * (i + 1) ≠ l.length := fun e => h ⟨i + 1, by omega, by omega, e⟩
      rw [if_pos (by rw [decide_eq_true_eq]; omega), w64_sq (by omega), if_neg (by rw [beq_iff_eq]; omega), w64_of (by omega)]
      rfl


/-- Both tell one side. -/
theorem sides {l : List Int} (hl : l.length ≤ 17592186043904) : (∃ n : Nat, 1 ≤ n ∧ n ≤ 12 ∧ n * n = l.length ∧ magic_side_m l = some (n : Int) ∧ gameroomref_MagicSide_m l = some (n : Int)) ∨ (magic_side_m l = some 0 ∧ gameroomref_MagicSide_m l = some 0) := by
  obtain ⟨k, a1, a2, a3, a4⟩ := refSide hl
  rcases progSide (l := l) with ⟨n, h1, h2, h3, h4⟩ | ⟨h1, h2⟩
  · refine .inl ⟨n, h1, h2, h3, h4, ?_⟩
    have e : k = n := by
      rcases Nat.lt_trichotomy k n with h | h | h
      · have := sq_lt h; omega
      · exact h
      · have := a3 n h1 h; omega
    rw [a4, e, if_pos ⟨h3, h2⟩]
  · refine .inr ⟨h2, ?_⟩
    rw [a4, if_neg (fun h => h1 k a1 h.2 h.1)]

/-- A sum along a line, as the machine adds. -/
def sW (l : List Int) (g : Nat → Nat) : Nat → Int
  | 0 => 0
  | i + 1 => w64 (sW l g i + geti l (g i : Int))
theorem sW_congr {l : List Int} {g h : Nat → Nat} : ∀ {n : Nat}, (∀ i, i < n → g i = h i) → sW l g n = sW l h n
  | 0, _ => rfl
  | n + 1, e => by
    show w64 (sW l g n + _) = w64 (sW l h n + _)
    rw [sW_congr (n := n) (fun i hi => e i (by omega)), e n (by omega)]
theorem sum_loop {step : Int × Int → Option (St (Int × Int) Int)} {l : List Int} {g : Nat → Nat} {n : Nat} (hs : ∀ (i : Nat) s, i < n → step (s, (i : Int)) = some (.next (w64 (s + geti l (g i : Int)), (i : Int) + 1))) (he : ∀ s, step (s, (n : Int)) = some (.done s)) : loop step (0, 0) = some (sW l g n) :=
  loop_from (fun i => (sW l g i, (i : Int))) n rfl (fun i hi => by rw [hs i _ hi]; rfl) (he _)
theorem sum2_loop {step : Int × Int × Int → Option (St (Int × Int × Int) (Int × Int))} {l : List Int} {g h : Nat → Nat} {n : Nat} (hs : ∀ (i : Nat) s t, i < n → step (s, t, (i : Int)) = some (.next (w64 (s + geti l (g i : Int)), w64 (t + geti l (h i : Int)), (i : Int) + 1))) (he : ∀ s t, step (s, t, (n : Int)) = some (.done (s, t))) : loop step (0, 0, 0) = some (sW l g n, sW l h n) :=
  loop_from (fun i => (sW l g i, sW l h i, (i : Int))) n rfl (fun i hi => by rw [hs i _ _ hi]; rfl) (he _ _)

theorem w64_w64_add (x y : Int) : w64 (w64 x + y) = w64 (x + y) := by
  unfold w64 IntKind.wrap
  simp only [IntKind.signed, IntKind.bits, Bool.true_and, decide_eq_true_eq, ge_iff_le]
  split <;> split <;> split <;> omega
/-- The sum is the same from behind. -/
theorem sW_sum (l : List Int) (g : Nat → Nat) : ∀ n, sW l g n = w64 (((List.range n).map fun i => geti l (g i : Int)).sum)
  | 0 => rfl
  | n + 1 => by
    show w64 (sW l g n + _) = _
    rw [sW_sum l g n, w64_w64_add, List.range_succ, List.map_append, List.sum_append]
    simp
theorem sW_rev (l : List Int) (g : Nat → Nat) (n : Nat) : sW l (fun i => g (n - 1 - i)) n = sW l g n := by
  rw [sW_sum, sW_sum]
  congr 1
  have e : (List.range n).map (fun i => geti l (g (n - 1 - i) : Int)) = ((List.range n).map fun i => geti l (g i : Int)).reverse := by
    apply List.ext_getElem
    · simp
    · intro i h1 h2
      simp at h1 h2 ⊢
  rw [e, List.sum_reverse]
end Go.Proofs.Ytoickcchcjehdaa
