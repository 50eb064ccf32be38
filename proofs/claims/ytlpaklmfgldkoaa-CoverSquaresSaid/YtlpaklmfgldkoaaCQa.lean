/-
  Queens: both counts, row by row.
-/
import Derived.Test.YtlpaklmfgldkoaaNCS
import Derived.Test.YtlpaklmfgldkoaaLibX
import Derived.Test.YtlpaklmfgldkoaaLibY
import Derived.Test.YtlpaklmfgldkoaaLibN
import Derived.Test.YtlpaklmfgldkoaaLibBt
namespace Go.Proofs.Ytlpaklmfgldkoaa
open Go Go.GL

/-- May a queen stand in column x of the next row? -/
def freeQ (c : List Int) (x : Nat) : Bool := (List.range c.length).all fun i => decide (geti c (i : Int) ≠ (x : Int)) && decide ((geti c (i : Int) - (x : Int)).natAbs ≠ c.length - i)

/-- Ways to go on. -/
def qn (n : Nat) : Nat → List Int → Nat
  | 0, _ => 1
  | m + 1, c => sumN (fun x => if freeQ c x then qn n m (c ++ [(x : Int)]) else 0) n

theorem sumN_bd {f : Nat → Nat} {b : Nat} (h : ∀ k, f k ≤ b) : ∀ n, sumN f n ≤ n * b
  | 0 => by simp [sumN]
  | n + 1 => by
    have := sumN_bd h n
    have := h n
    simp only [sumN, Nat.succ_mul]
    omega

theorem qn_le {n : Nat} (hn : n ≤ 8) : ∀ m c, qn n m c ≤ 8 ^ m
  | 0, c => by simp [qn]
  | m + 1, c => by
    simp only [qn]
    have h1 : sumN (fun x => if freeQ c x then qn n m (c ++ [(x : Int)]) else 0) n ≤ n * 8 ^ m := sumN_bd (fun k => by
      have := qn_le hn m (c ++ [(k : Int)])
      split
      · exact this
      · exact Nat.zero_le _) n
    have h2 : n * 8 ^ m ≤ 8 * 8 ^ m := Nat.mul_le_mul_right _ hn
    rw [Nat.pow_succ, Nat.mul_comm (8 ^ m)]
    omega
theorem pow8 {m : Nat} (h : m ≤ 8) : 8 ^ m ≤ 16777216 := by
  have : ∀ k : Fin 9, 8 ^ k.val ≤ 16777216 := by decide
  exact this ⟨m, by omega⟩

theorem sumN_part {f : Nat → Nat} {k n : Nat} (h : k ≤ n) : sumN f k ≤ sumN f n := by
  obtain ⟨d, rfl⟩ := Nat.exists_eq_add_of_le h
  clear h
  induction d with
  | zero => exact Nat.le_refl _
  | succ d ih =>
    show sumN f k ≤ sumN f (k + d) + f (k + d)
    omega

/-! ### The document -/

theorem size_r {x : Int} (h : -1000 ≤ x ∧ x ≤ 1000) : gameroomref_size_m x = some (x.natAbs : Int) := by
  unfold gameroomref_size_m gameroomref_size_J1
  by_cases h0 : x < 0
  · rw [if_pos (decide_eq_true h0), w64_of (by omega)]
    congr 1
    omega
  · rw [if_neg (by simpa using h0)]
    congr 1
    omega

theorem ints_r (l : List Int) (h : l.length ≤ 1000) : gameroomref_Ints_m l = some l := by
  have hb : (0 : Int) + (l.length : Int) ≤ bigN := by unfold bigN; omega
  unfold gameroomref_Ints_m
  rw [asrt_pos hb]
  rfl

theorem free_r {c : List Int} {x : Nat} (hc : c.length ≤ 8) (hx : x ≤ 8) (hb : ∀ j : Nat, 0 ≤ geti c (j : Int) ∧ geti c (j : Int) ≤ 8) : loop (gameroomref_QueensOf_L2 c x) (true, 0) = some (freeQ c x) := by
  refine loop_from (f := fun k => ((List.range k).all (fun i => decide (geti c (i : Int) ≠ (x : Int)) && decide ((geti c (i : Int) - (x : Int)).natAbs ≠ c.length - i)), (k : Int))) c.length rfl (fun k hk => ?_) ?_
  · have hk2 := hb k
    have e : ((List.range (k + 1)).all (fun i => decide (geti c (i : Int) ≠ (x : Int)) && decide ((geti c (i : Int) - (x : Int)).natAbs ≠ c.length - i))) = ((List.range k).all (fun i => decide (geti c (i : Int) ≠ (x : Int)) && decide ((geti c (i : Int) - (x : Int)).natAbs ≠ c.length - i)) && (decide (geti c (k : Int) ≠ (x : Int)) && decide ((geti c (k : Int) - (x : Int)).natAbs ≠ c.length - k))) := by
      rw [List.range_succ, List.all_append]
      simp
    rw [e]
    generalize (List.range k).all (fun i => decide (geti c (i : Int) ≠ (x : Int)) && decide ((geti c (i : Int) - (x : Int)).natAbs ≠ c.length - i)) = fr
    simp only [gameroomref_QueensOf_L2, gameroomref_QueensOf_J6, gameroomref_QueensOf_J7]
    rw [if_pos (decide_eq_true (by omega)), asrt_pos (fun _ => by omega), asrt_pos (fun _ => by omega), w64_of (x := (k : Int) + 1) (by omega), w64_of (x := geti c (k : Int) - (x : Int)) (by omega), w64_of (x := (c.length : Int) - (k : Int)) (by omega), size_r (by omega)]
    by_cases hq : fr = true ∧ geti c (k : Int) ≠ (x : Int)
    · obtain ⟨rfl, h2⟩ := hq
      have e2 : (geti c (k : Int) != (x : Int)) = true := by simpa using h2
      rw [e2]
      simp only [Bool.and_self, if_true, Option.bind_some, Bool.true_and]
      have e3 : ((((geti c (k : Int) - (x : Int)).natAbs : Nat) : Int) != (c.length : Int) - (k : Int)) = (decide (geti c (k : Int) ≠ (x : Int)) && decide ((geti c (k : Int) - (x : Int)).natAbs ≠ c.length - k)) := by
        rw [decide_eq_true h2, Bool.true_and, Bool.eq_iff_iff]
        simp only [bne_iff_ne, ne_eq, decide_eq_true_eq]
        omega
      rw [e3]
      rfl
    · have e2 : (fr && (geti c (k : Int) != (x : Int))) = false := by
        rw [Bool.eq_false_iff]
        intro h
        simp only [Bool.and_eq_true, bne_iff_ne, ne_eq] at h
        exact hq h
      have e3 : (fr && (decide (geti c (k : Int) ≠ (x : Int)) && decide ((geti c (k : Int) - (x : Int)).natAbs ≠ c.length - k))) = false := by
        rw [← Bool.and_assoc, show decide (geti c (k : Int) ≠ (x : Int)) = (geti c (k : Int) != (x : Int)) by rw [Bool.eq_iff_iff]; simp, e2, Bool.false_and]
      rw [e2, e3]
      rfl
  · simp only [gameroomref_QueensOf_L2]
    rw [if_neg (by simp)]
    rfl

theorem geti_app {a b : List Int} {j : Nat} (h : j < a.length) : geti (a ++ b) (j : Int) = geti a (j : Int) := by
  rw [geti_nat, geti_nat, List.getD_eq_getElem?_getD, List.getD_eq_getElem?_getD, List.getElem?_append_left h]
theorem geti_snoc (a : List Int) (x : Int) : geti (a ++ [x]) (a.length : Int) = x := by
  rw [geti_nat, List.getD_eq_getElem?_getD, List.getElem?_append_right (Nat.le_refl _), Nat.sub_self]
  rfl

/-- Columns of queens that stand. -/
structure Qs (n : Nat) (c : List Int) : Prop where
  n8 : n ≤ 8
  len : c.length ≤ n
  bd : ∀ j : Nat, 0 ≤ geti c (j : Int) ∧ geti c (j : Int) ≤ 8
  lt : ∀ j : Nat, j < c.length → geti c (j : Int) < (n : Int)

theorem Qs.snoc {n x : Nat} {c : List Int} (H : Qs n c) (hl : c.length < n) (hx : x < n) : Qs n (c ++ [(x : Int)]) := by
  have h8 := H.n8
  have key : ∀ j : Nat, geti (c ++ [(x : Int)]) (j : Int) = if j < c.length then geti c (j : Int) else if j = c.length then (x : Int) else 0 := fun j => by
    by_cases h : j < c.length
    · rw [if_pos h, geti_app h]
    · rw [if_neg h]
      by_cases e : j = c.length
      · subst e; rw [if_pos rfl, geti_snoc]
      · rw [if_neg e, geti_nat, List.getD_eq_getElem?_getD, List.getElem?_eq_none (by simp; omega)]
        rfl
  refine ⟨h8, by simp; omega, fun j => ?_, fun j hj => ?_⟩
  · rw [key]
    have := H.bd j
    split
    · exact this
    · split <;> omega
  · rw [key]
    split
    · rename_i h; exact H.lt j h
    · split <;> omega

theorem queens_r : ∀ (m n : Nat) (c : List Int), c.length + m = n → Qs n c → gameroomref_QueensOf_mF (m + 1) n c = some ((qn n m c : Nat) : Int)
  | 0, n, c, hl, H => by
    show gameroomref_QueensOf_B (gameroomref_QueensOf_mF 0) n c = _
    unfold gameroomref_QueensOf_B
    rw [if_pos (by simp; omega)]
    rfl
  | m + 1, n, c, hl, H => by
    have h8 := H.n8
    show gameroomref_QueensOf_B (gameroomref_QueensOf_mF (m + 1)) n c = _
    unfold gameroomref_QueensOf_B
    rw [if_neg (by simp; omega)]
    unfold gameroomref_QueensOf_J1
    have hb1 := pow8 (m := m + 1) (by omega)
    have hloop : loop (gameroomref_QueensOf_L1 (gameroomref_QueensOf_mF (m + 1)) n c) (0, 0) = some ((qn n (m + 1) c : Nat) : Int) := by
      refine loop_from (f := fun k => (((sumN (fun x => if freeQ c x then qn n m (c ++ [(x : Int)]) else 0) k : Nat) : Int), (k : Int))) n rfl (fun k hk => ?_) ?_
      · have hle := sumN_part (f := fun x => if freeQ c x then qn n m (c ++ [(x : Int)]) else 0) (k := k + 1) (n := n) (by omega)
        have hle2 := qn_le h8 (m + 1) c
        have hD : qn n (m + 1) c = sumN (fun x => if freeQ c x then qn n m (c ++ [(x : Int)]) else 0) n := rfl
        have hs : sumN (fun x => if freeQ c x then qn n m (c ++ [(x : Int)]) else 0) (k + 1) = sumN (fun x => if freeQ c x then qn n m (c ++ [(x : Int)]) else 0) k + (if freeQ c k then qn n m (c ++ [(k : Int)]) else 0) := rfl
        simp only [gameroomref_QueensOf_L1, gameroomref_QueensOf_J3]
        rw [if_pos (decide_eq_true (by omega)), free_r (by omega) (by omega) H.bd, Option.bind_some]
        unfold gameroomref_QueensOf_K2 gameroomref_QueensOf_J5 gameroomref_QueensOf_J4
        dsimp only
        rw [hs] at hle ⊢
        rw [w64_of (x := (k : Int) + 1) (by omega)]
        by_cases hf : freeQ c k = true
        · have hbn : (c.length : Int) + 1 ≤ bigN := by unfold bigN; omega
          rw [if_pos hf] at hle ⊢
          rw [if_pos hf, ints_r c (by omega), Option.bind_some, asrt_pos hbn, queens_r m n _ (by simp; omega) (H.snoc (by omega) hk), Option.bind_some, w64_of (by omega)]
          rfl
        · rw [if_neg hf] at hle ⊢
          rw [if_neg hf]
          rfl
      · simp only [gameroomref_QueensOf_L1]
        rw [if_neg (by simp)]
        rfl
    rw [hloop]
    rfl

/-! ### The program -/

/-- What the bits tell of the queens that stand. -/
structure Mk (n : Nat) (c : List Int) (col up dn : Nat) : Prop where
  c1 : col < 2 ^ 20
  u1 : up < 2 ^ 20
  d1 : dn < 2 ^ 20
  col : ∀ x : Nat, x < n → (col.testBit x = true ↔ ∃ i : Nat, i < c.length ∧ geti c (i : Int) = (x : Int))
  up : ∀ s : Nat, s < 2 * n → (up.testBit s = true ↔ ∃ i : Nat, i < c.length ∧ geti c (i : Int) + (i : Int) = (s : Int))
  dn : ∀ s : Nat, s < 2 * n → (dn.testBit s = true ↔ ∃ i : Nat, i < c.length ∧ geti c (i : Int) - (i : Int) + (n : Int) = (s : Int))

theorem free_bits {n x : Nat} {c : List Int} {col up dn : Nat} (H : Qs n c) (M : Mk n c col up dn) (hl : c.length < n) (hx : x < n) :
    freeQ c x = (!col.testBit x && !up.testBit (x + c.length) && !dn.testBit (x + n - c.length)) := by
  have h8 := H.n8
  rw [Bool.eq_iff_iff]
  simp only [Bool.and_eq_true, Bool.not_eq_true']
  unfold freeQ
  rw [List.all_eq_true]
  constructor
  · intro h
    have h' : ∀ i : Nat, i < c.length → geti c (i : Int) ≠ (x : Int) ∧ (geti c (i : Int) - (x : Int)).natAbs ≠ c.length - i := fun i hi => by
      have := h i (List.mem_range.2 hi)
      simpa using this
    refine ⟨⟨?_, ?_⟩, ?_⟩
    · rw [Bool.eq_false_iff]
      intro hb
      obtain ⟨i, hi, e⟩ := (M.col x hx).1 hb
      exact (h' i hi).1 e
    · rw [Bool.eq_false_iff]
      intro hb
      obtain ⟨i, hi, e⟩ := (M.up (x + c.length) (by omega)).1 hb
      have := (h' i hi).2
      omega
    · rw [Bool.eq_false_iff]
      intro hb
      obtain ⟨i, hi, e⟩ := (M.dn (x + n - c.length) (by omega)).1 hb
      have := (h' i hi).2
      omega
  · rintro ⟨⟨h1, h2⟩, h3⟩ i hi
    have hi' := List.mem_range.1 hi
    have e1 : geti c (i : Int) ≠ (x : Int) := fun e => by
      have := (M.col x hx).2 ⟨i, hi', e⟩
      rw [h1] at this; cases this
    have e2 : (geti c (i : Int) - (x : Int)).natAbs ≠ c.length - i := fun e => by
      rcases Int.lt_or_le (geti c (i : Int)) (x : Int) with q | q
      · have := (M.dn (x + n - c.length) (by omega)).2 ⟨i, hi', by omega⟩
        rw [h3] at this; cases this
      · have := (M.up (x + c.length) (by omega)).2 ⟨i, hi', by omega⟩
        rw [h2] at this; cases this
    rw [decide_eq_true e1, decide_eq_true e2]
    rfl

theorem Mk.snoc {n x : Nat} {c : List Int} {col up dn : Nat} (M : Mk n c col up dn) (h8 : n ≤ 8) (hl : c.length < n) (hx : x < n) :
    Mk n (c ++ [(x : Int)]) (col ||| 2 ^ x) (up ||| 2 ^ (x + c.length)) (dn ||| 2 ^ (x + n - c.length)) := by
  have ex : ∀ (f : Int → Int → Prop), (∃ i : Nat, i < (c ++ [(x : Int)]).length ∧ f (geti (c ++ [(x : Int)]) (i : Int)) (i : Int)) ↔ (∃ i : Nat, i < c.length ∧ f (geti c (i : Int)) (i : Int)) ∨ f (x : Int) (c.length : Int) := fun f => by
    constructor
    · rintro ⟨i, hi, hf⟩
      rw [List.length_append, List.length_singleton] at hi
      by_cases h : i < c.length
      · rw [geti_app h] at hf
        exact .inl ⟨i, h, hf⟩
      · obtain rfl : i = c.length := by omega
        rw [geti_snoc] at hf
        exact .inr hf
    · rintro (⟨i, hi, hf⟩ | hf)
      · exact ⟨i, by simp; omega, by rw [geti_app hi]; exact hf⟩
      · exact ⟨c.length, by simp, by rw [geti_snoc]; exact hf⟩
  refine ⟨Nat.or_lt_two_pow M.c1 (Nat.pow_lt_pow_right (by omega) (by omega)), Nat.or_lt_two_pow M.u1 (Nat.pow_lt_pow_right (by omega) (by omega)), Nat.or_lt_two_pow M.d1 (Nat.pow_lt_pow_right (by omega) (by omega)), fun s hs => ?_, fun s hs => ?_, fun s hs => ?_⟩
  · rw [bit_or_pow, Bool.or_eq_true, M.col s hs, decide_eq_true_eq, ex (fun a _ => a = (s : Int))]
    exact or_congr Iff.rfl (by omega)
  · rw [bit_or_pow, Bool.or_eq_true, M.up s hs, decide_eq_true_eq, ex (fun a i => a + i = (s : Int))]
    exact or_congr Iff.rfl (by omega)
  · rw [bit_or_pow, Bool.or_eq_true, M.dn s hs, decide_eq_true_eq, ex (fun a i => a - i + (n : Int) = (s : Int))]
    exact or_congr Iff.rfl (by omega)

theorem queens_p : ∀ (m n : Nat) (c : List Int) (col up dn : Nat), c.length + m = n → Qs n c → Mk n c col up dn → cover_Queens_1_mF (m + 1) (c.length : Int) col up dn n = some ((qn n m c : Nat) : Int)
  | 0, n, c, col, up, dn, hl, H, M => by
    show cover_Queens_1_B (cover_Queens_1_mF 0) (c.length : Int) col up dn n = _
    unfold cover_Queens_1_B
    rw [if_pos (by simp; omega)]
    rfl
  | m + 1, n, c, col, up, dn, hl, H, M => by
    have h8 := H.n8
    show cover_Queens_1_B (cover_Queens_1_mF (m + 1)) (c.length : Int) col up dn n = _
    unfold cover_Queens_1_B
    rw [if_neg (by simp; omega)]
    unfold cover_Queens_1_J1
    have hb1 := pow8 (m := m + 1) (by omega)
    have hc1 := M.c1
    have hu1 := M.u1
    have hd1 := M.d1
    have hloop : loop (cover_Queens_1_L1 (cover_Queens_1_mF (m + 1)) (c.length : Int) col up dn n) (0, 0) = some ((qn n (m + 1) c : Nat) : Int) := by
      refine loop_from (f := fun k => (((sumN (fun x => if freeQ c x then qn n m (c ++ [(x : Int)]) else 0) k : Nat) : Int), (k : Int))) n rfl (fun k hk => ?_) ?_
      · have hle := sumN_part (f := fun x => if freeQ c x then qn n m (c ++ [(x : Int)]) else 0) (k := k + 1) (n := n) (by omega)
        have hle2 := qn_le h8 (m + 1) c
        have hD : qn n (m + 1) c = sumN (fun x => if freeQ c x then qn n m (c ++ [(x : Int)]) else 0) n := rfl
        have hs : sumN (fun x => if freeQ c x then qn n m (c ++ [(x : Int)]) else 0) (k + 1) = sumN (fun x => if freeQ c x then qn n m (c ++ [(x : Int)]) else 0) k + (if freeQ c k then qn n m (c ++ [(k : Int)]) else 0) := rfl
        have hfb := free_bits H M (by omega) hk
        simp only [cover_Queens_1_L1, cover_Queens_1_J3]
        rw [if_pos (decide_eq_true (by omega)), w64_of (x := (k : Int) + (c.length : Int)) (by omega), w64_of (x := (k : Int) - (c.length : Int)) (by omega), w64_of (x := (k : Int) - (c.length : Int) + (n : Int)) (by omega), asrt_pos (by omega), asrt_pos (by omega), asrt_pos (by omega)]
        rw [show (k : Int) + (c.length : Int) = ((k + c.length : Nat) : Int) by omega, show (k : Int) - (c.length : Int) + (n : Int) = ((k + n - c.length : Nat) : Int) by omega, shlN (by omega), shlN (by omega), shlN (by omega), and_pow (by omega) (by omega), and_pow (by omega) (by omega), and_pow (by omega) (by omega), ← hfb]
        unfold cover_Queens_1_J4
        rw [hs] at hle ⊢
        rw [w64_of (x := (k : Int) + 1) (by omega)]
        by_cases hf : freeQ c k = true
        · rw [if_pos hf] at hle ⊢
          have hrec := queens_p m n (c ++ [(k : Int)]) _ _ _ (by simp; omega) (H.snoc (by omega) hk) (M.snoc h8 (by omega) hk)
          rw [List.length_append, List.length_singleton] at hrec
          rw [if_pos hf, orN (by omega) (pow_lt (by omega)), orN (by omega) (pow_lt (by omega)), orN (by omega) (pow_lt (by omega)), w64_of (x := (c.length : Int) + 1) (by omega), show (c.length : Int) + 1 = ((c.length + 1 : Nat) : Int) by omega, hrec, Option.bind_some, w64_of (by omega)]
          rfl
        · rw [if_neg hf] at hle ⊢
          rw [if_neg hf]
          rfl
      · simp only [cover_Queens_1_L1]
        rw [if_neg (by simp)]
        rfl
    rw [hloop]
    rfl

theorem queens_law (n : Int) : ∃ r1, cover_Queens_m n = some r1 ∧ (((n < 1 ∨ 8 < n) ∧ r1 = (0, 3)) ∨ ((1 ≤ n ∧ n ≤ 8) ∧ ∃ q, r1 = (q, 0) ∧ gameroomref_QueensOf_m n [] = some q)) := by
  unfold cover_Queens_m
  by_cases h : n < 1 ∨ 8 < n
  · rw [if_pos (by simpa using h)]
    exact ⟨_, rfl, .inl ⟨h, rfl⟩⟩
  · rw [if_neg (by simpa using h)]
    obtain ⟨k, rfl⟩ : ∃ k : Nat, n = (k : Int) := ⟨n.toNat, by omega⟩
    have H : Qs k [] := ⟨by omega, by simp, fun j => by rw [geti_nat]; simp, fun j hj => by simp at hj⟩
    have M : Mk k [] 0 0 0 := ⟨by decide, by decide, by decide, fun _ _ => by simp, fun _ _ => by simp, fun _ _ => by simp⟩
    have h1 := cover_Queens_1_m_of _ _ _ _ _ _ (queens_p k k [] 0 0 0 (by simp) H M)
    have h2 := gameroomref_QueensOf_m_of _ _ _ (queens_r k k [] (by simp) H)
    unfold cover_Queens_J1
    have h1' : cover_Queens_1_m 0 0 0 0 k = some ((qn k k [] : Nat) : Int) := h1
    rw [h1']
    exact ⟨_, rfl, .inr ⟨by omega, _, rfl, h2⟩⟩
end Go.Proofs.Ytlpaklmfgldkoaa
