/-
  DeckNumbers: the number of an order.
-/
import Derived.Test.YtlkdblflibgfpaaDNa
namespace Go.Proofs.Ytlkdblflibgfpaa
open Go Go.GL

def fac : Nat → Nat
  | 0 => 1
  | n + 1 => (n + 1) * fac n
theorem fac_bd (n : Nat) (h : n ≤ 12) : fac n ≤ 479001600 := by
  have : ∀ n : Fin 13, fac n.val ≤ 479001600 := by decide
  exact this ⟨n, by omega⟩
theorem fac_pos : ∀ n, 0 < fac n
  | 0 => Nat.one_pos
  | n + 1 => Nat.mul_pos (by omega) (fac_pos n)

theorem fac_loop {step : Int × Int → Option (St (Int × Int) Int)} {n : Nat} (hn : n ≤ 12) (h1 : ∀ f i : Nat, i ≤ n → f * i ≤ 479001600 → step ((f : Int), (i : Int)) = some (.next (((f * i : Nat) : Int), ((i + 1 : Nat) : Int)))) (h2 : ∀ f i : Nat, n < i → step ((f : Int), (i : Int)) = some (.done (f : Int))) : loop step (1, 2) = some (fac n : Int) := by
  match n, hn with
  | 0, _ => exact loop_done (h2 1 2 (by omega))
  | n + 1, hn =>
    refine loop_from (r := (fac (n + 1) : Int)) (fun j => ((fac (j + 1) : Int), ((j + 2 : Nat) : Int))) n rfl (fun j hj => ?_) (h2 (fac (n + 1)) (n + 2) (by omega))
    have hb := fac_bd (j + 2) (by omega)
    have e : fac (j + 2) = fac (j + 1) * (j + 2) := Nat.mul_comm _ _
    rw [h1 (fac (j + 1)) (j + 2) (by omega) (by omega), ← e]

theorem factorial_r {n : Nat} (hn : n ≤ 12) : gameroomref_factorial_m n = some (fac n : Int) := by
  have h := fac_loop (step := gameroomref_factorial_L1 n) hn (fun f i hi hb => by
    simp only [gameroomref_factorial_L1, gameroomref_factorial_J2, gameroomref_factorial_J3]
    rw [if_pos (decide_eq_true (by omega)), ← Int.natCast_mul, w64_nat (by omega), w64_of (by omega)]; rfl) (fun f i hi => by
    simp only [gameroomref_factorial_L1]
    rw [if_neg (by rw [decide_eq_true_eq]; omega)])
  unfold gameroomref_factorial_m
  rw [h]; rfl

/-- The number of an order. -/
def Nm : List Int → Nat
  | [] => 0
  | x :: t => t.countP (fun y => decide (y < x)) * fac t.length + Nm t
theorem Nm_lt : ∀ l : List Int, Nm l < fac l.length
  | [] => Nat.one_pos
  | x :: t => by
    have h1 := Nm_lt t
    have h2 : t.countP (fun y => decide (y < x)) ≤ t.length := List.countP_le_length
    have h3 := Nat.mul_le_mul_right (fac t.length) h2
    show _ + Nm t < (t.length + 1) * fac t.length
    rw [Nat.add_mul, Nat.one_mul]
    omega
theorem Nm_drop (l : List Int) : ∀ i, Nm (l.drop i) ≤ Nm l
  | 0 => by rw [List.drop_zero]; exact Nat.le_refl _
  | i + 1 => by
    refine Nat.le_trans ?_ (Nm_drop l i)
    by_cases h : i < l.length
    · rw [List.drop_eq_getElem_cons h]
      show _ ≤ _ + Nm (l.drop (i + 1))
      omega
    · rw [List.drop_eq_nil_of_le (by omega), List.drop_eq_nil_of_le (by omega)]; exact Nat.le_refl _

theorem drop_cons {l : List Int} {i : Nat} (h : i < l.length) : l.drop i = geti l (i : Int) :: l.drop (i + 1) := by
  have g := get_geti h
  rw [List.getElem?_eq_getElem h] at g
  rw [List.drop_eq_getElem_cons h, Option.some.inj g]

theorem Nm_at {l : List Int} {i : Nat} (h : i < l.length) : Nm (l.drop i) = (l.drop (i + 1)).countP (fun y => decide (y < geti l (i : Int))) * fac (l.length - 1 - i) + Nm (l.drop (i + 1)) := by
  rw [drop_cons h]
  show _ * fac (l.drop (i + 1)).length + _ = _
  rw [List.length_drop, show l.length - (i + 1) = l.length - 1 - i by omega]

theorem less_p {l : List Int} (hl : l.length ≤ 12) {i : Nat} (hi : i < l.length) : loop (gameroomref_NumberOf_L2 l i) (0, ((i + 1 : Nat) : Int)) = some (((l.drop (i + 1)).countP (fun y => decide (y < geti l (i : Int))) : Nat) : Int) := by
  refine loop_from (r := (((l.drop (i + 1)).countP (fun y => decide (y < geti l (i : Int))) : Nat) : Int)) (fun q => (((((l.drop (i + 1)).take q).countP (fun y => decide (y < geti l (i : Int))) : Nat) : Int), ((i + 1 + q : Nat) : Int))) (l.length - (i + 1)) rfl (fun q hq => ?_) ?_
  · have hc : ((l.drop (i + 1)).take q).countP (fun y => decide (y < geti l (i : Int))) ≤ q := Nat.le_trans List.countP_le_length (by rw [List.length_take]; omega)
    have hg : (l.drop (i + 1))[q]? = some (geti l ((i + 1 + q : Nat) : Int)) := by rw [List.getElem?_drop, get_geti (by omega)]
    simp only [gameroomref_NumberOf_L2, gameroomref_NumberOf_J5, gameroomref_NumberOf_J6]
    rw [if_pos (decide_eq_true (by omega)), asrt_pos (by omega), asrt_pos (by omega), List.take_add_one, hg, Option.toList_some, List.countP_append, List.countP_singleton, w64_of (x := ((i + 1 + q : Nat) : Int) + 1) (by omega)]
    by_cases z : geti l ((i + 1 + q : Nat) : Int) < geti l (i : Int)
    · rw [if_pos (decide_eq_true z), if_pos (decide_eq_true z), w64_of (by omega)]; rfl
    · rw [if_neg (by rw [decide_eq_true_eq]; exact z), if_neg (by rw [decide_eq_true_eq]; exact z)]; rfl
  · simp only [gameroomref_NumberOf_L2]
    rw [if_neg (by rw [decide_eq_true_eq]; omega), List.take_of_length_le (by rw [List.length_drop]; exact Nat.le_refl _)]

theorem number_r {l : List Int} (hl : l.length ≤ 12) : gameroomref_NumberOf_m l = some (Nm l : Int) := by
  have hb := Nat.lt_of_lt_of_le (Nm_lt l) (fac_bd _ hl)
  have key := loop_from (step := gameroomref_NumberOf_L1 l) (s0 := (0, 0)) (r := (Nm l : Int)) (fun i => (((Nm l - Nm (l.drop i) : Nat) : Int), (i : Int))) l.length (by rw [List.drop_zero, Nat.sub_self]; rfl) (by
    intro i hi
    have e := Nm_at hi
    have d := Nm_drop l i
    have lp := less_p hl hi
    simp only [gameroomref_NumberOf_L1, gameroomref_NumberOf_J2]
    rw [if_pos (decide_eq_true (by omega)), w64_of (x := (i : Int) + 1) (by omega), show (i : Int) + 1 = ((i + 1 : Nat) : Int) by omega, lp, Option.bind_some]
    simp only [gameroomref_NumberOf_K2, gameroomref_NumberOf_J4, gameroomref_NumberOf_J3]
    rw [w64_of (x := (l.length : Int) - 1) (by omega), w64_of (x := (l.length : Int) - 1 - i) (by omega), show (l.length : Int) - 1 - (i : Int) = ((l.length - 1 - i : Nat) : Int) by omega, factorial_r (by omega), Option.bind_some, ← Int.natCast_mul, w64_nat (by omega), ← Int.natCast_add, w64_nat (by omega), w64_of (by omega)]
    congr 3
    omega) (by
    simp only [gameroomref_NumberOf_L1]
    rw [if_neg (by simp), List.drop_length]; rfl)
  unfold gameroomref_NumberOf_m
  rw [key]; rfl

theorem split_lt {q : List Int} (hs : q.Pairwise (· < ·)) {x : Int} (hx : x ∈ q) : ∃ A B, q = A ++ x :: B ∧ (∀ a ∈ A, a < x) ∧ ∀ b ∈ B, x < b := by
  obtain ⟨A, B, rfl⟩ := List.append_of_mem hx
  have h := List.pairwise_append.1 hs
  exact ⟨A, B, rfl, fun a ha => h.2.2 a ha x (by simp), (List.pairwise_cons.1 h.2.1).1⟩

theorem index_split {A B : List Int} {x : Int} (ha : ∀ a ∈ A, a < x) (hl : (A ++ x :: B).length ≤ 1000) : slices_Index_m (A ++ x :: B) x = some (A.length : Int) := by
  refine index_first (by simp) (geti_some (by simp)) (fun j hj e => ?_) hl
  have hm : geti (A ++ x :: B) (j : Int) = geti A (j : Int) := by
    rw [geti_nat, geti_nat, List.getD_eq_getElem?_getD, List.getD_eq_getElem?_getD, List.getElem?_append_left hj]
  rw [hm] at e
  have := ha _ (geti_mem hj)
  omega

theorem delI_split {A B : List Int} {x : Int} : delI (A ++ x :: B) (A.length : Int) ((A.length : Int) + 1) = A ++ B := by
  unfold delI
  rw [show ((A.length : Int) + 1).toNat = A.length + 1 by omega, Int.toNat_natCast]
  simp

theorem number_p {l : List Int} (hl : l.length ≤ 12) (ho : Ord l) : deck_Number_J1 l = some ((Nm l : Int), 0) := by
  have hb := Nat.lt_of_lt_of_le (Nm_lt l) (fac_bd _ hl)
  unfold deck_Number_J1
  rw [sorted_p (by omega), Option.bind_some]
  obtain ⟨r, e, rfl⟩ := count_loop (step := deck_Number_L1 l) (fun (x : List Int × Int) (i : Nat) => (x.1, x.2, (i : Int)))
    (fun i x => x.1.Pairwise (· < ·) ∧ x.1.Perm (l.drop i) ∧ ∃ k : Nat, x.2 = k ∧ k * fac x.1.length + Nm (l.drop i) = Nm l)
    (fun r => r = (Nm l : Int)) l.length (rng l.length, 0) ⟨rng_lt _, by rw [List.drop_zero]; exact ho.perm, 0, rfl, by rw [List.drop_zero]; omega⟩ (by
    rintro i ⟨left, k⟩ hi ⟨h1, h2, K, h3, h4⟩
    dsimp only at h1 h2 h3 h4
    left
    have hlen := h2.length_eq
    rw [List.length_drop] at hlen
    rw [drop_cons hi] at h2
    obtain ⟨A, B, e1, e2, e3⟩ := split_lt h1 (h2.mem_iff.2 (List.mem_cons_self ..))
    have hN := Nm_at hi
    have hp : (A ++ B).Perm (l.drop (i + 1)) := by
      rw [e1] at h2
      exact (List.Perm.cons_inv (List.perm_middle.symm.trans h2))
    have hcount : (l.drop (i + 1)).countP (fun y => decide (y < geti l (i : Int))) = A.length := by
      rw [← hp.countP_eq, List.countP_append, List.countP_eq_length.2 (fun a ha => decide_eq_true (e2 a ha)), List.countP_eq_zero.2 (fun b hb => by have := e3 b hb; rw [decide_eq_true_eq]; omega)]
      rfl
    have hlen2 : left.length = A.length + B.length + 1 := by rw [e1]; simp; omega
    have hm : l.length - 1 - i = A.length + B.length := by omega
    rw [hcount, hm] at hN
    have hf : fac left.length = (A.length + B.length + 1) * fac (A.length + B.length) := by rw [hlen2]; rfl
    have hfp := fac_pos (A.length + B.length)
    have hkey : (K * (A.length + B.length + 1) + A.length) * fac (A.length + B.length) + Nm (l.drop (i + 1)) = Nm l := by
      rw [Nat.add_mul, Nat.mul_assoc, ← hf]; omega
    have hk' : K * (A.length + B.length + 1) + A.length ≤ Nm l := by
      have := Nat.le_mul_of_pos_right (K * (A.length + B.length + 1) + A.length) hfp
      omega
    refine ⟨(A ++ B, ((K * (A.length + B.length + 1) + A.length : Nat) : Int)), ?_, ?_, hp, _, rfl, by dsimp only; rw [List.length_append]; exact hkey⟩
    · simp only [deck_Number_L1, deck_Number_J3, deck_Number_J4]
      have hd : slices_Delete_2_m left (A.length : Int) (w64 ((A.length : Int) + 1)) = some (A ++ B) := by
        unfold slices_Delete_2_m
        rw [w64_of (by omega), asrt_pos (by omega), e1, delI_split]
      have hi2 : slices_Index_m left (geti l (i : Int)) = some (A.length : Int) := by
        rw [e1]; exact index_split e2 (by rw [← e1]; omega)
      rw [if_pos (decide_eq_true (by omega)), asrt_pos (by omega), hi2, Option.bind_some, hd, Option.bind_some, h3, hlen2, ← Int.natCast_mul, w64_nat (by omega), ← Int.natCast_add, w64_nat (by omega), w64_of (by omega)]; rfl
    · have := h1
      rw [e1] at this
      dsimp only
      have q := List.pairwise_append.1 this
      exact List.pairwise_append.2 ⟨q.1, (List.pairwise_cons.1 q.2.1).2, fun a ha b hb => q.2.2 a ha b (by simp [hb])⟩) (by
    rintro ⟨left, k⟩ ⟨h1, h2, K, h3, h4⟩
    dsimp only at h1 h2 h3 h4
    refine ⟨k, ?_, ?_⟩
    · simp only [deck_Number_L1]
      rw [if_neg (by simp)]
    · rw [List.drop_length] at h2 h4
      have : left = [] := h2.eq_nil
      rw [this] at h4
      rw [h3, ← h4]
      show (K : Int) = ((K * 1 + 0 : Nat) : Int)
      omega)
  have e' : loop (deck_Number_L1 l) (rng l.length, 0, 0) = some (Nm l : Int) := e
  rw [e']; rfl
end Go.Proofs.Ytlkdblflibgfpaa
