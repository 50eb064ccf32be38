/-
  DeckNumbers: the number of an order.
-/
import Derived.Test.YtkpkkdpfcbnfdaaVAB
namespace Go.Proofs.Ytkpkkdpfcbnfdaa
open Go Go.GL

def fac : Nat → Nat
  | 0 => 1
  | n + 1 => (n + 1) * fac n
theorem fac_bd (n : Nat) (h : n ≤ 12) : fac n ≤ 479001600 := by
  have : ∀ n : Fin 13, fac n.val ≤ 479001600 := by decide
  exact this ⟨n, by omega⟩
theorem fac_loop {step : Int × Int → Option (St (Int × Int) Int)} {n : Nat} (hn : n ≤ 12) (h1 : ∀ f i : Nat, i ≤ n → f * i ≤ 479001600 → step ((f : Int), (i : Int)) = some (.next (((f * i : Nat) : Int), ((i + 1 : Nat) : Int)))) (h2 : ∀ f i : Nat, n < i → step ((f : Int), (i : Int)) = some (.done (f : Int))) : loop step (1, 2) = some (fac n : Int) := by
  match n, hn with
  | 0, _ => exact loop_done (h2 1 2 (by omega))
  | n + 1, hn =>
    refine loop_from (r := (fac (n + 1) : Int)) (fun j => ((fac (j + 1) : Int), ((j + 2 : Nat) : Int))) n rfl (fun j hj => ?_) (h2 (fac (n + 1)) (n + 2) (by omega))
    have hb := fac_bd (j + 2) (by omega)
    have e : fac (j + 2) = fac (j + 1) * (j + 2) := Nat.mul_comm _ _
    rw [h1 (fac (j + 1)) (j + 2) (by omega) (by omega), ← e]

theorem factorial_r {n : Nat} (hn : n ≤ 12) : gameroomref_factorial_m n = some (fac n : Int) := by
  have h := fac_loop (step := gameroomref_factorial_L1 n) hn (fun f i hi hb => by
    simp only [gameroomref_factorial_L1, gameroomref_factorial_J2, gameroomref_factorial_J3]
    rw [if_pos (decide_eq_true (by omega)), ← Int.natCast_mul, w64_nat (by omega), w64_of (by omega)]; rfl) (fun f i hi => by
    simp only [gameroomref_factorial_L1]
    rw [if_neg (by rw [decide_eq_true_eq]; omega)])
  unfold gameroomref_factorial_m
  rw [h]; rfl

/-- The number of an order. -/
def Nm : List Int → Nat
  | [] => 0
  | x :: t => t.countP (fun y => decide (y < x)) * fac t.length + Nm t
theorem Nm_lt : ∀ l : List Int, Nm l < fac l.length
  | [] => Nat.one_pos
  | x :: t => by
    have h1 := Nm_lt t
    have h2 : t.countP (fun y => decide (y < x)) ≤ t.length := List.countP_le_length
    have h3 := Nat.mul_le_mul_right (fac t.length) h2
    show _ + Nm t < (t.length + 1) * fac t.length
    rw [Nat.add_mul, Nat.one_mul]
    omega
theorem Nm_drop (l : List Int) : ∀ i, Nm (l.drop i) ≤ Nm l
  | 0 => by rw [List.drop_zero]; exact Nat.le_refl _
  | i + 1 => by
    refine Nat.le_trans ?_ (Nm_drop l i)
    by_cases h : i < l.length
    · rw [List.drop_eq_getElem_cons h]
      show _ ≤ _ + Nm (l.drop (i + 1))
      omega
    · rw [List.drop_eq_nil_of_le (by omega), List.drop_eq_nil_of_le (by omega)]; exact Nat.le_refl _

theorem drop_cons {l : List Int} {i : Nat} (h : i < l.length) : l.drop i = geti l (i : Int) :: l.drop (i + 1) := by
  have g := get_geti h
  rw [List.getElem?_eq_getElem h] at g
  rw [List.drop_eq_getElem_cons h, Option.some.inj g]

theorem Nm_at {l : List Int} {i : Nat} (h : i < l.length) : Nm (l.drop i) = (l.drop (i + 1)).countP (fun y => decide (y < geti l (i : Int))) * fac (l.length - 1 - i) + Nm (l.drop (i + 1)) := by
  rw [drop_cons h]
  show _ * fac (l.drop (i + 1)).length + _ = _
  rw [List.length_drop, show l.length - (i + 1) = l.length - 1 - i by omega]

theorem less_p {l : List Int} (hl : l.length ≤ 12) {i : Nat} (hi : i < l.length) : loop (gameroomref_NumberOf_L2 l i) (0, ((i + 1 : Nat) : Int)) = some (((l.drop (i + 1)).countP (fun y => decide (y < geti l (i : Int))) : Nat) : Int) := by
  refine loop_from (r := (((l.drop (i + 1)).countP (fun y => decide (y < geti l (i : Int))) : Nat) : Int)) (fun q => (((((l.drop (i + 1)).take q).countP (fun y => decide (y < geti l (i : Int))) : Nat) : Int), ((i + 1 + q : Nat) : Int))) (l.length - (i + 1)) rfl (fun q hq => ?_) ?_
  · have hc : ((l.drop (i + 1)).take q).countP (fun y => decide (y < geti l (i : Int))) ≤ q := Nat.le_trans List.countP_le_length (by rw [List.length_take]; omega)
    have hg : (l.drop (i + 1))[q]? = some (geti l ((i + 1 + q : Nat) : Int)) := by rw [List.getElem?_drop, get_geti (by omega)]
    simp only [gameroomref_NumberOf_L2, gameroomref_NumberOf_J5, gameroomref_NumberOf_J6]
    rw [if_pos (decide_eq_true (by omega)), asrt_pos (by omega), asrt_pos (by omega), List.take_add_one, hg, Option.toList_some, List.countP_append, List.countP_singleton, w64_of (x := ((i + 1 + q : Nat) : Int) + 1) (by omega)]
    by_cases z : geti l ((i + 1 + q : Nat) : Int) < geti l (i : Int)
    · rw [if_pos (decide_eq_true z), if_pos (decide_eq_true z), w64_of (by omega)]; rfl
    · rw [if_neg (by rw [decide_eq_true_eq]; exact z), if_neg (by rw [decide_eq_true_eq]; exact z)]; rfl
  · simp only [gameroomref_NumberOf_L2]
    rw [if_neg (by rw [decide_eq_true_eq]; omega), List.take_of_length_le (by rw [List.length_drop]; exact Nat.le_refl _)]

theorem number_r {l : List Int} (hl : l.length ≤ 12) : gameroomref_NumberOf_m l = some (Nm l : Int) := by
  have hb := Nat.lt_of_lt_of_le (Nm_lt l) (fac_bd _ hl)
  have key := loop_from (step := gameroomref_NumberOf_L1 l) (s0 := (0, 0)) (r := (Nm l : Int)) (fun i => (((Nm l - Nm (l.drop i) : Nat) : Int), (i : Int))) l.length (by rw [List.drop_zero, Nat.sub_self]; rfl) (by
    intro i hi
    have e := Nm_at hi
    have d := Nm_drop l i
    have lp := less_p hl hi
    simp only [gameroomref_NumberOf_L1, gameroomref_NumberOf_J2]
    rw [if_pos (decide_eq_true (by omega)), w64_of (x := (i : Int) + 1) (by omega), show (i : Int) + 1 = ((i + 1 : Nat) : Int) by omega, lp, Option.bind_some]
    simp only [gameroomref_NumberOf_K2, gameroomref_NumberOf_J4, gameroomref_NumberOf_J3]
    rw [w64_of (x := (l.length : Int) - 1) (by omega), w64_of (x := (l.length : Int) - 1 - i) (by omega), show (l.length : Int) - 1 - (i : Int) = ((l.length - 1 - i : Nat) : Int) by omega, factorial_r (by omega), Option.bind_some, ← Int.natCast_mul, w64_nat (by omega), ← Int.natCast_add, w64_nat (by omega), w64_of (by omega)]
    congr 3
    omega) (by
    simp only [gameroomref_NumberOf_L1]
    rw [if_neg (by simp), List.drop_length]; rfl)
  unfold gameroomref_NumberOf_m
  rw [key]; rfl
end Go.Proofs.Ytkpkkdpfcbnfdaa
