/-
  SlideHomes: the home board, and a board's parity.
-/
import Derived.Test.YtkpkkdpfcbnfdaaHna
import Derived.Test.YtkpkkdpfcbnfdaaLibK
namespace Go.Proofs.Ytkpkkdpfcbnfdaa
open Go Go.GL

section
variable {a b : Nat} (ha : 2 ≤ a ∧ a ≤ 5) (hb : 2 ≤ b ∧ b ≤ 5) (hN : a * b ≤ 25)
include ha hb hN

/-- The home board. -/
def homeB (n : Nat) : List Int := mr n (fun i => (((i + 1) % n : Nat) : Int))
theorem home_r : gameroomref_SlideHome_m a b = some ((a : Int), (b : Int), homeB (a * b)) := by
  have h0 : 0 < a * b := Nat.mul_pos (by omega) (by omega)
  have e : w64 ((a : Int) * b) = ((a * b : Nat) : Int) := by rw [← Int.natCast_mul, w64_nat (by omega)]
  have h := loop_from (step := gameroomref_SlideHome_L1 a b) (s0 := ([], 1)) (r := homeB (a * b)) (fun k => (mr k (fun i => (((i + 1) % (a * b) : Nat) : Int)), (k : Int) + 1)) (a * b) rfl (by
    intro k hk
    simp only [gameroomref_SlideHome_L1, gameroomref_SlideHome_J2, gameroomref_SlideHome_J3]
    rw [e, if_pos (decide_eq_true (by omega)), asrt_pos (by omega), asrt_pos (by rw [mr_length]; unfold bigN; omega), w64_of (by omega), show (k : Int) + 1 = ((k + 1 : Nat) : Int) from rfl, tmod_nat, mr_snoc]) (by
    simp only [gameroomref_SlideHome_L1]
    rw [e, if_neg (by simp; omega)]; rfl)
  unfold gameroomref_SlideHome_m
  rw [h]; rfl

theorem home_p : slide_home_m a b = some ((a : Int), (b : Int), homeB (a * b)) := by
  have h0 : 0 < a * b := Nat.mul_pos (by omega) (by omega)
  have e : w64 ((a : Int) * b) = ((a * b : Nat) : Int) := by rw [← Int.natCast_mul, w64_nat (by omega)]
  have h := loop_from (step := slide_home_L1 a b) (s0 := ([], 1)) (r := mr (a * b - 1) (fun i => (((i + 1) % (a * b) : Nat) : Int))) (fun k => (mr k (fun i => (((i + 1) % (a * b) : Nat) : Int)), (k : Int) + 1)) (a * b - 1) rfl (by
    intro k hk
    simp only [slide_home_L1, slide_home_J2, slide_home_J3]
    rw [e, if_pos (decide_eq_true (by omega)), asrt_pos (by rw [mr_length]; unfold bigN; omega), w64_of (by omega), show (k : Int) + 1 = ((k + 1 : Nat) : Int) from rfl]
    have q : (k + 1) % (a * b) = k + 1 := Nat.mod_eq_of_lt (by omega)
    conv => lhs; rw [← q]
    rw [mr_snoc, q]) (by
    simp only [slide_home_L1]
    rw [e, if_neg (by simp; omega)])
  unfold slide_home_m
  rw [h, Option.bind_some]
  simp only [slide_home_K1]
  unfold slide_home_J1
  rw [asrt_pos (by rw [mr_length]; unfold bigN; omega)]
  congr 3
  unfold homeB
  obtain ⟨m, hm⟩ : ∃ m, a * b = m + 1 := ⟨a * b - 1, by omega⟩
  rw [hm]
  have := mr_snoc m (fun i => (((i + 1) % (m + 1) : Nat) : Int))
  rw [← this]
  simp

/-- Inversions of stones; of places. -/
def invA (c : List Int) (n : Nat) : Int := sm n (fun i => sm i (fun k => if 0 < val c i ∧ val c i < val c k then 1 else 0))
omit ha hb hN in
theorem ind_bd (p : Nat → Prop) [DecidablePred p] (n : Nat) : 0 ≤ sm n (fun k => if p k then (1 : Int) else 0) ∧ sm n (fun k => if p k then (1 : Int) else 0) ≤ n := by
  have := sm_bd (f := fun k => if p k then (1 : Int) else 0) (a := 0) (b := 1) n (fun i _ => by split <;> omega)
  omega
omit ha hb hN in
theorem ind2_bd (p : Nat → Nat → Prop) [∀ i, DecidablePred (p i)] {n : Nat} (hn : n ≤ 25) : 0 ≤ sm n (fun i => sm i (fun k => if p i k then (1 : Int) else 0)) ∧ sm n (fun i => sm i (fun k => if p i k then (1 : Int) else 0)) ≤ 625 := by
  have := sm_bd (f := fun i => sm i (fun k => if p i k then (1 : Int) else 0)) (a := 0) (b := 25) n (fun i hi => by
    have := ind_bd (p i) i
    omega)
  omega

omit ha hb in
theorem inv_loop {c : List Int} (hc : c.length = a * b) (ho : Ord c) : loop (slide_parity_L1 c) (0, 0) = some (invA c (a * b)) := by
  refine loop_from (step := slide_parity_L1 c) (s0 := (0, 0)) (r := invA c (a * b)) (fun k => (invA c k, (k : Int))) (a * b) rfl ?_ ?_
  · intro i hi
    have e1 : slide_parity_L1 c (invA c i, (i : Int)) = slide_parity_J2 c (invA c i) i := if_pos (decide_eq_true (by omega))
    have hv := ho.val_eq (i := i) (by omega)
    have b1 := ind2_bd (fun i k => 0 < val c i ∧ val c i < val c k) (n := i) (by omega)
    have e2 : invA c (i + 1) = invA c i + sm i (fun k => if 0 < val c i ∧ val c i < val c k then (1 : Int) else 0) := rfl
    have b2 : 0 ≤ invA c i ∧ invA c i ≤ 625 := b1
    have b3 := fun n => ind_bd (fun k => 0 < val c i ∧ val c i < val c k) n
    show slide_parity_L1 c (invA c i, (i : Int)) = some (.next (invA c (i + 1), ((i + 1 : Nat) : Int)))
    rw [e1, e2]
    generalize invA c i = S at *
    have ec : cut c (0 : Int) (i : Int) = c.take i := by simp [cut]
    have el : (c.take i).length = i := by rw [List.length_take]; omega
    unfold slide_parity_J2
    rw [asrt_pos (by omega), asrt_pos (by omega)]
    have h := loop_from (step := slide_parity_L2 c i) (s0 := (S, 0)) (r := S + sm i (fun k => if 0 < val c i ∧ val c i < val c k then (1 : Int) else 0)) (fun n => (S + sm n (fun k => if 0 < val c i ∧ val c i < val c k then (1 : Int) else 0), (n : Int))) i (by show (S + 0, _) = _; rw [Int.add_zero]; rfl) (by
      intro k hk
      have e3 : slide_parity_L2 c i (S + sm k (fun k => if 0 < val c i ∧ val c i < val c k then (1 : Int) else 0), (k : Int)) = slide_parity_J4 c i (S + sm k (fun k => if 0 < val c i ∧ val c i < val c k then (1 : Int) else 0)) k := if_pos (decide_eq_true (by rw [ec, el]; omega))
      have b4 := b3 k
      have hk2 := ho.val_eq (i := k) (by omega)
      have eg : geti (c.take i) (k : Int) = geti c (k : Int) := by
        rw [geti_nat, geti_nat, List.getD_eq_getElem?_getD, List.getD_eq_getElem?_getD, List.getElem?_take, if_pos hk]
      rw [e3, sm_succ]
      generalize sm k (fun k => if 0 < val c i ∧ val c i < val c k then (1 : Int) else 0) = T at *
      unfold slide_parity_J4 slide_parity_J5
      rw [ec, asrt_pos (by rw [el]; omega), eg, hv.1, hk2.1, w64_of (x := (k : Int) + 1) (by omega)]
      by_cases q : 0 < val c i ∧ val c i < val c k
      · rw [if_pos (by simp; omega), if_pos q, w64_of (by omega), Int.add_assoc]; rfl
      · rw [if_neg (by simp; omega), if_neg q, Int.add_zero]; rfl) (by
      simp only [slide_parity_L2]
      rw [if_neg (by rw [ec, el]; simp)])
    rw [h, Option.bind_some]
    simp only [slide_parity_K2, slide_parity_J3]
    rw [w64_of (by omega)]; rfl
  · simp only [slide_parity_L1]
    rw [if_neg (by simp [hc])]


omit hb in
theorem parity_p {c : List Int} (hc : c.length = a * b) (ho : Ord c) (hbb : 2 ≤ b ∧ b ≤ 5) : slide_parity_m a b c = some ((invA c (a * b) + if a % 2 = 0 then (b : Int) - 1 - (pos c 0 / a : Nat) else 0) % 2) := by
  have h0 : 0 < a * b := Nat.mul_pos (by omega) (by omega)
  have hgap := Gap.ord ho (by omega)
  have bA : 0 ≤ invA c (a * b) ∧ invA c (a * b) ≤ 625 := ind2_bd (fun i k => 0 < val c i ∧ val c i < val c k) (n := a * b) hN
  have hg1 := hgap.1
  have hix := hgap.index (by omega)
  have hy : pos c 0 / a < b := Nat.div_lt_of_lt_mul (by omega)
  generalize pos c 0 = g at *
  have ha0 : (a : Int) ≠ 0 := by omega
  have bn : ∀ x : Int, 0 ≤ x ∧ x ≤ 2000 → bAnd x 1 = x % 2 := fun x hx => by
    obtain ⟨u, rfl⟩ : ∃ u : Nat, x = (u : Int) := ⟨x.toNat, by omega⟩
    rw [band1 u (by omega)]; omega
  unfold slide_parity_m
  rw [inv_loop hN hc ho, Option.bind_some]
  simp only [slide_parity_K1]
  unfold slide_parity_J1 slide_parity_J6
  rw [band1 a (by omega)]
  by_cases q : a % 2 = 0
  · rw [if_pos (by simp; omega), if_pos q, hix, Option.bind_some, asrt_pos ha0, tdiv_nat]
    generalize g / a = y at *
    rw [w64_nat (k := y) (by omega), w64_of (x := (b : Int) - 1) (by omega), w64_of (x := (b : Int) - 1 - y) (by omega), w64_of (by omega), bn _ (by omega)]
  · rw [if_neg (by simp; omega), if_neg q, bn _ (by omega), Int.add_zero]

end
end Go.Proofs.Ytkpkkdpfcbnfdaa
