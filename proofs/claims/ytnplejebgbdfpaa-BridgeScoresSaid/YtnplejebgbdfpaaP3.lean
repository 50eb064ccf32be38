/-
  BridgeScores: the plain law. Outside the contract's range both sides say so; inside it every case is computed.
-/
import Derived.Test.YtnplejebgbdfpaaM3
import Derived.Test.YtnplejebgbdfpaaLibP
namespace Go.Proofs.Ytnplejebgbdfpaa
open Go Go.GL

noncomputable def bsAll (d : Int) : Bool :=
  (List.range 7).all fun l => (List.range 5).all fun s => (List.range 14).all fun t => [true, false].all fun v => 
    decide (gameroomlaw_BridgeScores_mN 20 ((l : Int) + 1) s d 0 v t = some true)

set_option maxRecDepth 100000 in
theorem bsAll0 : bsAll 0 = true := by decide +kernel
set_option maxRecDepth 100000 in
theorem bsAll1 : bsAll 1 = true := by decide +kernel
set_option maxRecDepth 100000 in
theorem bsAll2 : bsAll 2 = true := by decide +kernel

theorem bs_decl (l s d e : Int) (v : Bool) (t : Int) (h0 : 0 ≤ e) (h3 : e ≤ 3) :
    gameroomlaw_BridgeScores_m l s d e v t = gameroomlaw_BridgeScores_m l s d 0 v t := by
  have h1 : ¬ e < 0 := by omega
  have h2 : ¬ 3 < e := by omega
  have hS : bridge_Score_m l s d e v t = bridge_Score_m l s d 0 v t := by
    unfold bridge_Score_m; simp [h1, h2]
  have hM : gameroomref_ContractMay_m l s d e t = gameroomref_ContractMay_m l s d 0 t := by
    unfold gameroomref_ContractMay_m gameroomref_within_m; simp [h0, h3]
  unfold gameroomlaw_BridgeScores_m
  rw [hS, hM]
  rfl

theorem bs_in (l s d e : Int) (v : Bool) (t : Int) (hl : 1 ≤ l) (hl' : l ≤ 7) (hs : 0 ≤ s) (hs' : s ≤ 4) (hd : 0 ≤ d) (hd' : d ≤ 2)
    (he : 0 ≤ e) (he' : e ≤ 3) (ht : 0 ≤ t) (ht' : t ≤ 13) : gameroomlaw_BridgeScores_m l s d e v t = some true := by
  rw [bs_decl l s d e v t he he']
  refine gameroomlaw_BridgeScores_m_le 20 l s d 0 v t true ?_
  have hall : bsAll d = true := by
    have : d = 0 ∨ d = 1 ∨ d = 2 := by omega
    rcases this with rfl | rfl | rfl
    · exact bsAll0
    · exact bsAll1
    · exact bsAll2
  unfold bsAll at hall
  have h1 := List.all_eq_true.mp hall (l - 1).toNat (List.mem_range.mpr (by omega))
  have h2 := List.all_eq_true.mp h1 s.toNat (List.mem_range.mpr (by omega))
  have h3 := List.all_eq_true.mp h2 t.toNat (List.mem_range.mpr (by omega))
  have h4 := List.all_eq_true.mp h3 v (by cases v <;> simp)
  have h5 := of_decide_eq_true h4
  have e1 : ((l - 1).toNat : Int) + 1 = l := by omega
  have e2 : (s.toNat : Int) = s := by omega
  have e3 : (t.toNat : Int) = t := by omega
  rw [e1, e2, e3] at h5
  exact h5

theorem true_BridgeScores (l s d e : Int) (v : Bool) (t : Int) (_ : inI l) (_ : inI s) (_ : inI d) (_ : inI e) (_ : inI t) :
    gameroomlaw_BridgeScores_m l s d e v t = some true := by
  by_cases h : (1 ≤ l ∧ l ≤ 7 ∧ 0 ≤ s ∧ s ≤ 4 ∧ 0 ≤ d ∧ d ≤ 2 ∧ 0 ≤ e ∧ e ≤ 3 ∧ 0 ≤ t ∧ t ≤ 13)
  · obtain ⟨a, b, c, f, g, i, j, k, m, n⟩ := h
    exact bs_in l s d e v t a b c f g i j k m n
  · have hS : bridge_Score_m l s d e v t = some (0, 3) := by
      unfold bridge_Score_m
      rw [if_pos]
      simp only [Bool.or_eq_true, decide_eq_true_eq]
      omega
    have hM : gameroomref_ContractMay_m l s d e t = some false := by
      unfold gameroomref_ContractMay_m gameroomref_within_m
      simp only [Option.bind_some]
      by_cases h1 : (1 ≤ l ∧ l ≤ 7) <;> by_cases h2 : (0 ≤ s ∧ s ≤ 4) <;> by_cases h3 : (0 ≤ d ∧ d ≤ 2) <;> by_cases h4 : (0 ≤ e ∧ e ≤ 3) <;> by_cases h5 : (0 ≤ t ∧ t ≤ 13) <;>
        simp [h1, h2, h3, h4, h5] <;> omega
    unfold gameroomlaw_BridgeScores_m
    rw [hS, hM]
    rfl

end Go.Proofs.Ytnplejebgbdfpaa
