/-
  PokerCounts: the numbers of hands of each class.
-/
import Derived.Test.YtnplejebgbdfpaaPCk
namespace Go.Proofs.Ytnplejebgbdfpaa
open Go Go.GL

def allC : List Nat := [1302540, 1098240, 123552, 54912, 10200, 5108, 3744, 624, 40]
theorem pc_r : poker_Counts_m = some [1302540, 1098240, 123552, 54912, 10200, 5108, 3744, 624, 40] := poker_Counts_mn_le _ (by decide +kernel)
def PA : List (Nat × Nat) := PT 5 [] 12
theorem PA_mem : ∀ x ∈ PA, x.1 < 9 ∧ x.2 ≤ 1024 := PT_mem 5 [] 12
theorem PA_len : PA.length ≤ 742586 := PT_len 5 [] 12 (Nat.le_refl _)
theorem kA : KT 5 [] 12 < bigC := by rw [kAll]; decide +kernel
theorem PA_T9 (d : Nat) (hd : d < 9) : T9 d PA = allC.getD d 0 := by
  have h1 : codeP PA = KT 5 [] 12 := (KT_code 5 [] 12 kA).symm
  rw [code_horn PA (fun x hx => (PA_mem x hx).1), kAll] at h1
  have h2 : horn (fun c => allC.getD c 0) 0 9 = 40000000624000003744000005108000010200000054912000123552001098240001302540 := by decide +kernel
  refine horn_inj (T := fun c => T9 c PA) (U := fun c => allC.getD c 0) 9 0 (fun c => ?_) (fun c => ?_) (h1.trans h2.symm) d (Nat.zero_le _) (by omega)
  · have a := T9_le c PA (fun x hx => (PA_mem x hx).2)
    have b := PA_len
    show T9 c PA < basC
    unfold basC; omega
  · show allC.getD c 0 < basC
    by_cases h : c < 9
    · have : ∀ e, e < 9 → allC.getD e 0 < basC := by decide +kernel
      exact this c h
    · rw [List.getD_eq_getElem?_getD, List.getElem?_eq_none (by show allC.length ≤ c; have : allC.length = 9 := rfl; omega)]
      decide

theorem ref_r : gameroomref_ClassCounts_m = some (addP (List.replicate 9 0) PA) := by
  unfold gameroomref_ClassCounts_m
  have h := gameroomref_countRanks_2_m_of 6 [] 0 (List.replicate 9 0) (tree_r 0 5 [] 12 (List.replicate 9 0) (by decide) rfl (fun _ => rfl) (fun h => absurd h (by decide)) kA rfl)
  rw [asrt_pos (by unfold bigN; omega)]
  exact (congrArg (fun x => Option.bind x (fun r1 => some r1)) h)
theorem ref_get (d : Nat) (hd : d < 9) : geti (addP (List.replicate 9 0) PA) (d : Int) = ((allC.getD d 0 : Nat) : Int) := by
  have hz : ∀ e : Nat, e < 9 → geti (List.replicate 9 (0 : Int)) (e : Int) = 0 := by decide
  have hs : ∀ e : Nat, e < 9 → allC.getD e 0 < 2000000 := by decide
  rw [add_geti d PA (List.replicate 9 0) rfl (fun x hx => (PA_mem x hx).1) hd (fun e he => by
    rw [hz e he, PA_T9 e he]
    have := hs e he
    omega), hz d hd, PA_T9 d hd, Int.zero_add]

theorem true_PokerCounts (class1 : Int) (_h : inI class1) : gameroomlaw_PokerCounts_m class1 = some true := by
  unfold gameroomlaw_PokerCounts_m
  by_cases h : class1 < 0 ∨ 8 < class1
  · rw [if_pos (by rw [Bool.or_eq_true, decide_eq_true_eq, decide_eq_true_eq]; exact h)]
  · rw [if_neg (by rw [Bool.or_eq_true, decide_eq_true_eq, decide_eq_true_eq]; exact h)]
    obtain ⟨d, rfl⟩ : ∃ d : Nat, class1 = (d : Int) := ⟨class1.toNat, by omega⟩
    have hd : d < 9 := by omega
    have hg : ∀ e : Nat, e < 9 → geti [1302540, 1098240, 123552, 54912, 10200, 5108, 3744, 624, 40] (e : Int) = ((allC.getD e 0 : Nat) : Int) := by decide
    unfold gameroomlaw_PokerCounts_J1
    rw [pc_r, Option.bind_some, asrt_pos (by omega), ref_r, Option.bind_some, asrt_pos (by rw [addP_len]; simp; omega)]
    unfold gameroomlaw_PokerCounts_J2
    rw [ref_get d hd, hg d hd]
    simp
end Go.Proofs.Ytnplejebgbdfpaa
