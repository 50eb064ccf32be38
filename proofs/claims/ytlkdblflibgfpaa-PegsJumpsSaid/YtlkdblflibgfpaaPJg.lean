/-
  Pegs: rows of jumps: both stop at the same place.
-/
import Derived.Test.YtlkdblflibgfpaaPJf
namespace Go.Proofs.Ytlkdblflibgfpaa
open Go Go.GL

section
variable {W H : Nat} {c : List Int}

theorem do_both (B : Dm W H c) {l1 : List (Int × Int × Int)} (hl : l1.length ≤ 5864062014805) : ∀ (r i : Nat) (d : List Int), i + r = l1.length → Wl c d → Dm W H d →
    ∃ (d' : List Int) (made no : Int), Dm W H d' ∧ loop (gameroomlaw_PegsJumps_L1 l1) ((W : Int), (H : Int), d, (i : Int), 0, (i : Int)) = some ((W : Int), (H : Int), d', made, no) ∧
      ((no = 0 ∧ made = (l1.length : Int) ∧ loop (pegs_Do_L1 W H l1 (allJ W H c)) (d, (i : Int)) = some (Fl.go d')) ∨ (no = 8 ∧ loop (pegs_Do_L1 W H l1 (allJ W H c)) (d, (i : Int)) = some (Fl.ret ((W : Int), (H : Int), d', made, 8))))
  | 0, i, d, hi, hw, D => by
    refine ⟨d, (i : Int), 0, D, loop_done ?_, .inl ⟨rfl, by omega, loop_done ?_⟩⟩
    · simp only [gameroomlaw_PegsJumps_L1]
      rw [if_neg (by simp; omega)]
    · simp only [pegs_Do_L1]
      rw [if_neg (by simp; omega)]
  | r + 1, i, d, hi, hw, D => by
    obtain ⟨m, hm⟩ : ∃ m, l1[i]? = some m := ⟨_, List.getElem?_eq_getElem (by omega)⟩
    have hgm : getd ((0, 0, 0) : Int × Int × Int) l1 (i : Int) = m := getd_some hm
    obtain ⟨rc, hrc, hiff⟩ := hit_iff B D hw m.1 m.2.1 m.2.2
    have hfind := find_p B hw.len m.1 m.2.1 m.2.2 (W : Int) (H : Int)
    have eL : gameroomlaw_PegsJumps_L1 l1 ((W : Int), (H : Int), d, (i : Int), 0, (i : Int)) = gameroomlaw_PegsJumps_J3 l1 W H d i 0 i := by
      simp only [gameroomlaw_PegsJumps_L1]
      exact if_pos (by simp; omega)
    have eP : pegs_Do_L1 W H l1 (allJ W H c) (d, (i : Int)) = pegs_Do_J3 W H l1 (allJ W H c) d i := by
      simp only [pegs_Do_L1]
      exact if_pos (decide_eq_true (by omega))
    unfold gameroomlaw_PegsJumps_J3 gameroomlaw_PegsJumps_J4 at eL
    rw [asrt_pos (by omega), asrt_pos (fun _ => by omega), asrt_pos (fun _ => by omega), hgm] at eL
    unfold pegs_Do_J3 at eP
    rw [asrt_pos (by omega), hgm, hfind, Option.bind_some] at eP
    rcases fidx_cases (hitJ d m.1 m.2.1 m.2.2) (allJ W H c) with ⟨k, j, hk, hj, hp⟩ | ⟨hk, hno⟩
    · have hjm := List.mem_of_getElem? hj
      obtain ⟨hi0, hr⟩ := hiff.1 ⟨j, hjm, hp⟩
      subst hr
      obtain ⟨a, b, ha, hb, hg, hok, rfl⟩ := allJ_mem.1 hjm
      have hp' := hp
      unfold hitJ at hp'
      simp only [Bool.and_eq_true, beq_iff_eq] at hp'
      have e1 : (a : Int) = m.1 := hp'.1.1
      have e2 : (b : Int) = m.2.1 := hp'.1.2.1
      have hdl := len_nat D
      have hcan : canB W d a b = true := by
        unfold canB
        rw [hg, hp'.2]; rfl
      have had : a < d.length := by omega
      have hbd : b < d.length := by omega
      obtain ⟨hw', D'⟩ := done_walls D hw had hbd hcan
      have hkl : k < (allJ W H c).length := (List.getElem?_eq_some_iff.1 hj).1
      have hi0b : (m.2.2 != 0) = false := by rw [hi0]; rfl
      rw [hi0b] at eL
      simp only [Bool.not_false, if_true, Bool.false_or] at eL
      rw [hrc, Option.bind_some] at eL
      simp only [Bool.not_true, Bool.false_eq_true, if_false] at eL
      rw [asrt_pos (by omega), ← e1, ← e2, done_p D had hbd, Option.bind_some, w64_succ (by omega)] at eL
      rw [hk, if_neg (by rw [decide_eq_true_eq]; omega)] at eP
      unfold pegs_Do_J5 pegs_Do_J4 at eP
      rw [asrt_pos (by omega), getd_some hj, show (midJ ((a : Int), (b : Int))).1 = (a : Int) from rfl, show (midJ ((a : Int), (b : Int))).2.1 = ((a : Int) + b) / 2 from rfl, show (midJ ((a : Int), (b : Int))).2.2 = (b : Int) from rfl, turn_p D had hbd hcan, Option.bind_some, w64_succ (by omega)] at eP
      obtain ⟨d', made, no, hD, hL, hP⟩ := do_both B hl r (i + 1) (doneJ d a b) (by omega) hw' D'
      refine ⟨d', made, no, hD, loop_next' eL hL, ?_⟩
      rcases hP with ⟨q1, q2, q3⟩ | ⟨q1, q2⟩
      · exact .inl ⟨q1, q2, loop_next' eP q3⟩
      · exact .inr ⟨q1, loop_next' eP q2⟩
    · have hnot : ¬ (m.2.2 = 0 ∧ rc = true) := fun q => by
        obtain ⟨j, hj, hp⟩ := hiff.2 q
        rw [hno j hj] at hp
        cases hp
      rw [hk, if_pos (by decide)] at eP
      have eL2 : gameroomlaw_PegsJumps_L1 l1 ((W : Int), (H : Int), d, (i : Int), 0, (i : Int)) = some (.next ((W : Int), (H : Int), d, (i : Int), 8, ((i + 1 : Nat) : Int))) := by
        rw [eL]
        by_cases h0 : m.2.2 = 0
        · have h0b : (m.2.2 != 0) = false := by rw [h0]; rfl
          rw [h0b]
          simp only [Bool.not_false, if_true, Bool.false_or]
          rw [hrc, Option.bind_some]
          have : rc = false := by
            cases rc with
            | false => rfl
            | true => exact absurd ⟨h0, rfl⟩ hnot
          rw [this]
          simp only [Bool.not_false, if_true]
          rw [w64_succ (by omega)]
          rfl
        · have h0b : (m.2.2 != 0) = true := by simpa using h0
          rw [h0b]
          simp only [Bool.not_true, Bool.false_eq_true, if_false, Option.bind_some, Bool.true_or, if_true]
          rw [w64_succ (by omega)]
          rfl
      refine ⟨d, (i : Int), 8, D, loop_next' eL2 (loop_done ?_), .inr ⟨rfl, loop_done eP⟩⟩
      simp only [gameroomlaw_PegsJumps_L1]
      exact if_neg (by simp)
end
end Go.Proofs.Ytlkdblflibgfpaa
