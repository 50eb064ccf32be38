/-
  FourBests: the law.
-/
import Derived.Test.YtogecbgngnjhgaaPFd
namespace Go.Proofs.Ytogecbgngnjhgaa
open Go Go.GL

open Classical in
theorem best_scan {W H k m who : Int} {c : List Int} (B : Bd W H c k) (hg : okG W H c = true) (hw : who = 1 ∨ who = 2) (deep : Int) :
    ∃ a b, loop (four_Best_L1 k (W, H, c, m) who) (false, false, 0) = some (a, b) ∧ (a = true ↔ Won W H c k who) ∧ (b = true ↔ Won W H c k (3 - who)) := by
  have hsm := B.small
  have hin := okG_in hg
  have key := count_loop (step := four_Best_L1 k (W, H, c, m) who) (fun (s : Bool × Bool) (i : Nat) => (s.1, s.2, (i : Int)))
    (fun n s => (s.1 = true ↔ ∃ p : Nat, p < n ∧ InRow W H c k p ∧ geti c p = who) ∧ (s.2 = true ↔ ∃ p : Nat, p < n ∧ InRow W H c k p ∧ geti c p = 3 - who))
    (fun r => (r.1 = true ↔ Won W H c k who) ∧ (r.2 = true ↔ Won W H c k (3 - who))) c.length (false, false) ⟨by simp, by simp⟩ (by
      rintro i ⟨a, b⟩ hi ⟨h1, h2⟩
      have hci := hin i hi
      have e1 : four_Best_L1 k (W, H, c, m) who (a, b, (i : Int)) = four_Best_J5 k (W, H, c, m) who a b i := if_pos (decide_eq_true (by simp; omega))
      simp only at h1 h2 ⊢
      left
      refine ⟨(a || (decide (InRow W H c k i ∧ geti c i = who)), b || (decide (InRow W H c k i ∧ geti c i = 3 - who))), ?_, ?_, ?_⟩
      · rw [e1]
        unfold four_Best_J5 four_Best_J6
        simp only
        rw [asrt_pos (by omega), w64_of (x := (i : Int) + 1) (by omega)]
        by_cases hp : 0 < geti c i
        · rw [decide_eq_true hp, if_pos rfl, won_p B m hi hp, Option.bind_some, Bool.true_and]
          by_cases hr : InRow W H c k i
          · rw [decide_eq_true hr, if_pos rfl]
            have f1 : (geti c (i : Int) == who) = decide (InRow W H c k i ∧ geti c i = who) := by
              rw [Bool.eq_iff_iff]; simp [hr]
            have f2 : (geti c (i : Int) != who) = decide (InRow W H c k i ∧ geti c i = 3 - who) := by
              rw [Bool.eq_iff_iff]; simp only [bne_iff_ne, decide_eq_true_eq]
              constructor
              · intro h; exact ⟨hr, by clear h1 h2; omega⟩
              · rintro ⟨-, h⟩; clear h1 h2; omega
            rw [f1, f2]; rfl
          · rw [decide_eq_false hr, if_neg (by decide), decide_eq_false (p := InRow W H c k i ∧ geti c i = who) (fun h => hr h.1), decide_eq_false (p := InRow W H c k i ∧ geti c i = 3 - who) (fun h => hr h.1), Bool.or_false, Bool.or_false]; rfl
        · rw [decide_eq_false hp, if_neg (by decide), Option.bind_some, Bool.false_and, if_neg (by decide), decide_eq_false (p := InRow W H c k i ∧ geti c i = who) (fun h => by clear h1 h2; omega), decide_eq_false (p := InRow W H c k i ∧ geti c i = 3 - who) (fun h => by clear h1 h2; omega), Bool.or_false, Bool.or_false]; rfl
      · rw [Bool.or_eq_true, h1, decide_eq_true_eq]
        constructor
        · rintro (⟨p, g1, g2⟩ | g)
          · exact ⟨p, by omega, g2⟩
          · exact ⟨i, by omega, g⟩
        · rintro ⟨p, g1, g2⟩
          by_cases e : p = i
          · subst e; exact Or.inr g2
          · exact Or.inl ⟨p, by omega, g2⟩
      · rw [Bool.or_eq_true, h2, decide_eq_true_eq]
        constructor
        · rintro (⟨p, g1, g2⟩ | g)
          · exact ⟨p, by omega, g2⟩
          · exact ⟨i, by omega, g⟩
        · rintro ⟨p, g1, g2⟩
          by_cases e : p = i
          · subst e; exact Or.inr g2
          · exact Or.inl ⟨p, by omega, g2⟩) (by
      rintro ⟨a, b⟩ ⟨h1, h2⟩
      refine ⟨(a, b), ?_, ?_, ?_⟩
      · simp only [four_Best_L1]
        rw [if_neg (by simp)]
      · rw [h1, won_place B (by clear h1 h2; omega)]
      · rw [h2, won_place B (by clear h1 h2; omega)])
  obtain ⟨⟨a, b⟩, hr, h1, h2⟩ := key
  exact ⟨a, b, hr, h1, h2⟩

theorem true_FourBests (W H : Int) (c : List Int) (k deep : Int) (_hw : inI W) (_hh : inI H) (hl : c.length ≤ 17592186043904) (_hy : ∀ y ∈ c, inI y) (_h1 : inI k) (_h2 : inI deep) : gameroomlaw_FourBests_m W H c k deep = some true := by
  have hl' : c.length ≤ 17592186044416 := by omega
  unfold gameroomlaw_FourBests_m
  rw [gridOf_r hl', Option.bind_some]
  simp only
  unfold four_Best_m
  obtain ⟨m, ho⟩ := opened_p W H hl'
  rw [ho, wellMay_r W H hl']
  by_cases h1 : okW W H c = true
  · have hg : okG W H c = true := by
      unfold okW at h1
      rw [Bool.and_eq_true] at h1
      exact h1.1
    rw [if_pos h1, h1]
    simp only [Option.bind_some, Fl.elim2, Bool.not_true, Bool.false_eq_true, if_false]
    unfold four_Best_J2
    simp only
    rw [mover_f hg, mover_eq W H hl']
    simp only [Option.bind_some, four_far_m]
    by_cases h2 : ((((decide (k < 1)) || (decide ((10 : Int) < k))) || (decide (deep < 0))) || (decide ((6 : Int) < deep))) = true
    · rw [if_pos h2, Option.bind_some, if_pos h2]
      rfl
    · have h2' := h2
      rw [if_neg h2]
      simp only [Bool.or_eq_true, decide_eq_true_eq, not_or] at h2
      by_cases h3 : moverG c = 0
      · have e : (moverG c == 0) = true := by simpa using h3
        rw [if_pos e, Option.bind_some, if_neg h2', if_pos e]
        rfl
      · have e : ¬ (moverG c == 0) = true := by simpa using h3
        rw [if_neg e]
        have e' := e
        have hw : moverG c = 1 ∨ moverG c = 2 := by
          unfold moverG at h3 ⊢
          split
          · exact Or.inl rfl
          · rename_i q
            rw [if_neg q] at h3
            split
            · exact Or.inr rfl
            · rename_i q2
              rw [if_neg q2] at h3
              exact absurd rfl h3
        generalize hwho : moverG c = who at hw
        have D := okG_dm hg
        have B : Bd W H c k := ⟨D.w, D.h, D.len, by omega⟩
        unfold four_Best_J3
        obtain ⟨a, b, hs, ha, hb⟩ := best_scan (m := m) B hg hw deep
        rw [hs, Option.bind_some]
        simp only [four_Best_K1, four_Best_J4]
        have e2 : ¬ (who == 0) = true := by rw [← hwho]; exact e
        have ref : ∀ V U, gameroomref_BestDrop_m W H c k deep who 0 = some (V, U) → (if (decide (k < 1) || decide (10 < k) || decide (deep < 0) || decide (6 < deep)) = true then gameroomlaw_FourBests_J1 W H c k deep (V, U, 0) 3 else if (who == 0) = true then gameroomlaw_FourBests_J1 W H c k deep (V, U, 0) 7 else gameroomlaw_FourBests_J1 W H c k deep (V, U, 0) 0) = some true := by
          intro V U h
          rw [if_neg h2', if_neg e2]
          unfold gameroomlaw_FourBests_J1
          rw [if_neg (by decide)]
          unfold gameroomlaw_FourBests_J2
          rw [mover_eq W H hl', Option.bind_some, hwho, h, Option.bind_some]
          simp
        have first : ∀ V U, gameroomref_BestDrop_B (gameroomref_BestDrop_mF 0) W H c k deep who 0 = some (V, U) → gameroomref_BestDrop_m W H c k deep who 0 = some (V, U) := by
          intro V U h
          exact gameroomref_BestDrop_m_of (N := 1) _ _ _ _ _ _ _ h
        by_cases q1 : b = true
        · have hw1 := hb.1 q1
          rw [if_pos q1, Option.bind_some]
          refine ref _ _ (first _ _ ?_)
          unfold gameroomref_BestDrop_B
          rw [WonOf_eq B, Option.bind_some]
          simp only
          have hn : wonN W H c k ≠ who ∧ 0 < wonN W H c k := by
            unfold wonN
            rcases hw with rfl | rfl
            · rw [if_pos (show Won W H c k 2 from hw1)]; split <;> omega
            · rw [if_pos (show Won W H c k 1 from hw1)]; split <;> omega
          rw [if_neg (by simpa using hn.1)]
          unfold gameroomref_BestDrop_J1
          simp only
          rw [if_pos (decide_eq_true hn.2)]
          rfl
        · rw [if_neg q1]
          have hw1 : ¬ Won W H c k (3 - who) := fun h => q1 (hb.2 h)
          by_cases q2 : a = true
          · have hw2 := ha.1 q2
            rw [if_pos q2, Option.bind_some]
            refine ref _ _ (first _ _ ?_)
            unfold gameroomref_BestDrop_B
            rw [WonOf_eq B, Option.bind_some]
            simp only
            have hn : wonN W H c k = who := by
              unfold wonN
              rcases hw with rfl | rfl
              · rw [if_pos hw2, if_neg (show ¬ Won W H c k 2 from hw1)]; rfl
              · rw [if_pos hw2, if_neg (show ¬ Won W H c k 1 from hw1)]; rfl
            rw [hn, if_pos (by simp)]
            rfl
          · rw [if_neg q2]
            have hw2 : ¬ Won W H c k who := fun h => q2 (ha.2 h)
            have hNW : NW W H c k := by
              rcases hw with rfl | rfl
              · exact ⟨hw2, hw1⟩
              · exact ⟨hw1, hw2⟩
            obtain ⟨v, w, V, U, r1, r2, hab, hv, hV, hwU⟩ := seek_both W H k m 8 c who 0 deep (-1000) 1000 B hw (by omega) (by omega) (by omega) (by omega) (by omega) (by omega) (by omega) hNW
            have ev : v = V := hab.2.1 (by omega) (by omega)
            have ew : w = U := hwU rfl rfl
            subst ev ew
            unfold four_Best_J7
            simp only
            rw [four_well_seek_m_of _ _ _ _ _ _ _ _ _ _ _ r1, Option.bind_some, Option.bind_some]
            exact ref _ _ (gameroomref_BestDrop_m_of _ _ _ _ _ _ _ _ r2)
  · rw [Bool.not_eq_true] at h1
    rw [h1]
    rfl
end Go.Proofs.Ytogecbgngnjhgaa
