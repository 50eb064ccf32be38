import Derived.Test.YtfmmlmiakkjaiaaCMc
namespace Go.Proofs.Ytfmmlmiakkjaiaa
open Go Go.GL Go.RowKit
theorem cnt_uniq {q : Nat → Bool} : ∀ n, cntN q n = 1 → ∃ k, k < n ∧ ∀ j, j < n → (q j = true ↔ j = k)
 | 0, h => by simp [cntN] at h
 | n + 1, h => by
  simp only [cntN] at h
  by_cases hq : q n = true
  ·rw [if_pos hq] at h
   have h0 : cntN q n = 0 := by omega
   have hz : ∀ j, j < n → q j = false := by
    intro j hj
    cases hj' : q j with
    | false => rfl
    | true =>
     have : ∀ m, j < m → cntN q m ≠ 0 := by
      intro m
      induction m with
      | zero => intro h; omega
      | succ m ih =>
       intro hjm
       simp only [cntN]
       by_cases e : j = m
       ·subst e; rw [if_pos hj']; omega
       ·have := ih (by omega); omega
     exact absurd h0 (this n hj)
   refine ⟨n, by omega, fun j hj => ?_⟩
   by_cases e : j = n
   ·subst e; simp [hq]
   ·rw [hz j (by omega)]; simp [e]
  ·rw [if_neg hq] at h
   obtain ⟨k, hk, hu⟩ := cnt_uniq n h
   refine ⟨k, by omega, fun j hj => ?_⟩
   by_cases e : j = n
   ·subst e
    have : ¬ j = k := by omega
    simp [hq, this]
   ·exact hu j (by omega)
theorem bit_tab : ((List.range 16).all fun c => (List.range 4).all fun n => ((bAnd (shrK .i64 (c : Int) (n : Int)) 1 == 1) == cbit (c : Int) n)) = true := by decide +kernel
theorem bit_p {c : Int} (hc : 0 ≤ c ∧ c ≤ 15) {n : Nat} (hn : n < 4) : (bAnd (shrK .i64 c (n : Int)) 1 == 1) = cbit c n := by
 have h := List.all_eq_true.1 (List.all_eq_true.1 bit_tab c.toNat (List.mem_range.2 (by omega))) n (List.mem_range.2 hn)
 rw [show ((c.toNat : Nat) : Int) = c by omega] at h
 simpa using h
section
variable {p : List Int}
theorem cast_cases (hl : p.length = 64) (p3 : Int) : loop (board_May_L2 p p3) 0 = some (Fl.ret false) ∨ (castC p p3 0 4 7 1 = false ∧ castC p p3 1 4 0 1 = false ∧ castC p p3 2 60 63 (-1) = false ∧ castC p p3 3 60 56 (-1) = false) := by
 have e0 := cast0_p hl p3
 have e1 := cast1_p hl p3
 have e2 := cast2_p hl p3
 have e3 := cast3_p hl p3
 by_cases c0 : castC p p3 0 4 7 1 = true
 ·rw [if_pos c0] at e0
  exact .inl (loop_done e0)
 rw [if_neg c0] at e0
 by_cases c1 : castC p p3 1 4 0 1 = true
 ·rw [if_pos c1] at e1
  exact .inl (loop_next' e0 (loop_done e1))
 rw [if_neg c1] at e1
 by_cases c2 : castC p p3 2 60 63 (-1) = true
 ·rw [if_pos c2] at e2
  exact .inl (loop_next' e0 (loop_next' e1 (loop_done e2)))
 rw [if_neg c2] at e2
 by_cases c3 : castC p p3 3 60 56 (-1) = true
 ·rw [if_pos c3] at e3
  exact .inl (loop_next' e0 (loop_next' e1 (loop_next' e2 (loop_done e3))))
 exact .inr ⟨by simpa using c0, by simpa using c1, by simpa using c2, by simpa using c3⟩
theorem pass_facts (hl : p.length = 64) {p2 : Int} (h2 : p2 = 0 ∨ p2 = 1) {p3 p4 p5 p6 : Int} (h : board_passant_m p p2 p3 p4 p5 p6 = some true) : ∃ b : Nat, p4 = b ∧ ((b / 8 : Nat) : Int) = 5 - 3 * p2 ∧ geti p b = 0 ∧ geti p ((b : Int) - 8 * sgn p2) = - sgn p2 := by
 unfold board_passant_m at h
 rcases h2 with rfl | rfl
 ·rw [forward_small (by decide), show (1 - 2 * (0 : Int)) = 1 from rfl] at h
  simp only [Option.bind_some] at h
  rw [show w64 (5 - w64 (3 * 0)) = ((5 : Nat) : Int) by decide, rank_b p4 5 (by decide), show w64 (8 * 1) = 8 by decide, show w64 (w64 (0 - 1) * 1) = -1 by decide, show (8 * ((5 : Nat) : Int)) = 40 from rfl, show ((40 : Int) + 7) = 47 from rfl] at h
  by_cases hb : (decide ((40 : Int) ≤ p4) && decide (p4 ≤ 47)) = true
  ·have hb' := hb
   rw [Bool.and_eq_true, decide_eq_true_eq, decide_eq_true_eq] at hb'
   rw [w64_of (x := p4 - 8) (by omega), w64_of (x := p4 + 8) (by omega)] at h
   repeat rw [asrt_pos (fun _ => by omega)] at h
   injection h with h
   simp only [Bool.and_eq_true, decide_eq_true_eq, beq_iff_eq] at h
   obtain ⟨b, rfl⟩ : ∃ b : Nat, p4 = b := ⟨p4.toNat, by omega⟩
   exact ⟨b, rfl, by omega, h.1.1.2, h.1.2⟩
  ·rw [Bool.not_eq_true] at hb
   rw [hb] at h
   simp [asrt] at h
 ·rw [forward_small (by decide), show (1 - 2 * (1 : Int)) = -1 from rfl] at h
  simp only [Option.bind_some] at h
  rw [show w64 (5 - w64 (3 * 1)) = ((2 : Nat) : Int) by decide, rank_b p4 2 (by decide), show w64 (8 * -1) = -8 by decide, show w64 (w64 (0 - -1) * 1) = 1 by decide, show (8 * ((2 : Nat) : Int)) = 16 from rfl, show ((16 : Int) + 7) = 23 from rfl] at h
  by_cases hb : (decide ((16 : Int) ≤ p4) && decide (p4 ≤ 23)) = true
  ·have hb' := hb
   rw [Bool.and_eq_true, decide_eq_true_eq, decide_eq_true_eq] at hb'
   rw [w64_of (x := p4 - -8) (by omega), w64_of (x := p4 + -8) (by omega)] at h
   repeat rw [asrt_pos (fun _ => by omega)] at h
   injection h with h
   simp only [Bool.and_eq_true, decide_eq_true_eq, beq_iff_eq] at h
   obtain ⟨b, rfl⟩ : ∃ b : Nat, p4 = b := ⟨p4.toNat, by omega⟩
   exact ⟨b, rfl, by omega, h.1.1.2, h.1.2⟩
  ·rw [Bool.not_eq_true] at hb
   rw [hb] at h
   simp [asrt] at h
theorem may_inv (hin : ∀ y ∈ p, inI y) {t c e h f : Int} (hm : board_May_m p t c e h f = some true) : Inv p t c e h f := by
 unfold board_May_m at hm
 split at hm
 ·injection hm with hm; cases hm
 rename_i hg
 simp only [Bool.or_eq_true, bne_iff_ne, decide_eq_true_eq, not_or, Decidable.not_not] at hg
 have hl : p.length = 64 := by omega
 have ht : t = 0 ∨ t = 1 := by omega
 have hc15 : 0 ≤ c ∧ c ≤ 15 := by omega
 unfold board_May_J1 at hm
 rw [show List.replicate 2 (0 : Int) = [0, 0] from rfl] at hm
 rcases loops1 hl (fun b hb => hin _ (List.mem_of_getElem? (get_geti (by omega)))) with ⟨q1, _⟩ | ⟨⟨hs, hbad⟩, q1, _⟩
 ·rw [q1] at hm
  have hm : some false = some true := hm
  cases hm
 rw [q1, Option.bind_some] at hm
 simp only [board_May_K1] at hm
 unfold board_May_J2 at hm
 have g0 : ∀ a b : Int, geti [a, b] 0 = a ∧ geti [a, b] 1 = b := fun a b => ⟨rfl, rfl⟩
 rw [(g0 _ _).1, (g0 _ _).2, (g0 _ _).1, (g0 _ _).2] at hm
 by_cases hk : cntV p 6 64 = 1 ∧ cntV p (-6) 64 = 1
 ·rw [hk.1, hk.2] at hm
  obtain ⟨k6, hk6, u6⟩ := cnt_uniq (q := fun i => decide (geti p i = 6)) 64 hk.1
  obtain ⟨km, hkm, um⟩ := cnt_uniq (q := fun i => decide (geti p i = -6)) 64 hk.2
  have hkg : ∀ s : Int, s = 0 ∨ s = 1 → ∃ k : Nat, k < 64 ∧ ∀ j : Nat, j < 64 → (geti p j = kingV s ↔ j = k) := by
   rintro s (rfl | rfl)
   ·exact ⟨k6, hk6, fun j hj => by have := u6 j hj; simpa [kingV] using this⟩
   ·exact ⟨km, hkm, fun j hj => by have := um j hj; simpa [kingV] using this⟩
  have hck := check_both hs (side := 1 - t) (by omega) (by
   obtain ⟨k, h1, h2⟩ := hkg (1 - t) (by omega)
   exact ⟨k, h1, (h2 k h1).2 rfl⟩)
  rw [w64_of (by omega), hck.1] at hm
  cases hc : inChk p (1 - t) with
  | true =>
   rw [hc] at hm
   have hm : some false = some true := hm
   cases hm
  | false =>
   rw [hc] at hm
   have hm : board_May_J6 p t c e h f = some true := hm
   unfold board_May_J6 at hm
   rcases cast_cases hl c with hr | ⟨c0, c1, c2, c3⟩
   ·rw [hr] at hm
    have hm : some false = some true := hm
    cases hm
   ·have hcs : ∀ n : Nat, n < 4 → cbit c n = true → geti p (homeK n) = 6 * sgn ((n / 2 : Nat) : Int) ∧ geti p (homeR n) = 4 * sgn ((n / 2 : Nat) : Int) := by
     intro n hn hb
     have key : ∀ (k r f : Int), castC p c (n : Int) k r f = false → geti p k = 6 * f ∧ geti p r = 4 * f := by
      intro k r f h
      unfold castC at h
      rw [bit_p hc15 hn, hb] at h
      simp only [Bool.true_and, Bool.or_eq_false_iff, bne_eq_false_iff_eq] at h
      exact h
     have hcases : n = 0 ∨ n = 1 ∨ n = 2 ∨ n = 3 := by omega
     rcases hcases with rfl | rfl | rfl | rfl
     ·exact key 4 7 1 c0
     ·exact key 4 0 1 c1
     ·exact key 60 63 (-1) c2
     ·exact key 60 56 (-1) c3
    obtain ⟨b, d1, _⟩ := cast_both hl c
    rw [d1] at hm
    cases b with
    | true =>
     have hm : some false = some true := hm
     cases hm
    | false =>
     simp only [Bool.false_eq_true, if_false, Option.bind_some, board_May_K2] at hm
     unfold board_May_J7 at hm
     refine ⟨hs, ht, hc15, by omega, by omega, hkg, fun j hj h1 => ?_, hc, hcs, ?_⟩
     ·have := hbad j hj
      unfold badP at this
      simp only [Bool.or_eq_false_iff, Bool.and_eq_false_iff, decide_eq_false_iff_not, Bool.not_eq_false'] at this
      rcases this.2 with h | h
      ·exact absurd h1 h
      ·omega
     ·by_cases h9 : e = -1
      ·exact .inl h9
      ·right
       have e9 : (e == -1) = false := by simpa using h9
       rw [e9] at hm
       simp only [Bool.not_false, if_true, Bool.false_or] at hm
       cases hp : board_passant_m p t c e h f with
       | none => rw [hp] at hm; simp at hm
       | some b =>
        rw [hp, Option.bind_some] at hm
        injection hm with hm
        subst hm
        exact pass_facts hl ht hp
 ·have hw : ((((cntV p 6 64 : Nat) : Int) == 1) && (((cntV p (-6) 64 : Nat) : Int) == 1)) = false := by
   rw [Bool.eq_false_iff]
   intro q
   simp only [Bool.and_eq_true, beq_iff_eq] at q
   omega
  rw [hw] at hm
  have hm : some false = some true := hm
  cases hm
end
end Go.Proofs.Ytfmmlmiakkjaiaa
