/-
  Words: what a word is, on both sides.
-/
import Derived.Test.YtdbdcbejmbpbmaaDoorNWF
import Derived.Test.YtdbdcbejmbpbmaaDoorWA
import Derived.Test.YtdbdcbejmbpbmaaDoorLibX
namespace Go.Proofs.YtdbdcbejmbpbmaaDoor
open Go Go.GL

section
variable {s : List UInt8}

theorem count_at (hl : s.length ≤ 4611686018427387904) : ∀ (b : Nat) (p n : Int), 0 ≤ p → 0 ≤ n → n ≤ p → p ≤ s.length → (s.length : Int) ≤ p + b → loop (utf8_RuneCountInString_L1 s) (n, p) = some (n + (runesF s b p).length) := by
  intro b
  induction b with
  | zero =>
    intro p n h0 hn hnp hp hb
    have : runesF s 0 p = [] := rfl
    rw [this]
    refine loop_done ?_
    simp only [utf8_RuneCountInString_L1]
    rw [if_neg (by rw [decide_eq_true_eq]; omega)]
    simp
  | succ b ih =>
    intro p n h0 hn hnp hp hb
    by_cases h : p < s.length
    · have hw := wid_pos (s := s) (p := p)
      have hle := wid_le h0 h
      have st : utf8_RuneCountInString_L1 s (n, p) = some (.next (n + 1, p + swid s p)) := by
        simp only [utf8_RuneCountInString_L1]
        rw [if_pos (decide_eq_true h)]
        unfold utf8_RuneCountInString_J2
        rw [w64_of (by omega)]
      refine loop_next' st ?_
      have ex : runesF s (b + 1) p = srune s p :: runesF s b (p + swid s p) := by
        conv => lhs; unfold runesF
        rw [if_pos h]
      rw [ih _ _ (by omega) (by omega) (by omega) hle (by omega), ex, List.length_cons]
      congr 1
      omega
    · unfold runesF
      rw [if_neg h]
      refine loop_done ?_
      simp only [utf8_RuneCountInString_L1]
      rw [if_neg (by rw [decide_eq_true_eq]; omega)]
      simp
theorem count_r (hl : s.length ≤ 4611686018427387904) : utf8_RuneCountInString_m s = some ((runesL s).length : Int) := by
  unfold utf8_RuneCountInString_m
  rw [count_at hl s.length 0 0 (by omega) (by omega) (by omega) (by omega) (by omega), Option.bind_some]
  simp only [utf8_RuneCountInString_K1, utf8_RuneCountInString_J1, Int.zero_add]
  rfl
theorem index_at : ∀ (b : Nat) (p : Int), 0 ≤ p → (s.length : Int) ≤ p + b → ∃ r, loop (strings_indexFunc_L1 s true) p = some r ∧ (((runesF s b p).any forB = false ∧ r = .go ()) ∨ ((runesF s b p).any forB = true ∧ ∃ q, 0 ≤ q ∧ r = .ret q)) := by
  intro b
  induction b with
  | zero =>
    intro p h0 hb
    refine ⟨.go (), loop_done ?_, .inl ⟨rfl, rfl⟩⟩
    simp only [strings_indexFunc_L1]
    rw [if_neg (by rw [decide_eq_true_eq]; omega)]
  | succ b ih =>
    intro p h0 hb
    by_cases h : p < s.length
    · have hw := wid_pos (s := s) (p := p)
      have e1 : strings_indexFunc_L1 s true p = strings_indexFunc_J2 s true p := by
        simp only [strings_indexFunc_L1]
        rw [if_pos (decide_eq_true h)]
      have e2 : strings_indexFunc_J2 s true p = if forB (srune s p) = true then some (.done (.ret p)) else some (.next (p + swid s p)) := by
        unfold strings_indexFunc_J2 words_foreign_m
        rw [Option.bind_some]
        have : (((decide (srune s p < 97) || decide ((122 : Int) < srune s p)) && ((decide (srune s p < 223) || decide ((255 : Int) < srune s p)) || (srune s p == 247))) == true) = forB (srune s p) := by
          unfold forB; simp
        rw [this]
      have ex : runesF s (b + 1) p = srune s p :: runesF s b (p + swid s p) := by
        conv => lhs; unfold runesF
        rw [if_pos h]
      rw [ex, List.any_cons]
      by_cases hf : forB (srune s p) = true
      · refine ⟨.ret p, loop_done (by rw [e1, e2, if_pos hf]), .inr ⟨by rw [hf]; rfl, p, h0, rfl⟩⟩
      · obtain ⟨r, hr, hc⟩ := ih (p + swid s p) (by omega) (by omega)
        have hf' : forB (srune s p) = false := by simpa using hf
        refine ⟨r, loop_next' (by rw [e1, e2, if_neg hf]) hr, ?_⟩
        rw [hf', Bool.false_or]
        exact hc
    · refine ⟨.go (), loop_done ?_, .inl ⟨?_, rfl⟩⟩
      · simp only [strings_indexFunc_L1]
        rw [if_neg (by rw [decide_eq_true_eq]; omega)]
      · unfold runesF
        rw [if_neg h]; rfl
theorem contains_r : strings_ContainsFunc_m s = some ((runesL s).any forB) := by
  unfold strings_ContainsFunc_m strings_IndexFunc_m strings_indexFunc_m
  obtain ⟨r, hr, h⟩ := index_at (s := s) s.length 0 (by omega) (by omega)
  rw [hr, Option.bind_some]
  have e : runesF s s.length 0 = runesL s := rfl
  rw [e] at h
  rcases h with ⟨h1, rfl⟩ | ⟨h1, q, h2, rfl⟩
  · rw [h1]; rfl
  · rw [h1]
    simp only [strings_indexFunc_K1, Option.bind_some]
    rw [decide_eq_true h2]

/-- What a word is. -/
def isW (s : List UInt8) : Bool := (decide (1 ≤ (runesL s).length) && decide ((runesL s).length ≤ 8)) && !(runesL s).any forB
theorem word_p (hl : s.length ≤ 17592186044416) : words_word_m s = some (isW s) := by
  unfold words_word_m utf8_ValidString_m
  rw [count_r (by omega), Option.bind_some, asrt_pos (by unfold bigN; omega), contains_r]
  unfold isW
  have e1 : decide ((1 : Int) ≤ ((runesL s).length : Int)) = decide (1 ≤ (runesL s).length) := by rw [decide_eq_decide]; omega
  have e2 : decide (((runesL s).length : Int) ≤ 8) = decide ((runesL s).length ≤ 8) := by rw [decide_eq_decide]; omega
  rw [e1, e2]
  cases h1 : (decide (1 ≤ (runesL s).length) && decide ((runesL s).length ≤ 8)) with
  | false => rfl
  | true =>
    cases h2 : (runesL s).any forB with
    | true => cases validS s <;> rfl
    | false => rw [validS_ok h2]; rfl

/-- The letters as texts. -/
theorem cut_one {p : Int} (h0 : 0 ≤ p) (hp : p < s.length) (hl : Let1 s p) : cut s p (p + 1) = encR (srune s p) := by
  have h1 := (step_1 hl).1
  unfold Let1 at hl
  rw [h1]
  have hg : s[p.toNat]? = some (s.getD p.toNat 0) := by
    rw [List.getD_eq_getElem?_getD, List.getElem?_eq_getElem (by omega)]; rfl
  unfold cut encR
  rw [show (p + 1 - p).toNat = 1 by omega, List.take_one, List.head?_drop, hg, if_pos (by omega)]
  unfold getU
  simp
theorem cut_two {p : Int} (h0 : 0 ≤ p) (hl : Let2 s p) : cut s p (p + 2) = encR (srune s p) := by
  have h1 := (step_2 h0 hl).1
  obtain ⟨g1, g2, g3, g4, g5⟩ := hl
  rw [h1]
  have hp : p.toNat + 1 < s.length := by omega
  have ha : s[p.toNat]? = some (s.getD p.toNat 0) := by
    rw [List.getD_eq_getElem?_getD, List.getElem?_eq_getElem (by omega)]; rfl
  have hb : s[p.toNat + 1]? = some (s.getD (p + 1).toNat 0) := by
    rw [show (p + 1).toNat = p.toNat + 1 by omega, List.getD_eq_getElem?_getD, List.getElem?_eq_getElem (by omega)]; rfl
  have hd : s.drop p.toNat = s.getD p.toNat 0 :: s.getD (p + 1).toNat 0 :: s.drop (p.toNat + 2) := by
    rw [List.drop_eq_getElem_cons (i := p.toNat) (by omega), List.drop_eq_getElem_cons (i := p.toNat + 1) (by omega)]
    congr 1
    · have := (List.getElem?_eq_some_iff.1 ha).2; exact this
    · congr 1
      have := (List.getElem?_eq_some_iff.1 hb).2; exact this
  unfold cut encR
  rw [show (p + 2 - p).toNat = 2 by omega, hd, if_neg (by omega)]
  unfold getU at g2 ⊢
  have e : s.getD p.toNat 0 = 195 := by
    apply UInt8.toNat_inj.1
    show _ = 195
    omega
  simp only [List.take_succ_cons, List.take_zero]
  rw [e]
  congr 1
  simp

theorem lettersOf_at (hl : s.length ≤ 8796093022208) : ∀ (b : Nat) (p : Int) (l : List (List UInt8)), 0 ≤ p → p ≤ s.length → (l.length : Int) ≤ p → (s.length : Int) ≤ p + b →
    loop (gameroomref_lettersOf_L1 s false) (l, p) = some (if (runesF s b p).any forB then .ret ([], false) else .go (l ++ (runesF s b p).map encR)) := by
  classical
  intro b
  induction b with
  | zero =>
    intro p l h0 hp hll hb
    refine loop_done ?_
    simp only [gameroomref_lettersOf_L1]
    rw [if_neg (by rw [decide_eq_true_eq]; omega)]
    simp [runesF]
  | succ b ih =>
    intro p l h0 hp hll hb
    by_cases h : p < s.length
    · have hw := wid_pos (s := s) (p := p)
      have hle := wid_le h0 h
      have ex : runesF s (b + 1) p = srune s p :: runesF s b (p + swid s p) := by
        conv => lhs; unfold runesF
        rw [if_pos h]
      have e1 : gameroomref_lettersOf_L1 s false (l, p) = gameroomref_lettersOf_J2 s false l p := by
        simp only [gameroomref_lettersOf_L1]
        rw [if_pos (decide_eq_true h)]
      have hu : 0 ≤ getU s p ∧ getU s p < 256 := by
        unfold getU
        have := (s.getD p.toNat 0).toNat_lt
        omega
      have hu1 : 0 ≤ getU s (p + 1) ∧ getU s (p + 1) < 256 := by
        unfold getU
        have := (s.getD (p + 1).toNat 0).toNat_lt
        omega
      have e2 : gameroomref_lettersOf_J2 s false l p = if Let1 s p ∨ Let2 s p then some (.next (l ++ [encR (srune s p)], p + swid s p)) else some (.done (.ret ([], false))) := by
        unfold gameroomref_lettersOf_J2 gameroomref_within_m
        rw [asrt_pos (by omega), Option.bind_some, asrt_pos (fun h => by cases h), w64_of (x := getU s p) (by omega), w64_of (x := p + 1) (by omega)]
        by_cases c1 : Let1 s p
        · have c1' := c1
          unfold Let1 at c1'
          rw [if_pos (Or.inl c1), decide_eq_true c1'.1, decide_eq_true c1'.2, if_pos (by rfl), asrt_pos (by omega), asrt_pos (by unfold bigP; omega), cut_one h0 h c1, (step_1 c1).2]
        · have c1' : (decide (97 ≤ getU s p) && decide (getU s p ≤ 122)) = false := by
            rw [Bool.and_eq_false_iff, decide_eq_false_iff_not, decide_eq_false_iff_not]
            unfold Let1 at c1
            omega
          rw [c1', if_neg (by simp)]
          unfold gameroomref_lettersOf_J3 gameroomref_within_m gameroomref_lettersOf_J4
          rw [w64_of (x := p + 1) (by omega), w64_of (x := getU s (p + 1)) (by omega), w64_of (x := p + 2) (by omega)]
          rw [asrt_pos (fun _ => by omega), asrt_pos (fun hh => by
            rw [Bool.and_eq_true, decide_eq_true_eq] at hh
            omega)]
          by_cases c2 : Let2 s p
          · have c2' := c2
            obtain ⟨g1, g2, g3, g4, g5⟩ := c2'
            rw [if_pos (Or.inr c2), decide_eq_true g1, show (getU s p == 195) = true from beq_iff_eq.2 g2, if_pos (by rfl), Option.bind_some, decide_eq_true g3, decide_eq_true g4, asrt_pos (fun _ => by omega), show (getU s (p + 1) != 183) = true by simpa using g5, if_pos (by rfl), asrt_pos (by omega), asrt_pos (by unfold bigP; omega), cut_two h0 c2, (step_2 h0 c2).2]
          · rw [if_neg (show ¬ (Let1 s p ∨ Let2 s p) from fun q => q.elim c1 c2)]
            by_cases d1 : p + 1 < s.length
            · have as3 : ∀ {α : Type} (q : Bool) (x : Option α), asrt (q = true → 0 ≤ p + 1 ∧ p + 1 < (s.length : Int)) x = x := fun q x => asrt_pos (fun _ => by omega)
              by_cases d2 : getU s p = 195
              · rw [decide_eq_true d1, show (getU s p == 195) = true from beq_iff_eq.2 d2, if_pos (by rfl), Option.bind_some, as3]
                by_cases d3 : 159 ≤ getU s (p + 1) ∧ getU s (p + 1) ≤ 191
                · have d4 : getU s (p + 1) = 183 := by
                    refine Classical.byContradiction fun q => c2 ⟨d1, d2, d3.1, d3.2, q⟩
                  rw [d4]
                  simp
                · have d3' : (decide (159 ≤ getU s (p + 1)) && decide (getU s (p + 1) ≤ 191)) = false := by
                    rw [Bool.and_eq_false_iff, decide_eq_false_iff_not, decide_eq_false_iff_not]
                    omega
                  rw [d3']
                  simp
              · rw [show (getU s p == 195) = false by simpa using d2]
                simp only [Bool.and_false, Bool.false_eq_true, if_false, Option.bind_some, Bool.false_and]
                exact asrt_pos (fun hh => hh.elim)
            · rw [decide_eq_false d1]
              simp only [Bool.false_and, Bool.false_eq_true, if_false, Option.bind_some]
              exact asrt_pos (fun hh => hh.elim)
      rw [ex, List.any_cons]
      cases hf : forB (srune s p) with
      | true =>
        have hb := step_bad h0 hf
        rw [Bool.true_or, if_pos rfl]
        exact loop_done (by rw [e1, e2, if_neg (by rintro (q | q); exact hb.1 q; exact hb.2 q)])
      | false =>
        have ho := step_ok h0 h hf
        rw [Bool.false_or]
        refine loop_next' (by rw [e1, e2, if_pos ho]) ?_
        rw [ih _ _ (by omega) hle (by rw [List.length_append]; simp; omega) (by omega)]
        congr 2
        simp
    · refine loop_done ?_
      simp only [gameroomref_lettersOf_L1]
      rw [if_neg (by rw [decide_eq_true_eq]; omega)]
      unfold runesF
      rw [if_neg h]
      simp
theorem lettersOf_r (hl : s.length ≤ 8796093022208) : gameroomref_lettersOf_m s false = some (if (runesL s).any forB then ([], false) else ((runesL s).map encR, true)) := by
  unfold gameroomref_lettersOf_m
  rw [lettersOf_at hl s.length 0 [] (by omega) (by omega) (by simp) (by omega), Option.bind_some]
  have e : runesF s s.length 0 = runesL s := rfl
  rw [e]
  cases (runesL s).any forB <;> rfl
theorem wordMay_r (hl : s.length ≤ 8796093022208) : gameroomref_WordMay_m s = some (isW s) := by
  unfold gameroomref_WordMay_m gameroomref_within_m
  rw [lettersOf_r hl, Option.bind_some]
  unfold isW
  cases h : (runesL s).any forB with
  | true =>
    simp
  | false =>
    simp only [Bool.false_eq_true, if_false, if_true, Option.bind_some, List.length_map, Bool.true_and, Bool.not_false, Bool.and_true]
    congr 2
    · rw [decide_eq_decide]; omega
    · rw [decide_eq_decide]; omega
end
end Go.Proofs.YtdbdcbejmbpbmaaDoor
