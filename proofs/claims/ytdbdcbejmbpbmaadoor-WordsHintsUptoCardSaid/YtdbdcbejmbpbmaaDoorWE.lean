/-
  WordsHints: the law.
-/
import Derived.Test.YtdbdcbejmbpbmaaDoorWD
namespace Go.Proofs.YtdbdcbejmbpbmaaDoor
open Go Go.GL

theorem true_WordsHints (s g : List UInt8) (a b : List Int) (hs : s.length ≤ 1048576) (hg : g.length ≤ 1048576) (ha : a.length ≤ 1048576) (hb : b.length ≤ 1048576) : gameroomlaw_WordsHints_m s g a b = some true := by
  unfold gameroomlaw_WordsHints_m words_Hint_m gameroomlaw_ints_m
  rw [word_p (by omega), word_p (by omega), asrt_pos (by unfold bigN; omega), asrt_pos (by unfold bigN; omega), List.nil_append, List.nil_append]
  have tail : ∀ r1 : List UInt8 × Int, ((isW s = false ∨ isW g = false) → r1 = ([], 14)) → (isW s = true → isW g = true → (runesL s).length ≠ (runesL g).length → r1 = ([], 11)) → (isW s = true → isW g = true → (runesL s).length = (runesL g).length → ∃ r, gameroomref_HintOf_m s g = some r ∧ r1 = (r, 0)) → gameroomlaw_WordsHints_J1 s g r1 = some true := by
    intro r1 h1 h2 h3
    unfold gameroomlaw_WordsHints_J1
    rw [wordMay_r (by omega), wordMay_r (by omega), Option.bind_some]
    cases q1 : isW s with
    | false =>
      rw [h1 (Or.inl q1)]
      rfl
    | true =>
      cases q2 : isW g with
      | false =>
        rw [h1 (Or.inr q2)]
        rfl
      | true =>
        simp only [Bool.not_true, Bool.not_false, if_true, Option.bind_some, Bool.or_self, Bool.false_eq_true, if_false]
        unfold gameroomlaw_WordsHints_J2
        rw [letters_at (by omega), letters_at (by omega), Option.bind_some, Option.bind_some]
        by_cases q : (runesL s).length = (runesL g).length
        · obtain ⟨r, r2, rfl⟩ := h3 q1 q2 q
          rw [if_neg (by simp [q])]
          unfold gameroomlaw_WordsHints_J3
          simp [r2]
        · rw [h2 q1 q2 q, if_pos (by simp; omega)]
          rfl
  have hH : ∃ r1, ((if (!(!isW s)) = true then some (isW g) else some false).bind fun r2 => if ((!isW s) || (!r2)) = true then some (([] : List UInt8), (14 : Int)) else words_Hint_J1 s g) = some r1 ∧ gameroomlaw_WordsHints_J1 s g r1 = some true := by
    cases q1 : isW s with
    | false =>
      refine ⟨([], 14), by rfl, tail _ (fun _ => rfl) (fun h => ?_) (fun h => ?_)⟩
      · rw [q1] at h; cases h
      · rw [q1] at h; cases h
    | true =>
      cases q2 : isW g with
      | false =>
        refine ⟨([], 14), by rfl, tail _ (fun _ => rfl) (fun _ h => ?_) (fun _ h => ?_)⟩
        · rw [q2] at h; cases h
        · rw [q2] at h; cases h
      | true =>
        simp only [Bool.not_true, Bool.not_false, if_true, Option.bind_some, Bool.or_self, Bool.false_eq_true, if_false]
        unfold words_Hint_J1
        rw [asrt_pos (by unfold bigN; omega), asrt_pos (by unfold bigN; omega)]
        by_cases q : (runesL s).length = (runesL g).length
        · rw [if_neg (by simp [q])]
          unfold words_Hint_J2
          have fa : (runesL s).any forB = false := by
            unfold isW at q1
            rw [Bool.and_eq_true, Bool.not_eq_true'] at q1
            exact q1.2
          have fb : (runesL g).any forB = false := by
            unfold isW at q2
            rw [Bool.and_eq_true, Bool.not_eq_true'] at q2
            exact q2.2
          obtain ⟨r, r1, r2⟩ := hint_both (s := s) (g := g) (by omega) (by omega) fa fb q
          rw [r1, Option.bind_some]
          refine ⟨(r, 0), rfl, tail _ (fun h => ?_) (fun _ _ h => absurd q h) (fun _ _ _ => ⟨r, r2, rfl⟩)⟩
          rw [q1, q2] at h
          rcases h with h | h <;> cases h
        · rw [if_pos (by simp; omega)]
          refine ⟨([], 11), rfl, tail _ (fun h => ?_) (fun _ _ _ => rfl) (fun _ _ h => absurd h q)⟩
          rw [q1, q2] at h
          rcases h with h | h <;> cases h
  obtain ⟨r1, e1, e2⟩ := hH
  simp only [Option.bind_some]
  rw [e1]
  simp only [Option.bind_some]
  by_cases q : a.length = b.length ∧ a.length ≤ 8
  · obtain ⟨x, y, c1, c2⟩ := codes_both q.1 q.2
    rw [c1, Option.bind_some, if_neg (by simp; omega), c2, Option.bind_some, if_neg (by simp)]
    exact e2
  · have c1 : words_Codes_m a b = some (0, 0, 11) := by
      unfold words_Codes_m
      rw [if_pos]
      rw [Bool.or_eq_true, decide_eq_true_eq, bne_iff_ne]
      omega
    rw [c1, Option.bind_some, if_pos, if_neg (by simp)]
    · exact e2
    · rw [Bool.or_eq_true, decide_eq_true_eq, bne_iff_ne]
      omega
end Go.Proofs.YtdbdcbejmbpbmaaDoor
