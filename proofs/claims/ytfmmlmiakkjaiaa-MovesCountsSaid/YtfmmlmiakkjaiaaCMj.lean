/-
  Chess: rows of moves are counted alike.
-/
import Derived.Test.YtfmmlmiakkjaiaaCMi
namespace Go.Proofs.Ytfmmlmiakkjaiaa
open Go Go.GL Go.RowKit

/-- Two sums in step. -/
theorem two_sum {s1 s2 : Int × Int → Option (St (Int × Int) Int)} (len V : Nat) (h : ∀ i : Nat, i < len → ∃ v : Int, 0 ≤ v ∧ v ≤ V ∧ ∀ n : Int, 0 ≤ n → n ≤ (i * V : Nat) → s1 (n, (i : Int)) = some (.next (n + v, ((i + 1 : Nat) : Int))) ∧ s2 (n, (i : Int)) = some (.next (n + v, ((i + 1 : Nat) : Int))))
    (he : ∀ n : Int, s1 (n, (len : Int)) = some (.done n) ∧ s2 (n, (len : Int)) = some (.done n)) : ∃ T : Int, 0 ≤ T ∧ T ≤ (len * V : Nat) ∧ loop s1 (0, 0) = some T ∧ loop s2 (0, 0) = some T := by
  have key : ∀ (r i : Nat) (n : Int), i + r = len → 0 ≤ n → n ≤ (i * V : Nat) → ∃ T : Int, 0 ≤ T ∧ T ≤ (len * V : Nat) ∧ loop s1 (n, (i : Int)) = some T ∧ loop s2 (n, (i : Int)) = some T := by
    intro r
    induction r with
    | zero =>
      intro i n hi h0 hn
      have : i = len := by omega
      subst this
      exact ⟨n, h0, hn, loop_done (he n).1, loop_done (he n).2⟩
    | succ r ih =>
      intro i n hi h0 hn
      obtain ⟨v, v0, vV, hv⟩ := h i (by omega)
      obtain ⟨e1, e2⟩ := hv n h0 hn
      obtain ⟨T, t0, tV, l1, l2⟩ := ih (i + 1) (n + v) (by omega) (by omega) (by rw [Nat.add_mul, Nat.one_mul]; omega)
      exact ⟨T, t0, tV, loop_next' e1 l1, loop_next' e2 l2⟩
  have := key len 0 0 (by omega) (by omega) (by omega)
  exact this

section
variable {p : List Int} {t c e h f : Int}

theorem count_both : ∀ (d : Nat) (p : List Int) (t c e h f : Int), d ≤ 3 → Inv p t c e h f → ∃ v : Int, 0 ≤ v ∧ v ≤ (20000 ^ d : Nat) ∧ moves_count_mF (d + 1) p t c e h f d = some v ∧ gameroomref_CountRows_mF (d + 1) p t c e h f d = some v
  | 0, p, t, c, e, h, f, _, I => by
    refine ⟨1, by omega, by simp, ?_, ?_⟩
    · show moves_count_B (moves_count_mF 0) p t c e h f ((0 : Nat) : Int) = _
      unfold moves_count_B moves_count_J1
      rw [if_neg (by decide), if_pos (by decide)]
    · show gameroomref_CountRows_B (gameroomref_CountRows_mF 0) p t c e h f ((0 : Nat) : Int) = _
      unfold gameroomref_CountRows_B
      rw [if_pos (by decide)]
  | 1, p, t, c, e, h, f, _, I => by
    have hl := refL_len I
    refine ⟨((refL p t c e).length : Int), by omega, by omega, ?_, ?_⟩
    · show moves_count_B (moves_count_mF 1) p t c e h f ((1 : Nat) : Int) = _
      unfold moves_count_B moves_count_J1
      rw [if_pos (by decide), moves_p I, Option.bind_some, if_neg (by decide), if_pos (by decide)]
    · show gameroomref_CountRows_B (gameroomref_CountRows_mF 1) p t c e h f ((1 : Nat) : Int) = _
      unfold gameroomref_CountRows_B gameroomref_CountRows_J1
      rw [if_neg (by decide), all_p I, Option.bind_some, if_pos (by decide)]
  | d + 2, p, t, c, e, h, f, hd, I => by
    have hl := refL_len I
    have hpow : (20000 : Nat) ^ (d + 1) ≤ 400000000 := by
      have : d = 0 ∨ d = 1 := by omega
      rcases this with rfl | rfl <;> decide
    have hw : w64 (((d + 2 : Nat) : Int) - 1) = ((d + 1 : Nat) : Int) := by rw [w64_of (by omega)]; omega
    have hmul : (refL p t c e).length * 20000 ^ (d + 1) ≤ 20000 * 20000 ^ (d + 1) := Nat.mul_le_mul_right _ hl
    have hbig : 20000 * 20000 ^ (d + 1) ≤ 8000000000000 := by omega
    obtain ⟨T, t0, tV, l1, l2⟩ := two_sum (s1 := moves_count_L1 (moves_count_mF (d + 2)) p t c e h f ((d + 2 : Nat) : Int) (refL p t c e)) (s2 := gameroomref_CountRows_L1 (gameroomref_CountRows_mF (d + 2)) p t c e h f ((d + 2 : Nat) : Int) (refL p t c e)) (refL p t c e).length (20000 ^ (d + 1)) (fun i hi => by
      obtain ⟨m, hm⟩ : ∃ m, (refL p t c e)[i]? = some m := ⟨_, List.getElem?_eq_getElem hi⟩
      obtain ⟨q, t', c', e', h', f', a1, a2, I', _⟩ := step_p I (List.mem_of_getElem? hm)
      obtain ⟨v, v0, vV, r1, r2⟩ := count_both (d + 1) q t' c' e' h' f' (by omega) I'
      refine ⟨v, v0, vV, fun n n0 nV => ?_⟩
      have hiV : i * 20000 ^ (d + 1) ≤ (refL p t c e).length * 20000 ^ (d + 1) := Nat.mul_le_mul_right _ (by omega)
      have hg : getd ((0, 0, 0) : Int × Int × Int) (refL p t c e) (i : Int) = m := getd_some hm
      constructor
      · simp only [moves_count_L1]
        rw [if_pos (decide_eq_true (by omega))]
        unfold moves_count_J4 moves_count_J5
        rw [asrt_pos (by omega), hg, a1, Option.bind_some, hw, r1, Option.bind_some, w64_of (x := n + v) (by omega), w64_of (by omega)]
        rfl
      · simp only [gameroomref_CountRows_L1]
        rw [if_pos (decide_eq_true (by omega))]
        unfold gameroomref_CountRows_J4 gameroomref_CountRows_J5
        rw [asrt_pos (by omega), hg, a2, Option.bind_some, hw, r2, Option.bind_some, w64_of (x := n + v) (by omega), w64_of (by omega)]
        rfl) (fun n => ⟨by simp only [moves_count_L1]; exact if_neg (by simp), by simp only [gameroomref_CountRows_L1]; exact if_neg (by simp)⟩)
    refine ⟨T, t0, ?_, ?_, ?_⟩
    · have : (20000 : Nat) ^ (d + 2) = 20000 * 20000 ^ (d + 1) := by rw [Nat.pow_succ, Nat.mul_comm]
      omega
    · show moves_count_B (moves_count_mF (d + 2)) p t c e h f ((d + 2 : Nat) : Int) = _
      unfold moves_count_B moves_count_J1
      rw [if_pos (decide_eq_true (by omega)), moves_p I, Option.bind_some, if_neg (by simp; omega), if_neg (by simp; omega)]
      unfold moves_count_J2
      rw [l1, Option.bind_some]
      rfl
    · show gameroomref_CountRows_B (gameroomref_CountRows_mF (d + 2)) p t c e h f ((d + 2 : Nat) : Int) = _
      unfold gameroomref_CountRows_B gameroomref_CountRows_J1
      rw [if_neg (by simp; omega), all_p I, Option.bind_some, if_neg (by simp; omega)]
      unfold gameroomref_CountRows_J2
      rw [l2, Option.bind_some]
      rfl

theorem chessOf_any (hl : p.length ≤ 17592186043904) (t c e h f : Int) : gameroomref_ChessOf_m p t c e h f = some (p, t, c, e, h, f) := by
  unfold gameroomref_ChessOf_m gameroomref_Ints_m
  rw [asrt_pos (by unfold bigN; omega)]
  simp

theorem true_MovesCounts (p : List Int) (p2 p3 p4 p5 p6 plies : Int) (hl : p.length ≤ 17592186043904) (hin : ∀ y ∈ p, inI y) (_h2 : inI p2) (_h3 : inI p3) (_h4 : inI p4) (_h5 : inI p5) (_h6 : inI p6) (_h7 : inI plies) : gameroomlaw_MovesCounts_m p p2 p3 p4 p5 p6 plies = some true := by
  unfold gameroomlaw_MovesCounts_m
  rw [chessOf_any hl, Option.bind_some]
  simp only
  obtain ⟨b, q1, q2, _⟩ := may_both hin p2 p3 p4 p5 p6
  unfold moves_Count_m
  rw [q1, Option.bind_some, q2]
  cases b with
  | false => rfl
  | true =>
    have I := may_inv hin q1
    simp only [Bool.not_true, Bool.false_eq_true, if_false]
    by_cases hr : (decide (plies < 0) || decide ((3 : Int) < plies)) = true
    · rw [if_pos hr, Option.bind_some, Option.bind_some]
      try simp only [Bool.not_true, Bool.false_eq_true, if_false]
      rw [if_pos hr]
      rfl
    · rw [if_neg hr]
      simp only [Bool.or_eq_true, decide_eq_true_eq] at hr
      obtain ⟨d, rfl⟩ : ∃ d : Nat, plies = d := ⟨plies.toNat, by omega⟩
      obtain ⟨v, _, _, r1, r2⟩ := count_both d p p2 p3 p4 p5 p6 (by omega) I
      unfold moves_Count_J1
      rw [moves_count_m_of _ _ _ _ _ _ _ _ r1, Option.bind_some, Option.bind_some, Option.bind_some]
      try simp only [Bool.not_true, Bool.false_eq_true, if_false]
      rw [if_neg (by simp only [Bool.or_eq_true, decide_eq_true_eq]; exact hr)]
      unfold gameroomlaw_MovesCounts_J1 gameroomlaw_MovesCounts_J2
      rw [if_neg (by decide)]
      simp only
      rw [if_pos (by decide), gameroomref_CountRows_m_of _ _ _ _ _ _ _ _ r2, Option.bind_some]
      simp
end
end Go.Proofs.Ytfmmlmiakkjaiaa
