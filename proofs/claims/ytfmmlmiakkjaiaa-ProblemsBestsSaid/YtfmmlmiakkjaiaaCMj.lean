import Derived.Test.YtfmmlmiakkjaiaaCMi
namespace Go.Proofs.Ytfmmlmiakkjaiaa
open Go Go.GL Go.RowKit
theorem two_sum {s1 s2 : Int × Int → Option (St (Int × Int) Int)} (len V : Nat) (h : ∀ i : Nat, i < len → ∃ v : Int, 0 ≤ v ∧ v ≤ V ∧ ∀ n : Int, 0 ≤ n → n ≤ (i * V : Nat) → s1 (n, (i : Int)) = some (.next (n + v, ((i + 1 : Nat) : Int))) ∧ s2 (n, (i : Int)) = some (.next (n + v, ((i + 1 : Nat) : Int))))
  (he : ∀ n : Int, s1 (n, (len : Int)) = some (.done n) ∧ s2 (n, (len : Int)) = some (.done n)) : ∃ T : Int, 0 ≤ T ∧ T ≤ (len * V : Nat) ∧ loop s1 (0, 0) = some T ∧ loop s2 (0, 0) = some T := by
 have key : ∀ (r i : Nat) (n : Int), i + r = len → 0 ≤ n → n ≤ (i * V : Nat) → ∃ T : Int, 0 ≤ T ∧ T ≤ (len * V : Nat) ∧ loop s1 (n, (i : Int)) = some T ∧ loop s2 (n, (i : Int)) = some T := by
  intro r
  induction r with
  | zero =>
   intro i n hi h0 hn
   have : i = len := by omega
   subst this
   exact ⟨n, h0, hn, loop_done (he n).1, loop_done (he n).2⟩
  | succ r ih =>
   intro i n hi h0 hn
   obtain ⟨v, v0, vV, hv⟩ := h i (by omega)
   obtain ⟨e1, e2⟩ := hv n h0 hn
   obtain ⟨T, t0, tV, l1, l2⟩ := ih (i + 1) (n + v) (by omega) (by omega) (by rw [Nat.add_mul, Nat.one_mul]; omega)
   exact ⟨T, t0, tV, loop_next' e1 l1, loop_next' e2 l2⟩
 have := key len 0 0 (by omega) (by omega) (by omega)
 exact this
section
variable {p : List Int} {t c e h f : Int}
theorem chessOf_any (hl : p.length ≤ 17592186043904) (t c e h f : Int) : rf_ChessOf_m p t c e h f = some (p, t, c, e, h, f) := by
 unfold rf_ChessOf_m rf_Ints_m
 rw [asrt_pos (by unfold bigN; omega)]
 simp
end
end Go.Proofs.Ytfmmlmiakkjaiaa
