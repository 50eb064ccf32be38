/-
  Stones: the law on plays.
-/
import Derived.Test.YtjfloofoobllaaaSPb
namespace Go.Proofs.Ytjfloofoobllaaa
open Go Go.GL Go.RowKit

theorem true_StonesPlays (W H : Int) (c l : List Int) (_hw : inI W) (_hh : inI H) (hl : c.length ≤ 17592186043904) (_hy : ∀ y ∈ c, inI y) (hl2 : l.length ≤ 17592186043904) (_hy2 : ∀ y ∈ l, inI y) : gameroomlaw_StonesPlays_m W H c l = some true := by
  have hl' : c.length ≤ 17592186044416 := by omega
  have hgo : gameroomref_GridOf_m W H c = some (W, H, c) := by
    unfold gameroomref_GridOf_m gameroomref_Ints_m
    rw [asrt_pos (by unfold bigN; omega), Option.bind_some, List.nil_append]
  unfold gameroomlaw_StonesPlays_m gameroomlaw_ints_m stones_Play_m
  rw [hgo, asrt_pos (by unfold bigN; omega), List.nil_append]
  simp only [Option.bind_some]
  rw [may_p W H hl', gridMay_eq W H hl']
  simp only [Option.bind_some]
  by_cases h1 : okG W H c = true
  · have B := okG_dm h1
    have V : VB c := fun b hb => okG_in h1 b hb
    rw [h1]
    simp only [Bool.not_true, Bool.false_eq_true, if_false]
    by_cases h2 : (200 : Int) < (l.length : Int)
    · rw [if_pos (decide_eq_true h2)]
      unfold stones_Play_J3
      rw [Option.bind_some, if_pos (decide_eq_true h2)]
      rfl
    · rw [if_neg (by rw [decide_eq_true_eq]; exact h2)]
      obtain ⟨X, x1, x2, x3⟩ := play_both B V (l := l) (by omega)
      rw [x1, Option.bind_some, if_neg (by rw [decide_eq_true_eq]; exact h2)]
      unfold gameroomlaw_StonesPlays_J1
      rw [if_neg (by decide)]
      unfold gameroomlaw_StonesPlays_J2
      rw [x2, Option.bind_some]
      simp only [beq_self_eq_true, Bool.and_self, if_true]
      rw [sameGrid_eq _ _ _ _ _ (by omega), decide_eq_true rfl]
      rfl
  · rw [Bool.not_eq_true] at h1
    rw [h1]
    rfl
end Go.Proofs.Ytjfloofoobllaaa
