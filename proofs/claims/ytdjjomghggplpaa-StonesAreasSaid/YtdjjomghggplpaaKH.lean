/-
  StonesAreas: the law.
-/
import Derived.Test.YtdjjomghggplpaaKG
namespace Go.Proofs.Ytdjjomghggplpaa
open Go Go.GL

theorem true_StonesAreas (W H : Int) (c : List Int) (who : Int) (_hw : inI W) (_hh : inI H) (hl : c.length ≤ 17592186043904) (_hy : ∀ y ∈ c, inI y) (_hwho : inI who) : gameroomlaw_StonesAreas_m W H c who = some true := by
  classical
  have hl' : c.length ≤ 17592186044416 := by omega
  have hgo : gameroomref_GridOf_m W H c = some (W, H, c) := by
    unfold gameroomref_GridOf_m gameroomref_Ints_m
    rw [asrt_pos (by unfold bigN; omega), Option.bind_some, List.nil_append]
  unfold gameroomlaw_StonesAreas_m stones_Areas_m stones_Alive_m
  rw [hgo]
  simp only [Option.bind_some]
  rw [may_p W H hl', gridMay_eq W H hl']
  simp only [Option.bind_some]
  by_cases h1 : okG W H c = true
  · have B := okG_dm h1
    have V : ∀ b : Nat, b < c.length → 0 ≤ geti c b ∧ geti c b ≤ 2 := fun b hb => okG_in h1 b hb
    have hsm := B.small
    rw [h1]
    simp only [Bool.not_true, Bool.false_eq_true, if_false]
    rw [areas_p B V, Option.bind_some]
    obtain ⟨o, o1, o2, o3, o4, o5⟩ := areas_r B V
    have fin : ∀ r4 : List Int × Int, gameroomlaw_StonesAreas_J2 W H c who r4 = some true → gameroomlaw_StonesAreas_J1 W H c who ((nR c.length (Cnt W c c.length 1) : Int), (nR c.length (Cnt W c c.length 2) : Int), (nR c.length (Cnt W c c.length 0) : Int), 0) r4 = some true := by
      intro r4 h
      unfold gameroomlaw_StonesAreas_J1
      rw [o1, Option.bind_some, asrt_pos (fun _ => by omega), asrt_pos (fun _ => by omega), asrt_pos (fun _ => by omega), o3, o4, o5, own_cnt, own_cnt, own_cnt]
      simp only [bne_self_eq_false, Bool.or_self, Bool.false_eq_true, if_false]
      exact h
    by_cases hw : who = 1 ∨ who = 2
    · have w1 : ((who != 1) && (who != 2)) = false := by
        rcases hw with e | e <;> subst e <;> rfl
      obtain ⟨X, x1, x2, x3⟩ := alive_p B (v := who) (by omega)
      obtain ⟨Y, y1, y2, y3⟩ := alive_r B (v := who)
      have e : X = Y := funext fun b => propext (low_uniq x1 x2 y1 y2 b)
      subst e
      rw [w1, if_neg (by decide), x3, Option.bind_some]
      refine fin _ ?_
      unfold gameroomlaw_StonesAreas_J2 gameroomlaw_StonesAreas_J3 gameroomlaw_StonesAreas_J4
      rw [w1, if_neg (by decide), if_pos (by rfl), y3, Option.bind_some, if_pos (by rfl)]
      have hal : (aliveL c who X).length ≤ c.length := flen _ _
      rw [sameInts_r (by show (aliveL c who X).length ≤ _; omega), decide_eq_true rfl]
      rfl
    · have w1 : ((who != 1) && (who != 2)) = true := by
        rw [Bool.and_eq_true]
        exact ⟨by simpa using fun e => hw (Or.inl e), by simpa using fun e => hw (Or.inr e)⟩
      rw [w1, if_pos rfl, Option.bind_some]
      refine fin _ ?_
      unfold gameroomlaw_StonesAreas_J2
      rw [w1, if_pos rfl]
      rfl
  · have h1' : okG W H c = false := by simpa using h1
    rw [h1']
    rfl
end Go.Proofs.Ytdjjomghggplpaa
