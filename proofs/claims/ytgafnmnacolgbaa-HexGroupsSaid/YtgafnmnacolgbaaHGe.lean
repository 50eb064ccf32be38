/-
  HexGroups: the law.
-/
import Derived.Test.YtgafnmnacolgbaaHGd
namespace Go.Proofs.Ytgafnmnacolgbaa
open Go Go.GL

section
variable {W H : Int} {c : List Int} {who : Int}

theorem check_p (hs : c.length ≤ 17592186044416) : hex_check_m W H c = some (if okG W H c = true ∧ W = H then 0 else 12) := by
  unfold hex_check_m hex_check_J1
  rw [may_p W H hs, Option.bind_some]
  by_cases h : okG W H c = true ∧ W = H
  · rw [if_pos h, h.1, h.2]
    simp
  · rw [if_neg h, if_pos]
    simp only [Bool.or_eq_true, Bool.not_eq_true', bne_iff_ne, ne_eq]
    by_cases h2 : okG W H c = true
    · exact .inr fun e => h ⟨h2, e⟩
    · exact .inl (by simpa using h2)

theorem hexMay_r (hs : c.length ≤ 17592186044416) : gameroomref_HexMay_m W H c = some (decide (okG W H c = true ∧ W = H)) := by
  unfold gameroomref_HexMay_m
  rw [gridMay_eq W H hs, Option.bind_some]
  congr 1
  rw [Bool.eq_iff_iff, decide_eq_true_eq, Bool.and_eq_true, beq_iff_eq]

theorem gridOf_eq (hs : c.length ≤ 17592186044416) : gameroomref_GridOf_m W H c = some (W, H, c) := by
  unfold gameroomref_GridOf_m gameroomref_Ints_m
  rw [asrt_pos (by unfold bigN; omega)]
  rfl

theorem hexGroups_true (hs : c.length ≤ 17592186044416) : gameroomlaw_HexGroups_m W H c who = some true := by
  classical
  unfold gameroomlaw_HexGroups_m
  simp only [gridOf_eq hs, Option.bind_some]
  unfold hex_Groups_m hex_Joined_m hex_player_m hex_player_J1
  rw [check_p hs, hexMay_r hs]
  by_cases h : okG W H c = true ∧ W = H
  · obtain ⟨h1, rfl⟩ := h
    have B := okG_dm h1
    have hsm := B.small
    obtain ⟨m, y, k1, k2, k3⟩ := joined_both B
    have hr := grpsH_ok (W := W) (c := c) (v := who)
    have hsr : gameroomlaw_sameRows_m (grpsH W c who c.length) (grpsH W c who c.length) = some true := by
      rw [sameRows_eq (by have := hr.len; omega) (fun x hx => by have := nodup_len (hr.nd x hx) (hr.mem x hx); omega)]
      simp
    have hsi : gameroomlaw_sameInts_m y y = some true := by
      rw [sameInts_eq (by omega)]
      simp
    unfold hex_Groups_J1 hex_Joined_J1
    rw [groups_p B, k1, if_pos ⟨h1, rfl⟩, decide_eq_true (show okG W W c = true ∧ W = W from ⟨h1, rfl⟩)]
    simp only [Option.bind_some, bne_self_eq_false, Bool.false_eq_true, if_false, beq_self_eq_true, Bool.true_and, Bool.not_true]
    unfold gameroomlaw_HexGroups_J1
    by_cases hw : who = 1 ∨ who = 2
    · have e1 : ((who != 1) && (who != 2)) = false := by
        rcases hw with rfl | rfl <;> decide
      rw [e1]
      simp only [Bool.false_eq_true, if_false, Option.bind_some, bne_self_eq_false]
      rw [k2]
      simp only [Option.bind_some, bne_self_eq_false, Bool.or_self, Bool.not_false, if_true, hsi, Bool.not_true, Bool.false_eq_true, if_false]
      unfold gameroomlaw_HexGroups_J2 gameroomlaw_HexGroups_J3 gameroomlaw_HexGroups_J4
      rw [e1, groups_r B]
      simp [hsr]
    · have e1 : ((who != 1) && (who != 2)) = true := by
        simp only [Bool.and_eq_true, bne_iff_ne, ne_eq]
        exact ⟨fun h => hw (.inl h), fun h => hw (.inr h)⟩
      rw [e1]
      simp only [if_true, Option.bind_some]
      rw [show ((4 : Int) != 0) = true from rfl]
      simp only [if_true, Option.bind_some]
      rw [k2]
      simp only [Option.bind_some, bne_self_eq_false, Bool.or_self, Bool.not_false, if_true, hsi, Bool.not_true, Bool.false_eq_true, if_false]
      unfold gameroomlaw_HexGroups_J2
      rw [e1]
      simp
  · rw [if_neg h, decide_eq_false h]
    simp only [Option.bind_some]
    rw [show ((12 : Int) == 0) = false from rfl]
    simp
end
theorem true_HexGroups (W H : Int) (c : List Int) (who : Int) (_hw : inI W) (_hh : inI H) (hl : c.length ≤ 17592186043904) (_hy : ∀ y ∈ c, inI y) (_h1 : inI who) : gameroomlaw_HexGroups_m W H c who = some true := hexGroups_true (by omega)
end Go.Proofs.Ytgafnmnacolgbaa
