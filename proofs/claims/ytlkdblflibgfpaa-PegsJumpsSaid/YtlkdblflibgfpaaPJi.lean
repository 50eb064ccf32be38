/-
  Pegs: Jumps, Do and Class answer as the document says.
-/
import Derived.Test.YtlkdblflibgfpaaPJh
namespace Go.Proofs.Ytlkdblflibgfpaa
open Go Go.GL

theorem gridOf_eq {W H : Int} {c : List Int} (hs : c.length ≤ 17592186044416) : gameroomref_GridOf_m W H c = some (W, H, c) := by
  unfold gameroomref_GridOf_m gameroomref_Ints_m
  rw [asrt_pos (by unfold bigN; omega)]
  simp

theorem true_PegsJumps (g1 g2 : Int) (c : List Int) (l1 : List (Int × Int × Int)) (_hw : inI g1) (_hh : inI g2) (hl : c.length ≤ 17592186043904) (_hy : ∀ y ∈ c, inI y) (hl1 : l1.length ≤ 5864062014805) (_hi : ∀ y ∈ l1, inI y.1 ∧ inI y.2.1 ∧ inI y.2.2) : gameroomlaw_PegsJumps_m g1 g2 c l1 = some true := by
  have hs : c.length ≤ 17592186044416 := by omega
  unfold gameroomlaw_PegsJumps_m gameroomlaw_list_m
  rw [gridOf_eq hs, gridMay_eq g1 g2 hs, asrt_pos (by unfold bigT; omega), List.nil_append]
  simp only [Option.bind_some]
  unfold pegs_Jumps_m pegs_Do_m pegs_Class_m
  rw [may_p g1 g2 hs]
  simp only [Option.bind_some]
  cases hok : okG g1 g2 c with
  | false => rfl
  | true =>
    obtain ⟨B1, B2, B3⟩ := okG_dm hok
    obtain ⟨W, rfl⟩ : ∃ W : Nat, g1 = W := ⟨g1.toNat, by omega⟩
    obtain ⟨H, rfl⟩ : ∃ H : Nat, g2 = H := ⟨g2.toNat, by omega⟩
    have B : Dm W H c := ⟨B1, B2, B3⟩
    have hcl := len_le B
    simp only [Bool.not_true, Bool.false_eq_true, if_false]
    obtain ⟨cl, k1, k2⟩ := class_both B
    have hclone : slices_Clone_m c = some c := by
      unfold slices_Clone_m slices_Clone_J1
      rw [asrt_pos (by unfold bigN; omega)]
      simp
    obtain ⟨d', made, no, D', hL, hP⟩ := do_both B hl1 l1.length 0 c (by omega) ⟨rfl, fun _ _ => Iff.rfl⟩ B
    have hL' : loop (gameroomlaw_PegsJumps_L1 l1) ((W : Int), (H : Int), c, 0, 0, 0) = some ((W : Int), (H : Int), d', made, no) := hL
    have hdl := len_le D'
    have hdo : pegs_Do_J1 W H c l1 = some ((W : Int), (H : Int), d', made, no) := by
      unfold pegs_Do_J1
      rw [hclone, Option.bind_some, jumps_p B, Option.bind_some]
      rcases hP with ⟨q1, q2, q3⟩ | ⟨q1, q2⟩
      · have q3' : loop (pegs_Do_L1 W H l1 (allJ W H c)) (c, 0) = some (Fl.go d') := q3
        rw [q3', Option.bind_some, q1, q2]
        rfl
      · have q2' : loop (pegs_Do_L1 W H l1 (allJ W H c)) (c, 0) = some (Fl.ret ((W : Int), (H : Int), d', made, 8)) := q2
        rw [q2', Option.bind_some, q1]
        rfl
    rw [Jumps_p B, hdo, k1]
    simp only [Option.bind_some]
    unfold gameroomlaw_PegsJumps_J1
    rw [gridOf_eq hs]
    simp only [Option.bind_some]
    rw [hL', Option.bind_some]
    simp only [gameroomlaw_PegsJumps_K1]
    unfold gameroomlaw_PegsJumps_J2 gameroomlaw_PegsJumps_J5
    have hsm := sameMoves_self (l := jumpsL W c) (by have := jumpsL_len B; omega)
    have hsi := sameInts_self (l := d') (by omega)
    rw [if_pos (by rfl), JumpsOf_p B]
    simp only [Option.bind_some]
    rw [if_pos (by rfl), hsm]
    simp only [Option.bind_some]
    unfold gameroomref_SameGrid_m
    rw [if_pos (by simp), if_pos (by simp), hsi]
    simp only [Option.bind_some]
    rw [if_pos (by simp), k2]
    simp
end Go.Proofs.Ytlkdblflibgfpaa
