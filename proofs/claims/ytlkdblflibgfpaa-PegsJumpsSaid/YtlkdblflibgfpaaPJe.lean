/-
  Pegs: the jumps that can be made are told alike.
-/
import Derived.Test.YtlkdblflibgfpaaPJd
namespace Go.Proofs.Ytlkdblflibgfpaa
open Go Go.GL

section
variable {W H : Nat} {c : List Int}

theorem allJ_len (B : Dm W H c) : (allJ W H c).length ≤ 400 := by
  have h1 : (rawJ W H (okJ c)).length ≤ 4 * (W * H) := part_len W H (okJ c) (W * H)
  have h2 := len_le B
  rw [len_nat B] at h2
  have h3 : (sortK cfJ (rawJ W H (okJ c))).length = (allJ W H c).length := by rw [sorted_raw]; rfl
  rw [sortK_length] at h3
  omega

theorem progJ_p (B : Dm W H c) : loop (pegs_Jumps_L1 c (allJ W H c)) (([] : List (Int × Int × Int)), 0) = some (jumpsL W c) := by
  have hl := allJ_len B
  rw [← filt_jumps B]
  refine loop_from (fun n : Nat => ((((allJ W H c).take n).filter (canC c)).map (fun j => (j.1, j.2.2, (0 : Int))), (n : Int))) (allJ W H c).length rfl (fun n hn => ?_) ?_
  · obtain ⟨j, hj⟩ : ∃ j, (allJ W H c)[n]? = some j := ⟨_, List.getElem?_eq_getElem hn⟩
    have hb := allJ_bd (n := c.length) (len_nat B) (List.mem_of_getElem? hj)
    have htl : (((allJ W H c).take n).filter (canC c)).length ≤ n := Nat.le_trans (List.length_filter_le _ _) (by rw [List.length_take]; omega)
    simp only [pegs_Jumps_L1]
    rw [if_pos (decide_eq_true (by omega))]
    unfold pegs_Jumps_J3 pegs_Jumps_J4 pegs_jump_move_m
    rw [asrt_pos (by omega), getd_some hj, can_p rfl hb.1 hb.2.1 hb.2.2, Option.bind_some, w64_succ (by omega), List.take_add_one, hj, List.filter_append, List.map_append]
    cases hc : canC c j with
    | true =>
      rw [if_pos rfl, Option.bind_some, asrt_pos (by rw [List.length_map]; unfold bigT; omega)]
      simp [hc]
    | false =>
      rw [if_neg (by simp)]
      simp [hc]
  · simp only [pegs_Jumps_L1]
    rw [if_neg (by simp), List.take_length]

theorem Jumps_p (B : Dm W H c) : pegs_Jumps_J1 W H c = some (jumpsL W c, 0) := by
  unfold pegs_Jumps_J1
  rw [jumps_p B, Option.bind_some, progJ_p B, Option.bind_some]
  rfl

theorem row_len (W : Nat) (c : List Int) (a m : Nat) : (((List.range m).filter fun (b : Nat) => canB W c a b).map fun (b : Nat) => ((a : Int), (b : Int), (0 : Int))).length ≤ m := by
  rw [List.length_map]
  exact Nat.le_trans (List.length_filter_le _ _) (by rw [List.length_range]; exact Nat.le_refl _)

theorem refRow_p (B : Dm W H c) {a : Nat} (ha : a < c.length) {l : List (Int × Int × Int)} (hl : l.length ≤ 20000) :
    loop (gameroomref_JumpsOf_L2 W H c a) (l, 0) = some (l ++ ((List.range c.length).filter fun (b : Nat) => canB W c a b).map fun (b : Nat) => ((a : Int), (b : Int), (0 : Int))) := by
  have hc := len_le B
  refine loop_from (fun m : Nat => (l ++ ((List.range m).filter fun (b : Nat) => canB W c a b).map fun (b : Nat) => ((a : Int), (b : Int), (0 : Int)), (m : Int))) c.length (by simp) (fun m hm => ?_) ?_
  · have hr := row_len W c a m
    simp only [gameroomref_JumpsOf_L2]
    rw [if_pos (decide_eq_true (by omega))]
    unfold gameroomref_JumpsOf_J4 gameroomref_JumpsOf_J5
    rw [jumpCan_in B ha hm, Option.bind_some, w64_succ (by omega), List.range_succ, List.filter_append, List.map_append]
    cases hcb : canB W c a m with
    | true =>
      rw [if_pos rfl, asrt_pos (by rw [List.length_append]; unfold bigT; omega)]
      simp [hcb]
    | false =>
      rw [if_neg (by simp)]
      simp [hcb]
  · simp only [gameroomref_JumpsOf_L2]
    exact if_neg (by simp)

theorem refJ_len (W : Nat) (c : List Int) (m : Nat) : ((List.range m).flatMap fun a => ((List.range c.length).filter fun (b : Nat) => canB W c a b).map fun (b : Nat) => ((a : Int), (b : Int), (0 : Int))).length ≤ m * c.length := by
  induction m with
  | zero => simp
  | succ m ih =>
    rw [List.range_succ, List.flatMap_append, List.length_append, List.flatMap_cons, List.flatMap_nil, List.append_nil, Nat.add_mul, Nat.one_mul]
    have := row_len W c m c.length
    omega

theorem JumpsOf_p (B : Dm W H c) : gameroomref_JumpsOf_m W H c = some (jumpsL W c) := by
  have hc := len_le B
  unfold gameroomref_JumpsOf_m
  have hl : loop (gameroomref_JumpsOf_L1 W H c) (([] : List (Int × Int × Int)), 0) = some (jumpsL W c) := by
    refine loop_from (fun m : Nat => ((List.range m).flatMap fun a => ((List.range c.length).filter fun (b : Nat) => canB W c a b).map fun (b : Nat) => ((a : Int), (b : Int), (0 : Int)), (m : Int))) c.length rfl (fun m hm => ?_) ?_
    · have hr := refJ_len W c m
      have hmc : m * c.length ≤ 100 * 100 := Nat.mul_le_mul (by omega) hc
      simp only [gameroomref_JumpsOf_L1]
      rw [if_pos (decide_eq_true (by omega))]
      unfold gameroomref_JumpsOf_J2
      rw [refRow_p B hm (by omega), Option.bind_some]
      simp only [gameroomref_JumpsOf_K2, gameroomref_JumpsOf_J3]
      rw [w64_succ (by omega), List.range_succ, List.flatMap_append, List.flatMap_cons, List.flatMap_nil, List.append_nil]
      rfl
    · simp only [gameroomref_JumpsOf_L1]
      exact if_neg (by simp)
  rw [hl, Option.bind_some]
  rfl

theorem jumpsL_len (B : Dm W H c) : (jumpsL W c).length ≤ 10000 := by
  have hc := len_le B
  have h1 : (jumpsL W c).length ≤ c.length * c.length := refJ_len W c c.length
  have h2 : c.length * c.length ≤ 100 * 100 := Nat.mul_le_mul hc hc
  omega

theorem sameMoves_self {l : List (Int × Int × Int)} (hl : l.length ≤ 1000000) : gameroomlaw_sameMoves_m l l = some true := by
  unfold gameroomlaw_sameMoves_m gameroomlaw_sameMoves_J1
  rw [if_neg (by simp)]
  have : loop (gameroomlaw_sameMoves_L1 l l) 0 = some (Fl.go ()) := by
    refine loop_from (fun n : Nat => (n : Int)) l.length rfl (fun i hi => ?_) ?_
    · simp only [gameroomlaw_sameMoves_L1]
      rw [if_pos (decide_eq_true (by omega))]
      unfold gameroomlaw_sameMoves_J3 gameroomlaw_sameMoves_J4
      rw [asrt_pos (by omega), asrt_pos (by omega), if_neg (by simp), w64_succ (by omega)]
      rfl
    · simp only [gameroomlaw_sameMoves_L1]
      exact if_neg (by simp)
  rw [this, Option.bind_some]
  rfl
theorem sameInts_self {l : List Int} (hl : l.length ≤ 1000000) : gameroomref_sameInts_m l l = some true := by
  unfold gameroomref_sameInts_m gameroomref_sameInts_J1
  rw [if_neg (by simp)]
  have : loop (gameroomref_sameInts_L1 l l) 0 = some (Fl.go ()) := by
    refine loop_from (fun n : Nat => (n : Int)) l.length rfl (fun i hi => ?_) ?_
    · simp only [gameroomref_sameInts_L1]
      rw [if_pos (decide_eq_true (by omega))]
      unfold gameroomref_sameInts_J3 gameroomref_sameInts_J4
      rw [asrt_pos (by omega), asrt_pos (by omega), if_neg (by simp), w64_succ (by omega)]
      rfl
    · simp only [gameroomref_sameInts_L1]
      exact if_neg (by simp)
  rw [this, Option.bind_some]
  rfl
end
end Go.Proofs.Ytlkdblflibgfpaa
