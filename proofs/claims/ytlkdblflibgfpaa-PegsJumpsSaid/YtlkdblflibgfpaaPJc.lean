/-
  Pegs: all jumps that a board has room for: the program's list, and whether one can be made.
-/
import Derived.Test.YtlkdblflibgfpaaPJa
import Derived.Test.YtlkdblflibgfpaaPJb
namespace Go.Proofs.Ytlkdblflibgfpaa
open Go Go.GL

theorem mul_bd {a b : Int} (h1 : -20 ≤ a ∧ a ≤ 20) (h2 : 0 ≤ b ∧ b ≤ 20) : -400 ≤ a * b ∧ a * b ≤ 400 := by
  have e1 : a * b ≤ 20 * b := Int.mul_le_mul_of_nonneg_right h1.2 h2.1
  have e2 : -20 * b ≤ a * b := Int.mul_le_mul_of_nonneg_right h1.1 h2.1
  omega

/-- No wall among three places. -/
def okJ (c : List Int) (a m b : Int) : Bool := ((geti c a != 2) && (geti c m != 2)) && (geti c b != 2)

section
variable {W H : Nat} {c : List Int}

theorem tab_dir {z : Nat} (hz : z < 4) : ∃ d1 d2 : Int, dirsJ.getD z (0, 0) = (d1, d2) ∧ geti ([1, 0, (-1), 0, 0, 1, 0, (-1)] : List Int) ((z : Int) * 2) = d1 ∧ geti ([1, 0, (-1), 0, 0, 1, 0, (-1)] : List Int) ((z : Int) * 2 + 1) = d2 ∧ ((d1 = 1 ∧ d2 = 0) ∨ (d1 = -1 ∧ d2 = 0) ∨ (d1 = 0 ∧ d2 = 1) ∨ (d1 = 0 ∧ d2 = -1)) := by
  have : z = 0 ∨ z = 1 ∨ z = 2 ∨ z = 3 := by omega
  rcases this with rfl | rfl | rfl | rfl
  · exact ⟨_, _, rfl, rfl, rfl, by simp⟩
  · exact ⟨_, _, rfl, rfl, rfl, by simp⟩
  · exact ⟨_, _, rfl, rfl, rfl, by simp⟩
  · exact ⟨_, _, rfl, rfl, rfl, by simp⟩

theorem jump_step (B : Dm W H c) {a : Nat} (ha : a < W * H) {z : Nat} (hz : z < 4) {l : List (Int × Int × Int)} (hl : l.length ≤ 1000) :
    pegs_jumps_L2 W H c a (l, (z : Int)) = some (.next (l ++ stepJ W H (okJ c) a (dirsJ.getD z (0, 0)), ((z + 1 : Nat) : Int))) := by
  obtain ⟨d1, d2, e0, e1, e2, hd⟩ := tab_dir hz
  rw [e0]
  have hW := B.w
  have hH := B.h
  have hlen : c.length = W * H := by have := B.len; rw [← Int.natCast_mul] at this; exact Int.ofNat_inj.1 this
  have hxl : a % W < W := Nat.mod_lt _ (by omega)
  have hyl : a / W < H := Nat.div_lt_of_lt_mul ha
  simp only [pegs_jumps_L2]
  rw [if_pos (decide_eq_true (by omega))]
  unfold pegs_jumps_J4 pegs_jumps_J6 pegs_jumps_J5 stepJ okJ
  rw [asrt_pos (by omega), e1, e2, show Int.tmod (a : Int) (W : Int) = ((a % W : Nat) : Int) from rfl, show Int.tdiv (a : Int) (W : Int) = ((a / W : Nat) : Int) from rfl]
  simp only
  generalize hx : ((a % W : Nat) : Int) = x
  generalize hy : ((a / W : Nat) : Int) = y
  have hx0 : 0 ≤ x ∧ x < W := by rw [← hx]; exact ⟨Int.natCast_nonneg _, Int.ofNat_lt.2 hxl⟩
  have hy0 : 0 ≤ y ∧ y < H := by rw [← hy]; exact ⟨Int.natCast_nonneg _, Int.ofNat_lt.2 hyl⟩
  have hd1 : -1 ≤ d1 ∧ d1 ≤ 1 := by omega
  have hd2 : -1 ≤ d2 ∧ d2 ≤ 1 := by omega
  have m1 := mul_bd (a := y + d2) (b := (W : Int)) (by omega) (by omega)
  have m2 := mul_bd (a := y + 2 * d2) (b := (W : Int)) (by omega) (by omega)
  rw [w64_of (x := y) (by omega), w64_of (x := 2 * d1) (by omega), w64_of (x := 2 * d2) (by omega), w64_of (x := x + 2 * d1) (by omega), w64_of (x := y + 2 * d2) (by omega), w64_of (x := y + d2) (by omega), w64_of (x := (y + d2) * W) (by omega), w64_of (x := (y + 2 * d2) * W) (by omega), w64_of (x := (y + d2) * W + x) (by omega), w64_of (x := (y + d2) * W + x + d1) (by omega), w64_of (x := (y + 2 * d2) * W + (x + 2 * d1)) (by omega), w64_succ (by omega)]
  by_cases hin : 0 ≤ x + 2 * d1 ∧ x + 2 * d1 < W ∧ 0 ≤ y + 2 * d2 ∧ y + 2 * d2 < H
  · rw [if_neg (by simp only [Bool.or_eq_true, decide_eq_true_eq]; omega)]
    have i1 := B.idx (x := x + d1) (y := y + d2) (by omega) (by omega)
    have i2 := B.idx (x := x + 2 * d1) (y := y + 2 * d2) (by omega) (by omega)
    rw [asrt_pos (by omega), asrt_pos (fun _ => by omega), asrt_pos (fun _ => by omega)]
    by_cases hok : ((geti c a != 2) && (geti c ((y + d2) * W + x + d1) != 2) && (geti c ((y + 2 * d2) * W + (x + 2 * d1)) != 2)) = true
    · rw [if_pos hok, if_pos ⟨hin, hok⟩, asrt_pos (by unfold bigT; omega)]; rfl
    · rw [if_neg hok, if_neg (fun q => hok q.2), List.append_nil]; rfl
  · rw [if_pos (by simp only [Bool.or_eq_true, decide_eq_true_eq]; omega), if_neg (fun q => hin q.1), List.append_nil]; rfl

theorem stepJ_len (W H : Nat) (ok : Int → Int → Int → Bool) (a : Nat) (d : Int × Int) : (stepJ W H ok a d).length ≤ 1 := by
  unfold stepJ
  split <;> simp

theorem jump_dirs (B : Dm W H c) {a : Nat} (ha : a < W * H) {l : List (Int × Int × Int)} (hl : l.length ≤ 900) :
    loop (pegs_jumps_L2 W H c a) (l, 0) = some (l ++ dirsJ.flatMap (stepJ W H (okJ c) a)) := by
  have hs : ∀ d, (stepJ W H (okJ c) a d).length ≤ 1 := stepJ_len W H (okJ c) a
  have s0 := jump_step B ha (z := 0) (by omega) (l := l) (by omega)
  have s1 := jump_step B ha (z := 1) (by omega) (l := l ++ stepJ W H (okJ c) a (1, 0)) (by rw [List.length_append]; have := hs (1, 0); omega)
  have s2 := jump_step B ha (z := 2) (by omega) (l := l ++ stepJ W H (okJ c) a (1, 0) ++ stepJ W H (okJ c) a (-1, 0)) (by rw [List.length_append, List.length_append]; have := hs (1, 0); have := hs (-1, 0); omega)
  have s3 := jump_step B ha (z := 3) (by omega) (l := l ++ stepJ W H (okJ c) a (1, 0) ++ stepJ W H (okJ c) a (-1, 0) ++ stepJ W H (okJ c) a (0, 1)) (by rw [List.length_append, List.length_append, List.length_append]; have := hs (1, 0); have := hs (-1, 0); have := hs (0, 1); omega)
  have s4 : pegs_jumps_L2 W H c a (l ++ stepJ W H (okJ c) a (1, 0) ++ stepJ W H (okJ c) a (-1, 0) ++ stepJ W H (okJ c) a (0, 1) ++ stepJ W H (okJ c) a (0, -1), ((3 + 1 : Nat) : Int)) = some (.done (l ++ stepJ W H (okJ c) a (1, 0) ++ stepJ W H (okJ c) a (-1, 0) ++ stepJ W H (okJ c) a (0, 1) ++ stepJ W H (okJ c) a (0, -1))) := by
    simp only [pegs_jumps_L2]
    exact if_neg (by simp)
  have := loop_next' s0 (loop_next' s1 (loop_next' s2 (loop_next' s3 (loop_done s4))))
  rw [show ((0 : Nat) : Int) = 0 from rfl] at this
  rw [this]
  simp [dirsJ]

theorem dirs_len (W H : Nat) (ok : Int → Int → Int → Bool) (a : Nat) : (dirsJ.flatMap (stepJ W H ok a)).length ≤ 4 := by
  have h1 := stepJ_len W H ok a (1, 0)
  have h2 := stepJ_len W H ok a (-1, 0)
  have h3 := stepJ_len W H ok a (0, 1)
  have h4 := stepJ_len W H ok a (0, -1)
  simp only [dirsJ, List.flatMap_cons, List.flatMap_nil, List.length_append, List.length_nil]
  omega

theorem part_len (W H : Nat) (ok : Int → Int → Int → Bool) (n : Nat) : ((List.range n).flatMap fun a => dirsJ.flatMap (stepJ W H ok a)).length ≤ 4 * n := by
  induction n with
  | zero => simp
  | succ n ih =>
    rw [List.range_succ, List.flatMap_append, List.length_append, List.flatMap_cons, List.flatMap_nil, List.append_nil]
    have := dirs_len W H ok n
    omega

/-- All jumps, in order, each with its middle. -/
def allJ (W H : Nat) (c : List Int) : List (Int × Int × Int) := (allP W H (okJ c)).map midJ

theorem jumps_p (B : Dm W H c) : pegs_jumps_m W H c = some (allJ W H c) := by
  have hW := B.w
  have hH := B.h
  have hlen : c.length = W * H := by have := B.len; rw [← Int.natCast_mul] at this; exact Int.ofNat_inj.1 this
  have hn : W * H ≤ 10 * 10 := Nat.mul_le_mul (by omega) (by omega)
  have hl : loop (pegs_jumps_L1 W H c) (([] : List (Int × Int × Int)), 0) = some (rawJ W H (okJ c)) := by
    refine loop_from (fun n : Nat => ((List.range n).flatMap fun a => dirsJ.flatMap (stepJ W H (okJ c) a), (n : Int))) (W * H) rfl (fun n hn' => ?_) ?_
    · have hp := part_len W H (okJ c) n
      simp only [pegs_jumps_L1]
      rw [if_pos (decide_eq_true (by omega))]
      unfold pegs_jumps_J2
      rw [asrt_pos (by omega), asrt_pos (by omega), jump_dirs B hn' (by omega), Option.bind_some]
      simp only [pegs_jumps_K2, pegs_jumps_J3]
      rw [w64_succ (by omega), List.range_succ, List.flatMap_append, List.flatMap_cons, List.flatMap_nil, List.append_nil]; rfl
    · simp only [pegs_jumps_L1]
      exact if_neg (by rw [hlen]; simp)
  unfold pegs_jumps_m
  rw [hl, Option.bind_some]
  simp only [pegs_jumps_K1]
  unfold pegs_jumps_J1 pegs_jump_2_m
  have hp : (rawJ W H (okJ c)).length ≤ 4 * (W * H) := part_len W H (okJ c) (W * H)
  rw [asrt_pos rawJ_mid, asrt_pos (by unfold bigN; omega), sorted_raw]
  rfl
end
end Go.Proofs.Ytlkdblflibgfpaa
