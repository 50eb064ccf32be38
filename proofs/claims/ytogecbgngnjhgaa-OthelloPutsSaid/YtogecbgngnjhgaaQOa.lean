/-
  Othello: the run of signs in a direction, and what a move turns.
-/
import Derived.Test.YtogecbgngnjhgaaNP
import Derived.Test.YtogecbgngnjhgaaLibY
namespace Go.Proofs.Ytogecbgngnjhgaa
open Go Go.GL

section
variable {W H : Int} {c : List Int} {who : Int}

def InB (W H x y : Int) : Prop := (0 ≤ x ∧ x < W) ∧ (0 ≤ y ∧ y < H)
/-- The place i steps on is in the board and shows something. -/
def At (W H : Int) (c : List Int) (x y dx dy : Int) (i : Nat) (v : Int) : Prop := InB W H (x + dx * i) (y + dy * i) ∧ geti c ((y + dy * i) * W + (x + dx * i)) = v
def Run (W H : Int) (c : List Int) (who x y dx dy : Int) (n : Nat) : Prop := (∀ i : Nat, 1 ≤ i → i ≤ n → At W H c x y dx dy i (3 - who)) ∧ ¬ At W H c x y dx dy (n + 1) (3 - who)

theorem out_far {x y dx dy : Int} (hW : W ≤ 10) (hH : H ≤ 10) (hx : 0 ≤ x) (hy : 0 ≤ y) (hxW : x < W) (hyH : y < H) (hdx : -1 ≤ dx ∧ dx ≤ 1) (hdy : -1 ≤ dy ∧ dy ≤ 1) (hd : dx ≠ 0 ∨ dy ≠ 0) {i : Nat} (hi : i = 10) : ¬ InB W H (x + dx * i) (y + dy * i) := by
  subst hi
  rintro ⟨h1, h2⟩
  obtain rfl | rfl | rfl : dx = -1 ∨ dx = 0 ∨ dx = 1 := by omega
  all_goals (obtain rfl | rfl | rfl : dy = -1 ∨ dy = 0 ∨ dy = 1 := by omega)
  all_goals omega

theorem run_ex (B : Dm W H c) {x y dx dy : Int} (hx : 0 ≤ x ∧ x < W) (hy : 0 ≤ y ∧ y < H) (hdx : -1 ≤ dx ∧ dx ≤ 1) (hdy : -1 ≤ dy ∧ dy ≤ 1) (hd : dx ≠ 0 ∨ dy ≠ 0) : ∃ n, n ≤ 9 ∧ Run W H c who x y dx dy n := by
  have key : ∀ m k : Nat, k + m = 9 → (∀ i : Nat, 1 ≤ i → i ≤ k → At W H c x y dx dy i (3 - who)) → ∃ n, n ≤ 9 ∧ Run W H c who x y dx dy n := by
    intro m
    induction m with
    | zero =>
      intro k hk h
      refine ⟨k, by omega, h, fun ha => ?_⟩
      exact out_far B.w.2 B.h.2 hx.1 hy.1 hx.2 hy.2 hdx hdy hd (i := k + 1) (by omega) ha.1
    | succ m ih =>
      intro k hk h
      by_cases hn : At W H c x y dx dy (k + 1) (3 - who)
      · refine ih (k + 1) (by omega) fun i h1 h2 => ?_
        by_cases e : i = k + 1
        · subst e; exact hn
        · exact h i h1 (by omega)
      · exact ⟨k, by omega, h, hn⟩
  exact key 9 0 (by omega) fun i h1 h2 => by omega

theorem run_uniq {x y dx dy : Int} {n m : Nat} (hn : Run W H c who x y dx dy n) (hm : Run W H c who x y dx dy m) : n = m := by
  rcases Nat.lt_trichotomy n m with h | h | h
  · exact absurd (hm.1 (n + 1) (by omega) (by omega)) hn.2
  · exact h
  · exact absurd (hn.1 (m + 1) (by omega) (by omega)) hm.2

open Classical in
/-- What is turned in a direction. -/
noncomputable def fl (W H : Int) (c : List Int) (who x y dx dy : Int) : List Int :=
  if h : ∃ n, Run W H c who x y dx dy n then
    (if At W H c x y dx dy (h.choose + 1) who then (List.range h.choose).map fun (i : Nat) => (y + dy * (i + 1)) * W + (x + dx * (i + 1)) else [])
  else []

theorem fl_of {x y dx dy : Int} {n : Nat} (hn : Run W H c who x y dx dy n) [Decidable (At W H c x y dx dy (n + 1) who)] :
    fl W H c who x y dx dy = if At W H c x y dx dy (n + 1) who then (List.range n).map fun (i : Nat) => (y + dy * (i + 1)) * W + (x + dx * (i + 1)) else [] := by
  have h : ∃ n, Run W H c who x y dx dy n := ⟨n, hn⟩
  unfold fl
  rw [dif_pos h]
  have e : h.choose = n := run_uniq h.choose_spec hn
  rw [e]
  split <;> simp_all

theorem fl_in (B : Dm W H c) {x y dx dy : Int} (hx : 0 ≤ x ∧ x < W) (hy : 0 ≤ y ∧ y < H) (hdx : -1 ≤ dx ∧ dx ≤ 1) (hdy : -1 ≤ dy ∧ dy ≤ 1) (hd : dx ≠ 0 ∨ dy ≠ 0) : (∀ p ∈ fl W H c who x y dx dy, 0 ≤ p ∧ p < c.length) ∧ (fl W H c who x y dx dy).length ≤ 9 := by
  classical
  obtain ⟨n, hn9, hn⟩ := run_ex (who := who) B hx hy hdx hdy hd
  rw [fl_of hn]
  split
  · refine ⟨?_, by simp; omega⟩
    intro p hp
    obtain ⟨i, hi, rfl⟩ := List.mem_map.1 hp
    rw [List.mem_range] at hi
    have := (hn.1 (i + 1) (by omega) (by omega)).1
    have h2 := B.idx (x := x + dx * (i + 1 : Nat)) (y := y + dy * (i + 1 : Nat)) this.1 this.2
    simpa using h2
  · exact ⟨by simp, by simp⟩

/-! ## The program's run -/

theorem turn_dir (B : Dm W H c) (hw : who = 1 ∨ who = 2) (r1 : List Int) (l : List Int) (hl : l.length ≤ 1000) (z : Int) {x y : Int} (hx : 0 ≤ x ∧ x < W) (hy : 0 ≤ y ∧ y < H) (hdx : -1 ≤ geti r1 (z * 2) ∧ geti r1 (z * 2) ≤ 1) (hdy : -1 ≤ geti r1 (z * 2 + 1) ∧ geti r1 (z * 2 + 1) ≤ 1) (hd : geti r1 (z * 2) ≠ 0 ∨ geti r1 (z * 2 + 1) ≠ 0) :
    loop (othello_turned_L2 W H c who r1 l z) (([] : List Int), x, y) = some (l ++ fl W H c who x y (geti r1 (z * 2)) (geti r1 (z * 2 + 1))) := by
  classical
  have hW := B.w
  have hH := B.h
  generalize hdxe : geti r1 (z * 2) = dx at *
  generalize hdye : geti r1 (z * 2 + 1) = dy at *
  obtain ⟨n, hn9, hn⟩ := run_ex (who := who) B hx hy hdx hdy hd
  have key : ∃ r, loop (othello_turned_L2 W H c who r1 l z) (([] : List Int), x, y) = some r ∧ r = l ++ fl W H c who x y dx dy := by
    have hc := count_loop (step := othello_turned_L2 W H c who r1 l z) (fun (_ : Unit) (i : Nat) => ((List.range i).map (fun (j : Nat) => (y + dy * (j + 1)) * W + (x + dx * (j + 1))), x + dx * i, y + dy * i)) (fun _ _ => True) (fun r => r = l ++ fl W H c who x y dx dy) n () trivial ?_ ?_
    · simpa using hc
    · rintro i - hi -
      left
      refine ⟨(), ?_, trivial⟩
      have ha := hn.1 (i + 1) (by omega) (by omega)
      have b1 := tri_bd' (i := i) hdx (by omega)
      have b2 := tri_bd' (i := i) hdy (by omega)
      have e1 : x + dx * (i : Int) + dx = x + dx * ((i + 1 : Nat) : Int) := by rw [Int.natCast_add, Int.mul_add]; simp; omega
      have e2 : y + dy * (i : Int) + dy = y + dy * ((i + 1 : Nat) : Int) := by rw [Int.natCast_add, Int.mul_add]; simp; omega
      obtain ⟨⟨h1, h2⟩, h3⟩ := ha
      have hix := B.idx h1 h2
      simp only [othello_turned_L2, hdxe, hdye]
      rw [w64_of (x := x + dx * (i : Int) + dx) (by omega), w64_of (x := y + dy * (i : Int) + dy) (by omega), e1, e2, if_neg (by simp only [Bool.or_eq_true, decide_eq_true_eq]; omega)]
      unfold othello_turned_J5
      rw [hdxe, hdye, w64_of (x := x + dx * (i : Int) + dx) (by omega), w64_of (x := y + dy * (i : Int) + dy) (by omega), e1, e2, w64_ix' hW (by omega) (by omega), asrt_pos hix, w64_of (x := 3 - who) (by omega), if_pos (by simpa using h3), asrt_pos (by unfold bigN; simp; omega), List.range_succ, List.map_append]
      simp
    · rintro - -
      have b1 := tri_bd' (i := n) hdx (by omega)
      have b2 := tri_bd' (i := n) hdy (by omega)
      have e1 : x + dx * (n : Int) + dx = x + dx * ((n + 1 : Nat) : Int) := by rw [Int.natCast_add, Int.mul_add]; simp; omega
      have e2 : y + dy * (n : Int) + dy = y + dy * ((n + 1 : Nat) : Int) := by rw [Int.natCast_add, Int.mul_add]; simp; omega
      refine ⟨_, ?_, rfl⟩
      rw [fl_of hn]
      simp only [othello_turned_L2, hdxe, hdye]
      rw [w64_of (x := x + dx * (n : Int) + dx) (by omega), w64_of (x := y + dy * (n : Int) + dy) (by omega), e1, e2]
      have hno := hn.2
      by_cases hb : InB W H (x + dx * ((n + 1 : Nat) : Int)) (y + dy * ((n + 1 : Nat) : Int))
      · obtain ⟨h1, h2⟩ := hb
        have hix := B.idx h1 h2
        have hne : ¬ geti c ((y + dy * ((n + 1 : Nat) : Int)) * W + (x + dx * ((n + 1 : Nat) : Int))) = 3 - who := fun h => hno ⟨⟨h1, h2⟩, h⟩
        rw [if_neg (by simp only [Bool.or_eq_true, decide_eq_true_eq]; omega)]
        unfold othello_turned_J5
        rw [hdxe, hdye, w64_of (x := x + dx * (n : Int) + dx) (by omega), w64_of (x := y + dy * (n : Int) + dy) (by omega), e1, e2, w64_ix' hW (by omega) (by omega), asrt_pos hix, w64_of (x := 3 - who) (by omega), if_neg (by simpa using hne)]
        unfold othello_turned_J6 othello_turned_J7
        rw [hdxe, hdye, w64_of (x := x + dx * (n : Int) + dx) (by omega), w64_of (x := y + dy * (n : Int) + dy) (by omega), e1, e2, w64_ix' hW (by omega) (by omega), asrt_pos hix]
        by_cases hw2 : geti c ((y + dy * ((n + 1 : Nat) : Int)) * W + (x + dx * ((n + 1 : Nat) : Int))) = who
        · rw [if_pos (by simpa using hw2), asrt_pos (by unfold bigN; simp; omega), if_pos (show At W H c x y dx dy (n + 1) who from ⟨⟨h1, h2⟩, hw2⟩)]
        · rw [if_neg (by simpa using hw2), if_neg (fun h => hw2 h.2), List.append_nil]
      · have : ¬ At W H c x y dx dy (n + 1) who := fun h => hb h.1
        rw [if_neg this, List.append_nil, if_pos (by unfold InB at hb; simp only [Bool.or_eq_true, decide_eq_true_eq]; omega)]
  obtain ⟨r, hr, rfl⟩ := key
  exact hr
end
end Go.Proofs.Ytogecbgngnjhgaa
