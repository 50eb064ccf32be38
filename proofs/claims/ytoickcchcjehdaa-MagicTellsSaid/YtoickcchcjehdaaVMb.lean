/-
  MagicTells: the kind of a square.
-/
import Derived.Test.YtoickcchcjehdaaVMa
namespace Go.Proofs.Ytoickcchcjehdaa
open Go Go.GL

theorem tmod_nat (a b : Nat) : Int.tmod (a : Int) (b : Int) = ((a % b : Nat) : Int) := rfl
theorem tdiv_nat (a b : Nat) : Int.tdiv (a : Int) (b : Int) = ((a / b : Nat) : Int) := rfl

section
variable {l : List Int} {n : Nat} (h1 : 1 ≤ n) (h2 : n ≤ 12)
include h1 h2
theorem nn_le : n * n ≤ 144 := by
  have _ := h1
  exact sq_le h2
theorem ix_lt {y x : Nat} (hy : y < n) (hx : x < n) : y * n + x < n * n := by
  have _ := h1
  have _ := h2
  have : (y + 1) * n ≤ n * n := Nat.mul_le_mul_right n hy
  rw [Nat.add_mul] at this
  omega
theorem ix_sum (y x : Nat) : w64 (w64 (Int.tmod (y : Int) (n : Int) * (n : Int)) + Int.tmod (x : Int) (n : Int)) = ((y % n * n + x % n : Nat) : Int) ∧ y % n * n + x % n < n * n := by
  have h3 := ix_lt h1 h2 (Nat.mod_lt y h1) (Nat.mod_lt x h1)
  have h4 := nn_le h1 h2
  rw [tmod_nat, tmod_nat, show ((y % n : Nat) : Int) * (n : Int) = ((y % n * n : Nat) : Int) by push_cast; rfl, w64_nat (by omega), ← Int.natCast_add, w64_nat (by omega)]
  exact ⟨rfl, h3⟩
end

/-- The sums of a square's lines. -/
def lR (l : List Int) (n k : Nat) : Int := sW l (fun i => k % n * n + i % n) n
def lC (l : List Int) (n k : Nat) : Int := sW l (fun i => i % n * n + k % n) n
def lD (l : List Int) (n k : Nat) : Int := sW l (fun i => i % n * n + (i + k) % n) n
def lU (l : List Int) (n k : Nat) : Int := sW l (fun i => (n - 1 - i) % n * n + (i + k) % n) n

section
variable {l : List Int} {n : Nat} (h1 : 1 ≤ n) (h2 : n ≤ 12) (h3 : n * n = l.length)
include h1 h2 h3
theorem sum_1 (k : Nat) : magic_sum_m l (n : Int) (k : Int) = some (lR l n k) := by
  unfold magic_sum_m
  rw [sum_loop (l := l) (g := fun i => k % n * n + i % n) (n := n) (fun i s hi => ?_) (fun s => ?_), Option.bind_some]
  · rfl
  · obtain ⟨e, hb⟩ := ix_sum h1 h2 k i
    unfold magic_sum_L1 magic_sum_J2 magic_row_1_m magic_sum_J3
    simp only [Option.bind_some]
    rw [if_pos (by rw [decide_eq_true_eq]; omega), e, asrt_pos (by omega), asrt_pos (by omega), asrt_pos (by omega), w64_of (x := (i : Int) + 1) (by omega)]
  · unfold magic_sum_L1
    dsimp only
    rw [if_neg (by simp)]
theorem sum_2 (k : Nat) : magic_sum_2_m l (n : Int) (k : Int) = some (lC l n k) := by
  unfold magic_sum_2_m
  rw [sum_loop (l := l) (g := fun i => i % n * n + k % n) (n := n) (fun i s hi => ?_) (fun s => ?_), Option.bind_some]
  · rfl
  · obtain ⟨e, hb⟩ := ix_sum h1 h2 i k
    unfold magic_sum_2_L1 magic_sum_2_J2 magic_column_1_m magic_sum_2_J3
    simp only [Option.bind_some]
    rw [if_pos (by rw [decide_eq_true_eq]; omega), e, asrt_pos (by omega), asrt_pos (by omega), asrt_pos (by omega), w64_of (x := (i : Int) + 1) (by omega)]
  · unfold magic_sum_2_L1
    dsimp only
    rw [if_neg (by simp)]
theorem sum_3 (k : Nat) (hk : k < n) : magic_sum_3_m l (n : Int) (k : Int) = some (lD l n k) := by
  unfold magic_sum_3_m
  rw [sum_loop (l := l) (g := fun i => i % n * n + (i + k) % n) (n := n) (fun i s hi => ?_) (fun s => ?_), Option.bind_some]
  · rfl
  · obtain ⟨e, hb⟩ := ix_sum h1 h2 i (i + k)
    unfold magic_sum_3_L1 magic_sum_3_J2 magic_down_1_m magic_sum_3_J3
    simp only [Option.bind_some]
    rw [if_pos (by rw [decide_eq_true_eq]; omega), show w64 ((i : Int) + (k : Int)) = ((i + k : Nat) : Int) by rw [w64_of (by omega)]; push_cast; rfl, e, asrt_pos (by omega), asrt_pos (by omega), asrt_pos (by omega), w64_of (x := (i : Int) + 1) (by omega)]
  · unfold magic_sum_3_L1
    dsimp only
    rw [if_neg (by simp)]
theorem sum_4 (k : Nat) (hk : k < n) : magic_sum_4_m l (n : Int) (k : Int) (n : Int) = some (lU l n k) := by
  unfold magic_sum_4_m
  rw [sum_loop (l := l) (g := fun i => (n - 1 - i) % n * n + (i + k) % n) (n := n) (fun i s hi => ?_) (fun s => ?_), Option.bind_some]
  · rfl
  · obtain ⟨e, hb⟩ := ix_sum h1 h2 (n - 1 - i) (i + k)
    unfold magic_sum_4_L1 magic_sum_4_J2 magic_up_1_1_m magic_sum_4_J3
    simp only [Option.bind_some]
    rw [if_pos (by rw [decide_eq_true_eq]; omega), show w64 ((i : Int) + (k : Int)) = ((i + k : Nat) : Int) by rw [w64_of (by omega)]; push_cast; rfl,
      show w64 (w64 ((n : Int) - 1) - (i : Int)) = ((n - 1 - i : Nat) : Int) by rw [w64_of (x := (n : Int) - 1) (by omega), w64_of (by omega)]; omega,
      e, asrt_pos (by omega), asrt_pos (by omega), asrt_pos (by omega), w64_of (x := (i : Int) + 1) (by omega)]
  · unfold magic_sum_4_L1
    dsimp only
    rw [if_neg (by simp)]

def offS (S : Nat → Int) (want : Int) (n : Nat) : Bool := (List.range n).any fun k => S k != want
omit h1 h2 h3 in
theorem alike_end {b : Bool} {f : (Fl Unit Bool) → Option Bool} (hg : f (.go ()) = some true) (hr : f (.ret false) = some false) : f (if b then .ret false else .go ()) = some (!b) := by
  cases b
  · rw [if_neg (by decide), hg]; rfl
  · rw [if_pos rfl, hr]; rfl
theorem alike_1 (want : Int) : magic_alike_m l (n : Int) want = some (!offS (lR l n) want n) := by
  unfold magic_alike_m
  rw [show (0 : Int) = ((0 : Nat) : Int) from rfl, loop_find (f := fun k => (k : Int)) (n := n) (bad := fun k => lR l n k != want) (out := (Fl.ret false : Fl Unit Bool)) (rd := Fl.go ()) (fun i hi => ?_) ?_, Option.bind_some]
  · exact alike_end rfl rfl
  · unfold magic_alike_L1
    dsimp only
    rw [if_neg (by simp)]
  · unfold magic_alike_L1 magic_alike_J2 magic_row_m magic_alike_J3
    dsimp only
    rw [if_pos (by rw [decide_eq_true_eq]; omega), Option.bind_some, sum_1 h1 h2 h3, Option.bind_some, w64_of (x := (i : Int) + 1) (by omega)]
    rfl
theorem alike_2 (want : Int) : magic_alike_2_m l (n : Int) want = some (!offS (lC l n) want n) := by
  unfold magic_alike_2_m
  rw [show (0 : Int) = ((0 : Nat) : Int) from rfl, loop_find (f := fun k => (k : Int)) (n := n) (bad := fun k => lC l n k != want) (out := (Fl.ret false : Fl Unit Bool)) (rd := Fl.go ()) (fun i hi => ?_) ?_, Option.bind_some]
  · exact alike_end rfl rfl
  · unfold magic_alike_2_L1
    dsimp only
    rw [if_neg (by simp)]
  · unfold magic_alike_2_L1 magic_alike_2_J2 magic_column_m magic_alike_2_J3
    dsimp only
    rw [if_pos (by rw [decide_eq_true_eq]; omega), Option.bind_some, sum_2 h1 h2 h3, Option.bind_some, w64_of (x := (i : Int) + 1) (by omega)]
    rfl
theorem alike_3 (want : Int) : magic_alike_3_m l (n : Int) want = some (!offS (lD l n) want n) := by
  unfold magic_alike_3_m
  rw [show (0 : Int) = ((0 : Nat) : Int) from rfl, loop_find (f := fun k => (k : Int)) (n := n) (bad := fun k => lD l n k != want) (out := (Fl.ret false : Fl Unit Bool)) (rd := Fl.go ()) (fun i hi => ?_) ?_, Option.bind_some]
  · exact alike_end rfl rfl
  · unfold magic_alike_3_L1
    dsimp only
    rw [if_neg (by simp)]
  · unfold magic_alike_3_L1 magic_alike_3_J2 magic_down_m magic_alike_3_J3
    dsimp only
    rw [if_pos (by rw [decide_eq_true_eq]; omega), Option.bind_some, sum_3 h1 h2 h3 _ hi, Option.bind_some, w64_of (x := (i : Int) + 1) (by omega)]
    rfl
theorem alike_4 (want : Int) : magic_alike_4_m l (n : Int) want (n : Int) = some (!offS (lU l n) want n) := by
  unfold magic_alike_4_m
  rw [show (0 : Int) = ((0 : Nat) : Int) from rfl, loop_find (f := fun k => (k : Int)) (n := n) (bad := fun k => lU l n k != want) (out := (Fl.ret false : Fl Unit Bool)) (rd := Fl.go ()) (fun i hi => ?_) ?_, Option.bind_some]
  · exact alike_end rfl rfl
  · unfold magic_alike_4_L1
    dsimp only
    rw [if_neg (by simp)]
  · unfold magic_alike_4_L1 magic_alike_4_J2 magic_up_1_m magic_alike_4_J3
    dsimp only
    rw [if_pos (by rw [decide_eq_true_eq]; omega), Option.bind_some, sum_4 h1 h2 h3 _ hi, Option.bind_some, w64_of (x := (i : Int) + 1) (by omega)]
    rfl

/-- The kind of a square, and its sum. -/
def kindS (l : List Int) (n : Nat) : Int × Int :=
  let w := lR l n 0
  if offS (lR l n) w n || offS (lC l n) w n then (0, 0)
  else if offS (lD l n) w n || offS (lU l n) w n then (if lD l n 0 != w || lU l n 0 != w then (1, w) else (2, w))
  else (3, w)

theorem kind_p : magic_kind_m l (n : Int) = some (kindS l n) := by
  unfold magic_kind_m magic_row_m
  rw [Option.bind_some, show (0 : Int) = ((0 : Nat) : Int) from rfl, sum_1 h1 h2 h3, Option.bind_some, alike_1 h1 h2 h3, Option.bind_some]
  have a2 := alike_2 h1 h2 h3 (lR l n 0)
  have a3 := alike_3 h1 h2 h3 (lR l n 0)
  have a4 := alike_4 h1 h2 h3 (lR l n 0)
  have s3 := sum_3 h1 h2 h3 0 h1
  have s4 := sum_4 h1 h2 h3 0 h1
  unfold kindS
  dsimp only
  generalize offS (lR l n) (lR l n 0) n = b1
  generalize hb2 : offS (lC l n) (lR l n 0) n = b2 at *
  generalize hb3 : offS (lD l n) (lR l n 0) n = b3 at *
  generalize hb4 : offS (lU l n) (lR l n 0) n = b4 at *
  have J2 : ∀ z, magic_kind_J2 l (n : Int) (lR l n 0) z = some (if z then (if lD l n 0 != lR l n 0 || lU l n 0 != lR l n 0 then (1, lR l n 0) else (2, lR l n 0)) else (3, lR l n 0)) := fun z => by
    unfold magic_kind_J2 magic_down_m magic_up_m magic_up_1_m magic_kind_J1
    cases z
    · rfl
    · rw [if_pos rfl, if_pos rfl, Option.bind_some, show (0 : Int) = ((0 : Nat) : Int) from rfl, s3, Option.bind_some]
      by_cases e : lD l n 0 = lR l n 0
      · rw [if_pos (by simpa using e), Option.bind_some, Option.bind_some, if_pos (by simpa using e), s4, Option.bind_some]
        unfold magic_kind_J4 magic_kind_J3
        by_cases e2 : lU l n 0 = lR l n 0
        · simp [e, e2]
        · simp [e, e2]
      · rw [if_neg (by simpa using e)]
        unfold magic_kind_J4 magic_kind_J3
        simp [e]
  unfold magic_up_m
  cases b1 <;> cases b2 <;> cases b3 <;> cases b4 <;> simp [a2, a3, a4, J2]
end
end Go.Proofs.Ytoickcchcjehdaa
