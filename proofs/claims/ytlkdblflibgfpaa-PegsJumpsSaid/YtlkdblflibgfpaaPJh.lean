/-
  Pegs: the class of a board.
-/
import Derived.Test.YtlkdblflibgfpaaPJg
namespace Go.Proofs.Ytlkdblflibgfpaa
open Go Go.GL

theorem class_in {g a k k2 : Int} (hA : Int.tmod (w64 ((Int.tmod a g) + (w64 (Int.tdiv a g)))) 3 = k) (hB : Int.tmod (w64 ((w64 ((Int.tmod a g) - (w64 (Int.tdiv a g)))) + 30)) 3 = k2) (hk : k = 0 ∨ k = 1 ∨ k = 2) (hk2 : k2 = 0 ∨ k2 = 1 ∨ k2 = 2) (c0 c1 c2 c3 : Int) :
    loop (pegs_Class_L2 g a) ([c0, c1, c2, c3], 0) = some [if k < 2 then bXor c0 1 else c0, if 0 < k then bXor c1 1 else c1, if k2 < 2 then bXor c2 1 else c2, if 0 < k2 then bXor c3 1 else c3] := by
  have e0 : w64 (2 * 0) = 0 := by decide
  have e1 : w64 (2 * 1) = 2 := by decide
  have e2 : w64 ((0 : Int) + 1) = 1 := by decide
  have e3 : w64 ((2 : Int) + 1) = 3 := by decide
  have e4 : w64 ((1 : Int) + 1) = 2 := by decide
  have s0 : pegs_Class_L2 g a ([c0, c1, c2, c3], 0) = some (.next ([if k < 2 then bXor c0 1 else c0, if 0 < k then bXor c1 1 else c1, c2, c3], 1)) := by
    simp only [pegs_Class_L2]
    rw [if_pos (by decide)]
    unfold pegs_Class_J6 pegs_Class_J8 pegs_Class_J7
    rw [hA, hB, show geti [k, k2] 0 = k from rfl, e0, e2, asrt_pos (by decide)]
    rcases hk with rfl | rfl | rfl <;> simp [geti, asrt]
  have s1 : ∀ u v : Int, pegs_Class_L2 g a ([u, v, c2, c3], 1) = some (.next ([u, v, if k2 < 2 then bXor c2 1 else c2, if 0 < k2 then bXor c3 1 else c3], 2)) := by
    intro u v
    simp only [pegs_Class_L2]
    rw [if_pos (by decide)]
    unfold pegs_Class_J6 pegs_Class_J8 pegs_Class_J7
    rw [hA, hB, show geti [k, k2] 1 = k2 from rfl, e1, e3, e4, asrt_pos (by decide)]
    rcases hk2 with rfl | rfl | rfl <;> simp [geti, asrt]
  have s2 : ∀ u v x y : Int, pegs_Class_L2 g a ([u, v, x, y], 2) = some (.done [u, v, x, y]) := by
    intro u v x y
    simp only [pegs_Class_L2]
    exact if_neg (by decide)
  exact loop_next' s0 (loop_next' (s1 _ _) (loop_done (s2 _ _ _ _)))

theorem xor_par {u : Int} (h : 0 ≤ u) : bXor (u % 2) 1 = (u + 1) % 2 := by
  have : u % 2 = 0 ∨ u % 2 = 1 := by omega
  rcases this with e | e
  · rw [e, show bXor 0 1 = 1 by decide]; omega
  · rw [e, show bXor 1 1 = 0 by decide]; omega

abbrev S6 := Int × Int × Int × Int × Int × Int
def parL (s : S6) : List Int := [(s.1 + s.2.1) % 2, (s.2.1 + s.2.2.1) % 2, (s.2.2.2.1 + s.2.2.2.2.1) % 2, (s.2.2.2.2.1 + s.2.2.2.2.2) % 2]
def cntL (s : S6) : List Int := [s.1, s.2.1, s.2.2.1, s.2.2.2.1, s.2.2.2.2.1, s.2.2.2.2.2]
structure CI (n : Nat) (s : S6) : Prop where
  a : 0 ≤ s.1 ∧ s.1 ≤ n
  b : 0 ≤ s.2.1 ∧ s.2.1 ≤ n
  c : 0 ≤ s.2.2.1 ∧ s.2.2.1 ≤ n
  d : 0 ≤ s.2.2.2.1 ∧ s.2.2.2.1 ≤ n
  e : 0 ≤ s.2.2.2.2.1 ∧ s.2.2.2.2.1 ≤ n
  f : 0 ≤ s.2.2.2.2.2 ∧ s.2.2.2.2.2 ≤ n

section
variable {W H : Nat} {c : List Int}

theorem class_both (B : Dm W H c) : ∃ l : List Int, pegs_Class_J1 W c = some (l, 0) ∧ gameroomref_ClassOf_m W H c = some l := by
  have hl := len_le B
  have hW := B.w
  have hH := B.h
  unfold pegs_Class_J1 gameroomref_ClassOf_m
  rw [show List.replicate 4 (0 : Int) = [0, 0, 0, 0] from rfl]
  have key := count_loop2' (step1 := pegs_Class_L1 W c) (step2 := gameroomref_ClassOf_L1 W c) (fun (s : S6) (n : Nat) => (parL s, (n : Int))) (fun (s : S6) (n : Nat) => (cntL s, (n : Int))) CI (fun r1 r2 => ∃ s, CI c.length s ∧ r1 = parL s ∧ r2 = cntL s) c.length (0, 0, 0, 0, 0, 0) ⟨by simp, by simp, by simp, by simp, by simp, by simp⟩ (by
    rintro n ⟨m0, m1, m2, m3, m4, m5⟩ hn ⟨i0, i1, i2, i3, i4, i5⟩
    simp only at i0 i1 i2 i3 i4 i5
    have hx : n % W < W := Nat.mod_lt _ (by omega)
    have hy : n / W < H := Nat.div_lt_of_lt_mul (by rw [← len_nat B]; exact hn)
    simp only [pegs_Class_L1, gameroomref_ClassOf_L1]
    rw [if_pos (decide_eq_true (by omega)), if_pos (decide_eq_true (by omega))]
    unfold pegs_Class_J3 gameroomref_ClassOf_J2 pegs_Class_J4 gameroomref_ClassOf_J3
    rw [asrt_pos (by omega), asrt_pos (by omega), w64_succ (by omega)]
    by_cases h1 : geti c n = 1
    · rw [if_neg (by simp [h1]), if_pos (by simp [h1])]
      unfold pegs_Class_J5
      rw [asrt_pos (by omega), asrt_pos (by omega), asrt_pos (by omega), asrt_pos (by omega)]
      have tx : Int.tmod (n : Int) (W : Int) = ((n % W : Nat) : Int) := rfl
      have ty : Int.tdiv (n : Int) (W : Int) = ((n / W : Nat) : Int) := rfl
      have hx0 : 0 ≤ ((n % W : Nat) : Int) ∧ ((n % W : Nat) : Int) < W := ⟨Int.natCast_nonneg _, Int.ofNat_lt.2 hx⟩
      have hy0 : 0 ≤ ((n / W : Nat) : Int) ∧ ((n / W : Nat) : Int) < H := ⟨Int.natCast_nonneg _, Int.ofNat_lt.2 hy⟩
      obtain ⟨k, hA, hk⟩ : ∃ k : Int, Int.tmod (w64 ((Int.tmod (n : Int) (W : Int)) + (w64 (Int.tdiv (n : Int) (W : Int))))) 3 = k ∧ (k = 0 ∨ k = 1 ∨ k = 2) := by
        refine ⟨_, rfl, ?_⟩
        rw [tx, ty]
        generalize ((n % W : Nat) : Int) = x at hx0
        generalize ((n / W : Nat) : Int) = y at hy0
        rw [w64_of (x := y) (by omega), w64_of (x := x + y) (by omega), Int.tmod_eq_emod_of_nonneg (by omega)]
        omega
      obtain ⟨k2, hB, hC, hk2⟩ : ∃ k2 : Int, Int.tmod (w64 ((w64 ((Int.tmod (n : Int) (W : Int)) - (w64 (Int.tdiv (n : Int) (W : Int))))) + 30)) 3 = k2 ∧ Int.tmod (w64 ((Int.tmod (n : Int) (W : Int)) + (w64 (2 * (w64 (Int.tdiv (n : Int) (W : Int))))))) 3 = k2 ∧ (k2 = 0 ∨ k2 = 1 ∨ k2 = 2) := by
        refine ⟨_, rfl, ?_⟩
        rw [tx, ty]
        generalize ((n % W : Nat) : Int) = x at hx0
        generalize ((n / W : Nat) : Int) = y at hy0
        rw [w64_of (x := y) (by omega), w64_of (x := x - y) (by omega), w64_of (x := x - y + 30) (by omega), w64_of (x := 2 * y) (by omega), w64_of (x := x + 2 * y) (by omega), Int.tmod_eq_emod_of_nonneg (by omega), Int.tmod_eq_emod_of_nonneg (by omega)]
        omega
      unfold parL
      rw [class_in hA hB hk hk2, Option.bind_some]
      simp only [pegs_Class_K2, pegs_Class_J4]
      rw [hA, hC, w64_of (x := 3 + k2) (by omega), w64_succ (by omega)]
      rw [asrt_pos (by omega), asrt_pos (by omega), asrt_pos (by omega), asrt_pos (by omega)]
      unfold cntL
      simp only
      rw [xor_par (u := m0 + m1) (by omega), xor_par (u := m1 + m2) (by omega), xor_par (u := m3 + m4) (by omega), xor_par (u := m4 + m5) (by omega)]
      have w0 : w64 (m0 + 1) = m0 + 1 := w64_of (by omega)
      have w1 : w64 (m1 + 1) = m1 + 1 := w64_of (by omega)
      have w2 : w64 (m2 + 1) = m2 + 1 := w64_of (by omega)
      have w3 : w64 (m3 + 1) = m3 + 1 := w64_of (by omega)
      have w4 : w64 (m4 + 1) = m4 + 1 := w64_of (by omega)
      have w5 : w64 (m5 + 1) = m5 + 1 := w64_of (by omega)
      rcases hk with rfl | rfl | rfl <;> rcases hk2 with rfl | rfl | rfl
      · refine ⟨(m0 + 1, m1, m2, m3 + 1, m4, m5), ?_, ?_, ⟨by simp only; omega, by simp only; omega, by simp only; omega, by simp only; omega, by simp only; omega, by simp only; omega⟩⟩ <;> simp [geti, w0, w3] <;> omega
      · refine ⟨(m0 + 1, m1, m2, m3, m4 + 1, m5), ?_, ?_, ⟨by simp only; omega, by simp only; omega, by simp only; omega, by simp only; omega, by simp only; omega, by simp only; omega⟩⟩ <;> simp [geti, w0, w4] <;> omega
      · refine ⟨(m0 + 1, m1, m2, m3, m4, m5 + 1), ?_, ?_, ⟨by simp only; omega, by simp only; omega, by simp only; omega, by simp only; omega, by simp only; omega, by simp only; omega⟩⟩ <;> simp [geti, w0, w5] <;> omega
      · refine ⟨(m0, m1 + 1, m2, m3 + 1, m4, m5), ?_, ?_, ⟨by simp only; omega, by simp only; omega, by simp only; omega, by simp only; omega, by simp only; omega, by simp only; omega⟩⟩ <;> simp [geti, w1, w3] <;> omega
      · refine ⟨(m0, m1 + 1, m2, m3, m4 + 1, m5), ?_, ?_, ⟨by simp only; omega, by simp only; omega, by simp only; omega, by simp only; omega, by simp only; omega, by simp only; omega⟩⟩ <;> simp [geti, w1, w4] <;> omega
      · refine ⟨(m0, m1 + 1, m2, m3, m4, m5 + 1), ?_, ?_, ⟨by simp only; omega, by simp only; omega, by simp only; omega, by simp only; omega, by simp only; omega, by simp only; omega⟩⟩ <;> simp [geti, w1, w5] <;> omega
      · refine ⟨(m0, m1, m2 + 1, m3 + 1, m4, m5), ?_, ?_, ⟨by simp only; omega, by simp only; omega, by simp only; omega, by simp only; omega, by simp only; omega, by simp only; omega⟩⟩ <;> simp [geti, w2, w3] <;> omega
      · refine ⟨(m0, m1, m2 + 1, m3, m4 + 1, m5), ?_, ?_, ⟨by simp only; omega, by simp only; omega, by simp only; omega, by simp only; omega, by simp only; omega, by simp only; omega⟩⟩ <;> simp [geti, w2, w4] <;> omega
      · refine ⟨(m0, m1, m2 + 1, m3, m4, m5 + 1), ?_, ?_, ⟨by simp only; omega, by simp only; omega, by simp only; omega, by simp only; omega, by simp only; omega, by simp only; omega⟩⟩ <;> simp [geti, w2, w5] <;> omega
    · rw [if_pos (by simpa using h1), if_neg (by simpa using h1)]
      exact ⟨(m0, m1, m2, m3, m4, m5), rfl, rfl, ⟨by simp only; omega, by simp only; omega, by simp only; omega, by simp only; omega, by simp only; omega, by simp only; omega⟩⟩) (by
    rintro s hI
    refine ⟨_, _, ?_, ?_, s, hI, rfl, rfl⟩
    · simp only [pegs_Class_L1]
      exact if_neg (by simp)
    · simp only [gameroomref_ClassOf_L1]
      exact if_neg (by simp))
  obtain ⟨r1, r2, h1, h2, ⟨m0, m1, m2, m3, m4, m5⟩, ⟨i0, i1, i2, i3, i4, i5⟩, rfl, rfl⟩ := key
  have h1' : loop (pegs_Class_L1 W c) ([0, 0, 0, 0], 0) = _ := h1
  have h2' : loop (gameroomref_ClassOf_L1 W c) ([0, 0, 0, 0, 0, 0], 0) = _ := h2
  rw [h1', h2', Option.bind_some, Option.bind_some]
  simp only at i0 i1 i2 i3 i4 i5
  refine ⟨parL (m0, m1, m2, m3, m4, m5), rfl, ?_⟩
  simp only [gameroomref_ClassOf_K1]
  unfold gameroomref_ClassOf_J1 cntL parL
  repeat rw [asrt_pos (by decide)]
  have t : ∀ u v : Int, 0 ≤ u → u ≤ 100 → 0 ≤ v → v ≤ 100 → Int.tmod (w64 (u + v)) 2 = (u + v) % 2 := by
    intro u v h1 h2 h3 h4
    rw [w64_of (by omega), Int.tmod_eq_emod_of_nonneg (by omega)]
  show some [Int.tmod (w64 (m0 + m1)) 2, Int.tmod (w64 (m1 + m2)) 2, Int.tmod (w64 (m3 + m4)) 2, Int.tmod (w64 (m4 + m5)) 2] = some [(m0 + m1) % 2, (m1 + m2) % 2, (m3 + m4) % 2, (m4 + m5) % 2]
  rw [t m0 m1 (by omega) (by omega) (by omega) (by omega), t m1 m2 (by omega) (by omega) (by omega) (by omega), t m3 m4 (by omega) (by omega) (by omega) (by omega), t m4 m5 (by omega) (by omega) (by omega) (by omega)]
end
end Go.Proofs.Ytlkdblflibgfpaa
