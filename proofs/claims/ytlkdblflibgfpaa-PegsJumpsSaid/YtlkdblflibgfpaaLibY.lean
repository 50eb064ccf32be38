/-
  A small library of our own: boards (plain facts).
-/
import Derived.Test.YtlkdblflibgfpaaLibX
namespace Go.GL
open Go
variable {Ds : List Nat} {ro : Option Nat}

theorem mul_bd' {b W : Int} (hb : -30 ≤ b ∧ b ≤ 30) (hW : 1 ≤ W ∧ W ≤ 10) : -300 ≤ b * W ∧ b * W ≤ 300 := by
  have h1 := Int.mul_nonneg (show 0 ≤ 30 - b by omega) (show 0 ≤ W by omega)
  have h2 := Int.mul_nonneg (show 0 ≤ b + 30 by omega) (show 0 ≤ W by omega)
  rw [Int.sub_mul] at h1
  rw [Int.add_mul] at h2
  omega

/-- A board of W columns and H rows. -/
structure Dm (W H : Int) (c : List Int) : Prop where
  w : 1 ≤ W ∧ W ≤ 10
  h : 1 ≤ H ∧ H ≤ 10
  len : (c.length : Int) = W * H

theorem Dm.idx {W H : Int} {c : List Int} (B : Dm W H c) {x y : Int} (hx : 0 ≤ x ∧ x < W) (hy : 0 ≤ y ∧ y < H) : 0 ≤ y * W + x ∧ y * W + x < c.length := by
  have h1 := Int.mul_nonneg hy.1 (show 0 ≤ W by have := B.w; omega)
  have h2 := Int.mul_nonneg (show 0 ≤ H - 1 - y by omega) (show 0 ≤ W by have := B.w; omega)
  rw [Int.sub_mul, Int.sub_mul] at h2
  have e : W * H = H * W := Int.mul_comm _ _
  have := B.len
  omega
theorem Dm.small {W H : Int} {c : List Int} (B : Dm W H c) : c.length ≤ 300 := by
  have := B.len
  have h2 := mul_bd' (b := H) (W := W) (by have := B.h; omega) B.w
  rw [Int.mul_comm] at h2
  omega
theorem Dm.of_len {W H : Int} {c d : List Int} (B : Dm W H c) (h : d.length = c.length) : Dm W H d := ⟨B.w, B.h, by rw [h]; exact B.len⟩

/-- Where a place stands. -/
theorem Dm.xy {W H : Int} {c : List Int} (B : Dm W H c) {p : Int} (hp : 0 ≤ p ∧ p < c.length) : (0 ≤ p % W ∧ p % W < W) ∧ (0 ≤ p / W ∧ p / W < H) ∧ p / W * W + p % W = p := by
  have hw := B.w
  have h1 := Int.emod_nonneg p (show W ≠ 0 by omega)
  have h2 := Int.emod_lt_of_pos p (show 0 < W by omega)
  have h3 := Int.mul_ediv_add_emod p W
  have e : p / W * W = W * (p / W) := Int.mul_comm _ _
  have h4 : 0 ≤ p / W := Int.ediv_nonneg hp.1 (by omega)
  refine ⟨⟨h1, h2⟩, ⟨h4, ?_⟩, by omega⟩
  apply Int.ediv_lt_of_lt_mul (by omega)
  have := B.len
  have e2 : W * H = H * W := Int.mul_comm _ _
  omega

theorem tri_bd' {d : Int} {i : Nat} (hd : -1 ≤ d ∧ d ≤ 1) (hi : (i : Int) ≤ 12) : -12 ≤ d * i ∧ d * i ≤ 12 := by
  obtain rfl | rfl | rfl : d = -1 ∨ d = 0 ∨ d = 1 := by omega
  all_goals omega

theorem w64_ix' {W : Int} (hW : 1 ≤ W ∧ W ≤ 10) {y x : Int} (hy : -30 ≤ y ∧ y ≤ 30) (hx : -30 ≤ x ∧ x ≤ 30) : w64 (w64 (y * W) + x) = y * W + x := by
  have hm := mul_bd' hy hW
  rw [w64_of (x := y * W) (by omega), w64_of (by omega)]

/-- Two loops in step. -/
theorem count_loop2' {σ S1 R1 S2 R2 : Type} {step1 : S1 → Option (St S1 R1)} {step2 : S2 → Option (St S2 R2)} (mk1 : σ → Nat → S1) (mk2 : σ → Nat → S2) (I : Nat → σ → Prop) (Post : R1 → R2 → Prop) (n : Nat) (s : σ) (hI : I 0 s)
    (h2 : ∀ i s, i < n → I i s → ∃ s', step1 (mk1 s i) = some (.next (mk1 s' (i + 1))) ∧ step2 (mk2 s i) = some (.next (mk2 s' (i + 1))) ∧ I (i + 1) s')
    (h3 : ∀ s, I n s → ∃ r1 r2, step1 (mk1 s n) = some (.done r1) ∧ step2 (mk2 s n) = some (.done r2) ∧ Post r1 r2) : ∃ r1 r2, loop step1 (mk1 s 0) = some r1 ∧ loop step2 (mk2 s 0) = some r2 ∧ Post r1 r2 := by
  have key : ∀ m k s, k + m = n → I k s → ∃ r1 r2, loop step1 (mk1 s k) = some r1 ∧ loop step2 (mk2 s k) = some r2 ∧ Post r1 r2 := by
    intro m
    induction m with
    | zero =>
      intro k s hk hI
      obtain rfl : k = n := by omega
      obtain ⟨r1, r2, a, b, hp⟩ := h3 s hI
      exact ⟨r1, r2, loop_done a, loop_done b, hp⟩
    | succ m ih =>
      intro k s hk hI
      obtain ⟨s', a, b, hI'⟩ := h2 k s (by omega) hI
      obtain ⟨r1, r2, c, d, hp⟩ := ih (k + 1) s' (by omega) hI'
      exact ⟨r1, r2, loop_next' a c, loop_next' b d, hp⟩
  exact key n 0 s (by omega) hI

theorem geti_set' {l : List Int} {i : Nat} {v j : Int} (hj : 0 ≤ j) (hi : i < l.length) : geti (l.set i v) j = if j = i then v else geti l j := by
  obtain ⟨q, rfl⟩ : ∃ q : Nat, j = q := ⟨j.toNat, by omega⟩
  rw [geti_nat, geti_nat, List.getD_eq_getElem?_getD, List.getD_eq_getElem?_getD, List.getElem?_set]
  by_cases e : i = q
  · subst e; simp [hi]
  · rw [if_neg e, if_neg (by omega)]
theorem get_geti {l : List Int} {i : Nat} (hi : i < l.length) : l[i]? = some (geti l (i : Int)) := by
  rw [List.getElem?_eq_getElem hi]
  congr 1
  exact (geti_some (List.getElem?_eq_getElem hi)).symm
theorem ext_geti {a b : List Int} (hl : a.length = b.length) (h : ∀ i : Nat, i < a.length → geti a (i : Int) = geti b (i : Int)) : a = b := by
  apply List.ext_getElem?
  intro i
  by_cases hi : i < a.length
  · rw [get_geti hi, get_geti (by omega), h i hi]
  · rw [List.getElem?_eq_none (by omega), List.getElem?_eq_none (by omega)]

/-- Some places set to one number. -/
def setAll (c : List Int) (L : List Int) (v : Int) : List Int := L.foldl (fun c p => c.set p.toNat v) c
theorem setAll_length (L : List Int) (v : Int) : ∀ c : List Int, (setAll c L v).length = c.length := by
  induction L with
  | nil => intro c; rfl
  | cons p L ih => intro c; show (setAll (c.set p.toNat v) L v).length = _; rw [ih]; simp
theorem setAll_append (c L M : List Int) (v : Int) : setAll c (L ++ M) v = setAll (setAll c L v) M v := by unfold setAll; rw [List.foldl_append]
theorem setAll_get (v : Int) : ∀ (L c : List Int) (j : Nat), (∀ p ∈ L, 0 ≤ p ∧ p < c.length) → j < c.length → geti (setAll c L v) (j : Int) = if (j : Int) ∈ L then v else geti c (j : Int)
  | [], c, j, _, _ => by simp [setAll]
  | p :: L, c, j, h, hj => by
    have hp := h p (by simp)
    show geti (setAll (c.set p.toNat v) L v) (j : Int) = _
    rw [setAll_get v L _ j (by intro q hq; rw [List.length_set]; exact h q (by simp [hq])) (by simpa using hj), geti_set' (by omega) (by omega)]
    by_cases h1 : (j : Int) ∈ L
    · rw [if_pos h1, if_pos (by simp [h1])]
    · rw [if_neg h1]
      by_cases h2 : (j : Int) = p
      · rw [if_pos (by omega), if_pos (by simp [h2])]
      · rw [if_neg (by omega), if_neg (by simp [h1, h2])]
end Go.GL
