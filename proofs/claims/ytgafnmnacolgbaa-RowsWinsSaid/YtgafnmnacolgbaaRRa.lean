/-
  Rows on a board: what the reference's rowFrom and WonOf tell.
-/
import Derived.Test.YtgafnmnacolgbaaNR
import Derived.Test.YtgafnmnacolgbaaLibX
namespace Go.Proofs.Ytgafnmnacolgbaa
open Go Go.GL

/-- A board that may be, and how many in a row. -/
structure Bd (W H : Int) (c : List Int) (k : Int) : Prop where
  w : 1 ≤ W ∧ W ≤ 10
  h : 1 ≤ H ∧ H ≤ 10
  len : (c.length : Int) = W * H
  k : 1 ≤ k ∧ k ≤ 10

theorem mul_bd {b W : Int} (hb : -30 ≤ b ∧ b ≤ 30) (hW : 1 ≤ W ∧ W ≤ 10) : -300 ≤ b * W ∧ b * W ≤ 300 := by
  have h1 := Int.mul_nonneg (show 0 ≤ 30 - b by omega) (show 0 ≤ W by omega)
  have h2 := Int.mul_nonneg (show 0 ≤ b + 30 by omega) (show 0 ≤ W by omega)
  rw [Int.sub_mul] at h1
  rw [Int.add_mul] at h2
  omega

theorem Bd.idx {W H k : Int} {c : List Int} (B : Bd W H c k) {x y : Int} (hx : 0 ≤ x ∧ x < W) (hy : 0 ≤ y ∧ y < H) : 0 ≤ y * W + x ∧ y * W + x < c.length := by
  have h1 := Int.mul_nonneg hy.1 (show 0 ≤ W by have := B.w; omega)
  have h2 := Int.mul_nonneg (show 0 ≤ H - 1 - y by omega) (show 0 ≤ W by have := B.w; omega)
  rw [Int.sub_mul, Int.sub_mul] at h2
  have e : W * H = H * W := Int.mul_comm _ _
  have := B.len
  omega
theorem Bd.small {W H k : Int} {c : List Int} (B : Bd W H c k) : c.length ≤ 300 := by
  have := B.len
  have h2 := mul_bd (b := H) (W := W) (by have := B.h; omega) B.w
  rw [Int.mul_comm] at h2
  omega

/-- The place i steps on. -/
def LineAt (W H : Int) (c : List Int) (k x y dx dy who : Int) : Prop :=
  ∀ i : Nat, (i : Int) < k → 0 ≤ x + dx * i ∧ x + dx * i < W ∧ 0 ≤ y + dy * i ∧ y + dy * i < H ∧ geti c ((y + dy * i) * W + (x + dx * i)) = who

open Classical in
noncomputable def rowV (W H : Int) (c : List Int) (k x y dx dy : Int) : Int := if LineAt W H c k x y dx dy (geti c (y * W + x)) then geti c (y * W + x) else 0

theorem tri_bd {d : Int} {i : Nat} (hd : d = -1 ∨ d = 0 ∨ d = 1) (hi : (i : Int) < 10) : -10 ≤ d * i ∧ d * i ≤ 10 := by
  rcases hd with rfl | rfl | rfl <;> omega

theorem rowFrom_eq {W H k : Int} {c : List Int} (B : Bd W H c k) {x y dx dy : Int} (hx : 0 ≤ x ∧ x < W) (hy : 0 ≤ y ∧ y < H) (hdx : dx = -1 ∨ dx = 0 ∨ dx = 1) (hdy : dy = -1 ∨ dy = 0 ∨ dy = 1) :
    gameroomref_rowFrom_m W H c x y dx dy k = some (rowV W H c k x y dx dy) := by
  have hB := B.w
  have hH := B.h
  have hk := B.k
  have hi0 := B.idx hx hy
  have hb0 := mul_bd (b := y) (W := W) (by omega) B.w
  have e0 : w64 (w64 (y * W) + x) = y * W + x := by rw [w64_of (x := y * W) (by omega), w64_of (by omega)]
  unfold gameroomref_rowFrom_m
  rw [e0, asrt_pos hi0]
  have key : ∃ r, loop (gameroomref_rowFrom_L1 W H c x y dx dy k) 0 = some r ∧ ((r = .go () ∧ LineAt W H c k x y dx dy (geti c (y * W + x))) ∨ (r = .ret 0 ∧ ¬ LineAt W H c k x y dx dy (geti c (y * W + x)))) := by
    refine count_loop (step := gameroomref_rowFrom_L1 W H c x y dx dy k) (fun (_ : Unit) (i : Nat) => (i : Int))
      (fun n _ => ∀ i : Nat, i < n → 0 ≤ x + dx * i ∧ x + dx * i < W ∧ 0 ≤ y + dy * i ∧ y + dy * i < H ∧ geti c ((y + dy * i) * W + (x + dx * i)) = geti c (y * W + x))
      (fun r => (r = .go () ∧ LineAt W H c k x y dx dy (geti c (y * W + x))) ∨ (r = .ret 0 ∧ ¬ LineAt W H c k x y dx dy (geti c (y * W + x)))) k.toNat () (fun i hi => by omega) ?_ ?_
    · rintro i - hi hI
      have hb1 := tri_bd (i := i) hdx (by omega)
      have hb2 := tri_bd (i := i) hdy (by omega)
      have ea : w64 (x + w64 (dx * (i : Int))) = x + dx * i := by rw [w64_of (x := dx * (i : Int)) (by omega), w64_of (by omega)]
      have eb : w64 (y + w64 (dy * (i : Int))) = y + dy * i := by rw [w64_of (x := dy * (i : Int)) (by omega), w64_of (by omega)]
      have hm := mul_bd (b := y + dy * i) (W := W) (by omega) B.w
      have ec : w64 (w64 ((y + dy * (i : Int)) * W) + (x + dx * i)) = (y + dy * i) * W + (x + dx * i) := by rw [w64_of (x := (y + dy * (i : Int)) * W) (by omega), w64_of (by omega)]
      have hL : gameroomref_rowFrom_L1 W H c x y dx dy k (i : Int) = if 0 ≤ x + dx * (i : Int) ∧ x + dx * i < W ∧ 0 ≤ y + dy * i ∧ y + dy * i < H ∧ geti c ((y + dy * i) * W + (x + dx * i)) = geti c (y * W + x) then some (.next ((i : Int) + 1)) else some (.done (.ret 0)) := by
        simp only [gameroomref_rowFrom_L1, gameroomref_rowFrom_J2, gameroomref_within_m, gameroomref_rowFrom_J3]
        rw [if_pos (decide_eq_true (by omega)), ea, eb, ec, e0, w64_of (x := W - 1) (by omega), w64_of (x := H - 1) (by omega), w64_of (x := (i : Int) + 1) (by omega)]
        have hin : 0 ≤ x + dx * (i : Int) ∧ x + dx * i < W → 0 ≤ y + dy * i ∧ y + dy * i < H → 0 ≤ (y + dy * i) * W + (x + dx * i) ∧ (y + dy * i) * W + (x + dx * i) < c.length := fun h1 h2 => B.idx h1 h2
        generalize x + dx * (i : Int) = a at *
        generalize y + dy * (i : Int) = b at *
        by_cases h1 : 0 ≤ a ∧ a < W
        · rw [show (decide (0 ≤ a) && decide (a ≤ W - 1)) = true by simp; omega]
          by_cases h2 : 0 ≤ b ∧ b < H
          · rw [show (decide (0 ≤ b) && decide (b ≤ H - 1)) = true by simp; omega]
            simp only [Option.bind_some, Bool.not_true, Bool.not_false, if_true, Bool.false_or]
            rw [asrt_pos (fun _ => hin h1 h2)]
            by_cases h3 : geti c (b * W + a) = geti c (y * W + x)
            · rw [if_neg (by simpa using h3), if_pos ⟨h1.1, h1.2, h2.1, h2.2, h3⟩]
            · rw [if_pos (by simpa using h3), if_neg (fun h => h3 h.2.2.2.2)]
          · rw [show (decide (0 ≤ b) && decide (b ≤ H - 1)) = false by simp; omega]
            simp only [Option.bind_some, Bool.not_true, Bool.not_false, if_true, Bool.or_true, Bool.true_or]
            rw [asrt_pos (by simp), if_neg (fun h => h2 ⟨h.2.2.1, h.2.2.2.1⟩)]
        · rw [show (decide (0 ≤ a) && decide (a ≤ W - 1)) = false by simp; omega]
          simp only [Option.bind_some, Bool.not_true, Bool.not_false, Bool.false_eq_true, if_false, if_true, Bool.true_or]
          rw [asrt_pos (by simp), if_neg (fun h => h1 ⟨h.1, h.2.1⟩)]
      by_cases hc : 0 ≤ x + dx * (i : Int) ∧ x + dx * i < W ∧ 0 ≤ y + dy * i ∧ y + dy * i < H ∧ geti c ((y + dy * i) * W + (x + dx * i)) = geti c (y * W + x)
      · left
        refine ⟨(), by rw [hL, if_pos hc]; simp, fun j hj => ?_⟩
        by_cases e : j = i
        · subst e; exact hc
        · exact hI j (by omega)
      · right
        exact ⟨.ret 0, by rw [hL, if_neg hc], Or.inr ⟨rfl, fun hl => hc (hl i (by omega))⟩⟩
    · rintro - hI
      refine ⟨.go (), ?_, Or.inl ⟨rfl, fun i hi => hI i (by omega)⟩⟩
      simp only [gameroomref_rowFrom_L1]
      rw [if_neg (by simp; omega)]
  obtain ⟨r, hr, hp⟩ := key
  rw [hr]
  rcases hp with ⟨rfl, h⟩ | ⟨rfl, h⟩
  · simp only [Option.bind_some, gameroomref_rowFrom_K1, gameroomref_rowFrom_J1, rowV, e0]
    rw [if_pos h]
  · simp only [Option.bind_some, gameroomref_rowFrom_K1, rowV]
    rw [if_neg h]
end Go.Proofs.Ytgafnmnacolgbaa
