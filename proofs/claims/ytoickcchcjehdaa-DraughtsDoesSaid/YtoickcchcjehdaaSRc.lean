/-
  slices.Equal at []int: whether the two lists are one; the world as it was but for draws.
-/
import Derived.Test.YtoickcchcjehdaaSRb
namespace Go.Proofs.Ytoickcchcjehdaa
open Go Go.GL Go.Shelf Go.RowKit Go.Lib Go.Sort Go.Proofs

set_option maxHeartbeats 2000000 in
theorem eqR_lens (A1 A2 : Option Addr) (n m c d : Nat) (w : World) (hnm : n ≠ m) :
    Calls Try.prog 126 #[.slice A1 n c, .slice A2 m d] w fun e w' => e = .returned (.bool false) ∧ w' = w := by
  have hnm' : ¬ (n : Int) = (m : Int) := by omega
  go_enter Try.func126, Try.ntmps126
  go_wp2
  go_ret
  exact ⟨rfl, rfl⟩

set_option maxHeartbeats 2000000 in
theorem eqR_nil (A1 A2 : Option Addr) (c d : Nat) (w : World) :
    Calls Try.prog 126 #[.slice A1 0 c, .slice A2 0 d] w fun e w' => e = .returned (.bool true) ∧ w' = w := by
  go_enter Try.func126, Try.ntmps126
  go_wp2
  go_loopg [13] 0 (fun _ s13 wr => s13 = .int .i64 0 ∧ wr = w)
  case atStart => exact ⟨rfl, rfl⟩
  case round =>
    obtain ⟨rfl, rfl⟩ := hrel
    go_wp2
    go_ret
    exact ⟨rfl, rfl⟩

set_option maxHeartbeats 2000000 in
theorem eqR_arr (b1 o1 b2 o2 n c d : Nat) (x y : List Int) (w : World) (hn : x.length = n) (hn2 : y.length = n) (hx : ∀ j, j < n → w.cell? ⟨b1, o1 + j, none⟩ = some (.int .i64 x[j]!)) (hy : ∀ j, j < n → w.cell? ⟨b2, o2 + j, none⟩ = some (.int .i64 y[j]!)) (hbig : n ≤ 9223372036854775807) :
    Calls Try.prog 126 #[.slice (some ⟨b1, o1, none⟩) n c, .slice (some ⟨b2, o2, none⟩) n d] w fun e w' => e = .returned (.bool (decide (x = y))) ∧ ∃ q, w' = w.drewN q := by
  have fin0 : (∃ j, j < n ∧ x[j]! ≠ y[j]!) → decide (x = y) = false := fun ⟨j, _, h⟩ => decide_eq_false fun e => h (by rw [e])
  have fin1 : (∀ j, j < n → x[j]! = y[j]!) → decide (x = y) = true := fun h => decide_eq_true (List.ext_getElem (by omega) fun j h1 h2 => by
    have := h j (by omega)
    rwa [getElem!_pos x j h1, getElem!_pos y j h2] at this)
  generalize hR : decide (x = y) = R at fin0 fin1
  have FIN : Aside (((∃ j, j < n ∧ x[j]! ≠ y[j]!) → R = false) ∧ ((∀ j, j < n → x[j]! = y[j]!) → R = true)) := ⟨fin0, fin1⟩
  clear hR fin0 fin1 hn hn2
  have mixed : Try.prog.follows Departure.mixedOrders = true := by kernel_rfl
  go_enter Try.func126, Try.ntmps126
  go_wp2
  go_loopg [13] n (fun g s13 wr => ∃ k q : Nat, k ≤ n ∧ n - k ≤ g ∧ s13 = .int .i64 k ∧ wr = w.drewN q ∧ ∀ j, j < k → x[j]! = y[j]!)
  case atStart => exact ⟨0, 0, Nat.zero_le _, by omega, rfl, rfl, fun j hj => absurd hj (Nat.not_lt_zero _)⟩
  case round =>
    obtain ⟨k, q, hk, hg, rfl, rfl, heq⟩ := hrel
    by_cases hlt : k < n
    · have g1 := hx k hlt
      have g2 := hy k hlt
      have A : Aside (∀ j, j < k → x[j]! = y[j]!) := heq
      clear heq hx hy
      generalize hxk : x[k]! = u at g1
      generalize hyk : y[k]! = v at g2
      have B : Aside (x[k]! = u ∧ y[k]! = v) := ⟨hxk, hyk⟩
      clear hxk hyk
      by_cases hxy : u = v
      · subst hxy
        go_wp2_with fail
        go_region_o
        go_wp2
        go_roundg (n - (k + 1))
        case measure => omega
        case rel =>
          refine ⟨k + 1, q + 1, by omega, by omega, by go_num, rfl, fun j hj => ?_⟩
          by_cases e : j = k
          · subst e
            rw [B.out.1, B.out.2]
          · exact A.out j (by omega)
      · go_wp2_with fail
        go_region_o
        go_wp2
        go_ret
        refine ⟨?_, q + 1, rfl⟩
        rw [FIN.out.1 ⟨k, hlt, by rw [B.out.1, B.out.2]; exact hxy⟩]
        rfl
    · have : k = n := by omega
      subst this
      clear hx hy
      go_wp2
      go_ret
      refine ⟨?_, q, rfl⟩
      rw [FIN.out.2 heq]
      rfl

theorem eqR (A1 A2 : Option Addr) (c d : Nat) (x y : List Int) (w : World) (hx : RowAt w A1 x) (hy : RowAt w A2 y) (lx : x.length ≤ 9223372036854775807) :
    Calls Try.prog 126 #[.slice A1 x.length c, .slice A2 y.length d] w fun e w' => e = .returned (.bool (decide (x = y))) ∧ ∃ q, w' = w.drewN q := by
  have fin : ∀ {w' : World}, w' = w → ∃ q, w' = w.drewN q := fun h => ⟨0, h⟩
  by_cases hl : x.length = y.length
  · rcases hx with rfl | ⟨b1, o1, rfl, hx⟩
    · obtain rfl : y = [] := List.eq_nil_of_length_eq_zero hl.symm
      exact (eqR_nil A1 A2 c d w).mono fun e w' h => ⟨h.1, fin h.2⟩
    · rcases hy with rfl | ⟨b2, o2, rfl, hy⟩
      · obtain rfl : x = [] := List.eq_nil_of_length_eq_zero hl
        exact (eqR_nil _ A2 c d w).mono fun e w' h => ⟨h.1, fin h.2⟩
      · rw [← hl] at hy ⊢
        exact eqR_arr b1 o1 b2 o2 _ c d x y w rfl hl.symm hx hy lx
  · rw [show decide (x = y) = false from decide_eq_false fun e => hl (by rw [e])]
    exact (eqR_lens A1 A2 _ _ c d w hl).mono fun e w' h => ⟨h.1, fin h.2⟩
end Go.Proofs.Ytoickcchcjehdaa
