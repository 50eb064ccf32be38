/-
  A small library of our own: loops over lists: searches, folds, counts up and down.
-/
import Derived.Test.YtdbdcbejmbpbmaaDoorLibP
import Derived.Test.YtdbdcbejmbpbmaaDoorLibN
import Derived.Test.YtdbdcbejmbpbmaaDoorLibM
import Derived.Test.YtdbdcbejmbpbmaaDoorLibK
import Derived.Test.YtdbdcbejmbpbmaaDoorLibW
namespace Go.GL
open Go
variable {Ds : List Nat} {ro : Option Nat}

theorem getd_some {α : Type} {z : α} {l : List α} {i : Nat} {x : α} (h : l[i]? = some x) : getd z l (i : Int) = x := by
  simp [getd, List.getD_eq_getElem?_getD, h]
/-- A count up to n, with an invariant. -/
theorem count_loop {σ S R : Type} {step : S → Option (St S R)} (mk : σ → Nat → S) (I : Nat → σ → Prop) (Post : R → Prop) (n : Nat) (s : σ) (hI : I 0 s)
    (h2 : ∀ i s, i < n → I i s → (∃ s', step (mk s i) = some (.next (mk s' (i + 1))) ∧ I (i + 1) s') ∨ ∃ r, step (mk s i) = some (.done r) ∧ Post r)
    (h3 : ∀ s, I n s → ∃ r, step (mk s n) = some (.done r) ∧ Post r) : ∃ r, loop step (mk s 0) = some r ∧ Post r := by
  have key : ∀ m k s, k + m = n → I k s → ∃ r, loop step (mk s k) = some r ∧ Post r := by
    intro m
    induction m with
    | zero =>
      intro k s hk hI
      obtain rfl : k = n := by omega
      obtain ⟨r, hr, hp⟩ := h3 s hI
      exact ⟨r, loop_done hr, hp⟩
    | succ m ih =>
      intro k s hk hI
      rcases h2 k s (by omega) hI with ⟨s', hs, hI'⟩ | ⟨r, hr, hp⟩
      · obtain ⟨r, hr, hp⟩ := ih (k + 1) s' (by omega) hI'
        exact ⟨r, loop_next' hs hr, hp⟩
      · exact ⟨r, loop_done hr, hp⟩
  exact key n 0 s (by omega) hI

end Go.GL
