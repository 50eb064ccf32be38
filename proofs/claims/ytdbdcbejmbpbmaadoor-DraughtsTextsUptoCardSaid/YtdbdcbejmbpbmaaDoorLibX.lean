/-
  A small library of our own: loops over lists: searches, folds, counts up and down.
-/
import Derived.Test.YtdbdcbejmbpbmaaDoorLibP
import Derived.Test.YtdbdcbejmbpbmaaDoorLibN
import Derived.Test.YtdbdcbejmbpbmaaDoorLibM
import Derived.Test.YtdbdcbejmbpbmaaDoorLibK
import Derived.Test.YtdbdcbejmbpbmaaDoorLibW
namespace Go.GL
open Go
variable {Ds : List Nat} {ro : Option Nat}

theorem search_from {α R : Type} {step : Int → Option (St Int R)} (p : α → Bool) (hit : Nat → R) (miss : R) : ∀ (l : List α) (k : Nat),
    (∀ i x, l[i]? = some x → p x = true → step ((k + i : Nat) : Int) = some (.done (hit (k + i)))) →
    (∀ i x, l[i]? = some x → p x = false → step ((k + i : Nat) : Int) = some (.next ((k + i + 1 : Nat) : Int))) →
    step ((k + l.length : Nat) : Int) = some (.done miss) →
    loop step ((k : Nat) : Int) = some (match l.findIdx? p with | some i => hit (k + i) | none => miss)
  | [], k, _, _, h3 => by
    simpa using loop_done h3
  | x :: l, k, h1, h2, h3 => by
    cases hp : p x with
    | true =>
      have := h1 0 x rfl hp
      rw [List.findIdx?_cons, hp]
      simpa using loop_done this
    | false =>
      have hn := h2 0 x rfl hp
      have ih := search_from p hit miss l (k + 1) (fun i y hy hpy => by
          have := h1 (i + 1) y (by simpa using hy) hpy
          rw [show k + (i + 1) = k + 1 + i by omega] at this
          exact this) (fun i y hy hpy => by
          have := h2 (i + 1) y (by simpa using hy) hpy
          rw [show k + (i + 1) = k + 1 + i by omega] at this
          exact this) (by rw [show k + 1 + l.length = k + (x :: l).length by simp; omega]; exact h3)
      rw [List.findIdx?_cons, hp]
      refine loop_next' (by simpa using hn) ?_
      rw [show ((k : Int) + 1) = ((k + 1 : Nat) : Int) by omega, ih]
      cases l.findIdx? p with
      | none => rfl
      | some i => simp [Nat.add_assoc, Nat.add_comm 1 i]

/-- A search through a list. -/
theorem search_loop {α R : Type} {step : Int → Option (St Int R)} {l : List α} (p : α → Bool) (hit : Nat → R) (miss : R)
    (h1 : ∀ (i : Nat) x, l[i]? = some x → p x = true → step (i : Int) = some (.done (hit i)))
    (h2 : ∀ (i : Nat) x, l[i]? = some x → p x = false → step (i : Int) = some (.next ((i : Int) + 1)))
    (h3 : step (l.length : Int) = some (.done miss)) : loop step 0 = some (match l.findIdx? p with | some i => hit i | none => miss) := by
  have := search_from (step := step) p hit miss l 0 (fun i x hx hp => by simpa using h1 i x hx hp) (fun i x hx hp => by simpa using h2 i x hx hp) (by simpa using h3)
  simpa using this

/-- A count up to n, with an invariant. -/
theorem count_loop {σ S R : Type} {step : S → Option (St S R)} (mk : σ → Nat → S) (I : Nat → σ → Prop) (Post : R → Prop) (n : Nat) (s : σ) (hI : I 0 s)
    (h2 : ∀ i s, i < n → I i s → (∃ s', step (mk s i) = some (.next (mk s' (i + 1))) ∧ I (i + 1) s') ∨ ∃ r, step (mk s i) = some (.done r) ∧ Post r)
    (h3 : ∀ s, I n s → ∃ r, step (mk s n) = some (.done r) ∧ Post r) : ∃ r, loop step (mk s 0) = some r ∧ Post r := by
  have key : ∀ m k s, k + m = n → I k s → ∃ r, loop step (mk s k) = some r ∧ Post r := by
    intro m
    induction m with
    | zero =>
      intro k s hk hI
      obtain rfl : k = n := by omega
      obtain ⟨r, hr, hp⟩ := h3 s hI
      exact ⟨r, loop_done hr, hp⟩
    | succ m ih =>
      intro k s hk hI
      rcases h2 k s (by omega) hI with ⟨s', hs, hI'⟩ | ⟨r, hr, hp⟩
      · obtain ⟨r, hr, hp⟩ := ih (k + 1) s' (by omega) hI'
        exact ⟨r, loop_next' hs hr, hp⟩
      · exact ⟨r, loop_done hr, hp⟩
  exact key n 0 s (by omega) hI

end Go.GL
