/-
  A small library of our own: a scope in which the run jumps back to a label, by a model's loop.
-/
import Derived.Test.YtdjjomghggplpaaLibW
import Derived.ScopeJumps
namespace Go.GL
open Go Go.RowKit

section
variable {P : Program} {Q : Exit → Act → World → Prop} {J R : Act → World → Prop} {a : Act} {w : World} {l i : Nat}
theorem jump_r (h : Q .ret a w) : Exit.jump l J Q .ret a w := h
theorem jump_g (h : J a w) : Exit.jump l J Q (.goto l) a w := ⟨rfl, h⟩
theorem then_g (h : Q (.goto l) a w) : Exit.then R Q (.goto l) a w := h
theorem block_g (h : Q (.goto l) a w) : Exit.inBlock i Q (.goto l) a w := h

theorem wp_of_in {c : Code} (h : c.wpIn (RF none) 9 P Q a w) : c.wp P Q a w := wpIn_wide.1 h
theorem in_of_wp {c : Code} (h : c.wp P Q a w) : c.wpIn (RF none) 9 P Q a w := wpIn_wide.2 h

theorem scope_model {S R T : Type} {c D : Code} (step : S → Option (St S R)) (K : R → Option T) (r : T) (Rel : S → Act → World → Prop) (hf : findLabel c l = some (.seq .skip D))
    (round : ∀ n s a w, Rel s a w → (step s).bind (stK step n K) = some r → D.wpIn (RF none) 9 P (Exit.jump l (fun a' w' => ∃ s', Rel s' a' w' ∧ (loopN step n s').bind K = some r) Q) a w)
    (first : ∀ J : Act → World → Prop, (∀ s a w, Rel s a w → (loop step s).bind K = some r → (Code.seq (.label l) D).wpIn (RF none) 9 P (Exit.jump l J Q) a w) → c.wpIn (RF none) 9 P (Exit.jump l J Q) a w) : (Code.scope c).wpIn (RF none) 9 P Q a w := by
  let good : Act → World → Nat → Prop := fun a w n => ∃ s, Rel s a w ∧ (loopN step n s).bind K = some r
  have up : ∀ n s, (loopN step n s).bind K = some r → ∃ m, n = m + 1 ∧ (step s).bind (stK step m K) = some r := by
    intro n s hs
    cases n with
    | zero => simp [loopN] at hs
    | succ m =>
      refine ⟨m, rfl, ?_⟩
      rw [← hs]
      simp only [loopN]
      cases hst : step s with
      | none => simp
      | some o => cases o <;> simp [stK]
  refine in_of_wp (wp_scope_jumps l (fun a w => ∃ n, good a w n) (fun a w => least (good a w)) hf ?_ ?_)
  · refine wp_of_in (first _ fun s a w hR hL => ?_)
    obtain ⟨x, hx, hk⟩ := obind hL
    obtain ⟨n, hn⟩ := loop_to hx
    obtain ⟨m, rfl, hs⟩ := up n s (by rw [hn]; exact hk)
    refine wpIn_seq (wpIn_label ?_)
    refine Go.Code.wpIn_mono ?_ (round m s a w hR hs)
    intro e a' w' hq
    cases e with
    | goto l' => exact ⟨hq.1, m, hq.2⟩
    | _ => exact hq
  · intro a w hI
    obtain ⟨⟨s, hr, hs⟩, _⟩ := least_spec hI
    generalize least (good a w) = k at hs ⊢
    obtain ⟨m, rfl, hs'⟩ := up k s hs
    refine wp_of_in (wpIn_seq (wpIn_skip ?_))
    refine Go.Code.wpIn_mono ?_ (round m s a w hr hs')
    intro e a' w' hq
    cases e with
    | goto l' =>
      have hI' : ∃ n, good a' w' n := ⟨m, hq.2⟩
      refine ⟨hq.1, hI', ?_⟩
      exact Nat.lt_succ_of_le ((least_spec hI').2 m hq.2)
    | _ => exact hq
end
end Go.GL
