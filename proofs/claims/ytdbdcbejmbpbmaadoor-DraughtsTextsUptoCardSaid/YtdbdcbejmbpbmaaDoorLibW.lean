/-
  A small library of our own: equality of structs and arrays; a row appended to rows; parts of arrays in blocks as slices.
-/
import Derived.Test.YtdbdcbejmbpbmaaDoorLibV
import Derived.Laws.StructEq
namespace Go.GL
open Go Go.RowKit
variable {Ds : List Nat} {ro : Option Nat}

/-! ### A row appended to rows -/
section
variable {P : Program} {w0 w : World} {B : Nat} {l r ps : List HP} {t e ei : TypeId} {inf : TypeInfo} {A : Option Addr} {n c : Nat} {hd : List Hd} {m : List (List Int)}

end


theorem done_b {S R T : Type} {step : S → Option (St S R)} {n : Nat} {K : R → Option T} {x : R} {r : T} (h : (some (St.done x)).bind (stK step n K) = some r) : K x = some r := h

section
variable {P : Program} {ops : Array Oper} {C : World → Prop} {Q : Exit → Act → World → Prop} {S : World → Prop} {l : List Oper} {a : Act} {w : World}
end


/-! ### Recursion: what answers with little fuel answers alike with more -/
theorem Le.trans' {α : Type} {a b c : Option α} (h : Le a b) (k : Le b c) : Le a c := fun r hr => k r (h r hr)
theorem Le.loopN2 {S R : Type} {step step' : S → Option (St S R)} (h : ∀ s, Le (step s) (step' s)) : ∀ (n : Nat) (s : S), Le (loopN step n s) (loopN step' n s)
  | 0, _ => Le.refl _
  | n + 1, s => by
    intro r hr
    simp only [loopN] at hr ⊢
    cases hs : step s with
    | none => rw [hs] at hr; cases hr
    | some o =>
      rw [hs] at hr
      rw [h s o hs]
      cases o with
      | next s' => exact Le.loopN2 h n s' r hr
      | done r' => exact hr
theorem Le.loop2 {S R : Type} {step step' : S → Option (St S R)} {s : S} (h : ∀ s, Le (step s) (step' s)) : Le (GL.loop step s) (GL.loop step' s) := by
  intro r hr
  obtain ⟨n, hn⟩ := loop_to hr
  exact loop_of (Le.loopN2 h n s r hn)
theorem Le.elim2 {α β γ : Type} {r : Fl α β} {f f' : α → Option γ} {g g' : β → Option γ} (h : ∀ x, Le (f x) (f' x)) (k : ∀ x, Le (g x) (g' x)) : Le (Fl.elim2 r f g) (Fl.elim2 r f' g') := by
  cases r with
  | go x => exact h x
  | ret x => exact k x
theorem recM_mono {R : Type} {F : Nat → Option R} (hm : ∀ n, Le (F n) (F (n + 1))) {n : Nat} {r : R} (h : F n = some r) : recM F = some r := by
  have hk : ∀ k n, Le (F n) (F (n + k)) := by
    intro k
    induction k with
    | zero => exact fun n => Le.refl _
    | succ k ih => exact fun n => Le.trans' (ih n) (hm (n + k))
  refine recM_of (fun m r' h' => ?_) n h
  rcases Nat.le_total n m with hnm | hnm
  · have := hk (m - n) n r h
    rw [show n + (m - n) = m by omega, h'] at this
    exact Option.some.inj this
  · have := hk (n - m) m r' h'
    rw [show m + (n - m) = n by omega, h] at this
    exact (Option.some.inj this).symm

end Go.GL
