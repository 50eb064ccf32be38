/-
  Drawn regions: the last operations, when none of them does anything but tell a value, in the order of the text.
-/
import Derived.Test.YtkpkkdpfcbnfdaaLibW
namespace Go.GL
open Go
variable {Ds : List Nat} {ro : Option Nat}

def closedB (ops : Array Oper) (listed : Array Bool) : Bool :=
  (List.range ops.size).all fun j => match ops[j]? with
    | none => true
    | some o => !listed.getD j false || o.after.all fun e => !Region.binds .any e || listed.getD e.on false

theorem closed_of {ops : Array Oper} {listed : Array Bool} (h : closedB ops listed = true) : Closed ops listed := by
  intro j o ho hl e he hb
  have hj : j < ops.size := by
    rcases Nat.lt_or_ge j ops.size with h1 | h1
    · exact h1
    · rw [Array.getElem?_eq_none h1] at ho; cases ho
  have h1 := List.all_eq_true.1 h j (List.mem_range.2 hj)
  simp only [ho, hl, Bool.not_true, Bool.false_or] at h1
  have h2 := Array.all_eq_true'.1 h1 e he
  simpa [hb] using h2

theorem any_world {P : Program} {ops : Array Oper} {Q : Exit → Act → World → Prop} {S : World → Prop} {eff : Nat → Bool} {w : World} : ∀ (f : Nat) (listed : Array Bool) (a : Act), wpAnyG P ops Q (fun w' => w' = w) (effT []) f listed a w → wpAnyG P ops Q S eff f listed a w
  | 0, _, _, h => h
  | f + 1, listed, a, h => ⟨h.1, fun i hi => opR_mono (fun a' w' hk => by
      have e : w' = w := hk.1 rfl rfl
      subst e
      exact ⟨fun _ hs => hs, any_world f _ a' hk.2⟩) (h.2 i hi)⟩

theorem any_rest {P : Program} {Q : Exit → Act → World → Prop} {S : World → Prop} {l : List Oper} {a : Act} {w w0 : World} {B n f : Nat} {ρ : Env} {ps : List HP} {es : List Nat} {listed : Array Bool}
    (hs : List Nat) (obs : List Ob) (orc : List (Option Value)) (sl : List Nat) (τ : Env) (hF : FrD Ds n ρ a) (hS : Sep w0 B w ps)
    (hB : (Region.noSelect l.toArray && decide (hs.length = f) && closedB l.toArray listed && headsB5 l.toArray [] hs listed (Array.replicate l.toArray.size true) && (Region.ready .any l.toArray (Array.replicate l.toArray.size true)).isEmpty) = true)
    (hh : hs.map (l[·]?) = (sel? l hs).map some) (hdst : dstOk n (sel? l hs) = true)
    (hev : (evR P l.toArray (sel? l hs) orc ρ).map (fun x => (x.1.sel sl, x.2)) = some (τ, obs)) (hob : ∀ b ∈ obs, b.holds P (fun w' => Sep w0 B w' ps) true)
    (hK : ∀ a', FrD Ds n τ a' → noPanic Q .normal a' w) : wpAnyG P l.toArray (noPanic Q) S (effT es) f listed a w := by
  cases hx : evR P l.toArray (sel? l hs) orc ρ with
  | none => rw [hx] at hev; simp at hev
  | some x =>
    rw [hx] at hev
    simp at hev
    obtain ⟨ρ1, obs1⟩ := x
    simp only at hev
    obtain ⟨e1, rfl⟩ := hev
    simp only [Bool.and_eq_true, decide_eq_true_eq] at hB
    obtain ⟨⟨⟨⟨hsel, hlen⟩, hcl⟩, hheads⟩, hend⟩ := hB
    subst hlen
    refine any_world _ _ _ ?_
    have key := anyG_heads5 (P := P) (ops := l.toArray) (S := fun w' => w' = w) (Q := noPanic Q) (m := 0) hsel (fun c a w h => h) hs (sel? l hs) listed a w (by simpa using hh) (closed_of hcl) hheads rfl ?_
    · exact key
    · refine evR_q (P := P) (ops := l.toArray) (C := fun w' => w' = w) (x := true) (sel? l hs) orc ρ ρ1 _ a hx hdst (fun b hb hy => ?_) hF fun a' hF' => ⟨List.isEmpty_iff.1 hend, hK a' (hF'.weak sl e1)⟩
      have := hob b hb hy
      revert this
      cases b.free
      · intro h w' hw'; subst hw'; exact h _ hS
      · exact fun h => h
end Go.GL
