/-
  A small library of our own: equality of structs and arrays; a row appended to rows; parts of arrays in blocks as slices.
-/
import Derived.Test.YtdjjomghggplpaaLibV
import Derived.Laws.StructEq
namespace Go.GL
open Go Go.RowKit
variable {Ds : List Nat} {ro : Option Nat}

theorem all_one {us : Array Value} (h : us.toList.all (fun u => u.oneCell') = true) : ∀ u ∈ us.toList, u.oneCell' = true := List.all_eq_true.1 h

/-! ### A row appended to rows -/
section
variable {P : Program} {w0 w : World} {B : Nat} {l r ps : List HP} {t e ei : TypeId} {inf : TypeInfo} {A : Option Addr} {n c : Nat} {hd : List Hd} {m : List (List Int)}

end


theorem done_b {S R T : Type} {step : S → Option (St S R)} {n : Nat} {K : R → Option T} {x : R} {r : T} (h : (some (St.done x)).bind (stK step n K) = some r) : K x = some r := h

section
variable {P : Program} {ops : Array Oper} {C : World → Prop} {Q : Exit → Act → World → Prop} {S : World → Prop} {l : List Oper} {a : Act} {w : World}
theorem wpList_of_qW {rest : List Oper} : ∀ (l : List Oper) (a : Act), C w → wpQ P ops C true (fun a' => listR P ops Q rest a' w) l a → listR P ops Q (l ++ rest) a w
  | [], _, _, h => h
  | o :: l, a, hC, h => by
    unfold wpQ at h
    rw [List.cons_append]
    unfold listR
    split
    · rename_i hw
      rw [if_pos hw] at h
      obtain ⟨v, h1, h2⟩ := h
      have hr : (execOp a.eval o).run P w = .ok (.value v) w := by
        unfold Oper.q at h1
        split at h1
        · exact h1 w
        · exact h1 w hC
        · rename_i hx; cases hx
      unfold oR
      rw [hr, upR_value]
      exact wpList_of_qW l _ hC h2
    · rename_i hw
      rw [if_neg hw] at h
      exact wpList_of_qW l _ hC h

theorem at_runW {w0 : World} {B n : Nat} {ρ : Env} {ps : List HP} {arr : Array Oper} {k : Nat} (m : Nat) (obs : List Ob) (orc : List (Option Value)) (ts : List Nat) (τ : Env) (hF : FrD Ds n ρ a) (hS : Sep w0 B w ps) (hdst : dstOk n ((l.drop k).take m) = true)
    (hev : (evR P arr ((l.drop k).take m) orc ρ).map (fun x => (x.1.sel ts, x.2)) = some (τ, obs)) (hob : ∀ b ∈ obs, b.holds P (fun w' => Sep w0 B w' ps) true)
    (hK : ∀ a', FrD Ds n τ a' → wpAt P arr l Q (k + m) a' w) : wpAt P arr l Q k a w := by
  unfold wpAt
  cases hx : evR P arr ((l.drop k).take m) orc ρ with
  | none => rw [hx] at hev; simp at hev
  | some x =>
    rw [hx] at hev
    simp at hev
    obtain ⟨ρ1, obs1⟩ := x
    simp only at hev
    obtain ⟨e1, e2⟩ := hev
    rw [← List.take_append_drop m (l.drop k)]
    refine wpList_of_qW (C := fun w' => Sep w0 B w' ps) _ a hS ?_
    refine evR_q (P := P) (ops := arr) (C := fun w' => Sep w0 B w' ps) (x := true) _ orc ρ ρ1 _ a hx hdst (e2 ▸ hob) hF fun a' hF' => ?_
    have := hK a' (hF'.weak ts e1)
    unfold wpAt at this
    rw [List.drop_drop]
    exact this

theorem any_finI {es : List Nat} {f i : Nat} {listed : Array Bool} {w1 : World} {lt : List Oper} {k : Nat} (hk : lt.drop k = []) (h1 : S w1 → S w) (h2 : wpAnyG P l.toArray (noPanic Q) S (effT es) f listed a w) : wpAt P l.toArray lt (keepK (TK P l Q S es f listed i w1) (noPanic Q)) k a w :=
  at_fin hk ⟨fun _ => h1, h2⟩
end


/-! ### Recursion: what answers with little fuel answers alike with more -/
end Go.GL
