/-
  A small library of our own: equality of structs and arrays; a row appended to rows; parts of arrays in blocks as slices.
-/
import Derived.Test.YtkpkkdpfcbnfdaaLibV
import Derived.Laws.StructEq
namespace Go.GL
open Go Go.RowKit
variable {Ds : List Nat} {ro : Option Nat}

theorem part_one {P : Program} {t : TypeId} {cs : Array Value} {o : Nat} {v : Value} (hag : runPure P (isAgg t) = some false) (hv : cs[o]? = some v) (w : World) : (part t cs o).run P w = .ok v w := by
  simp [part, runPure_run _ hag, hv]
/-- Fields that are one cell each, in a row: equal one by one. -/
def eqBs : List Bool → Bool
  | [] => true
  | [b] => b
  | b :: bs => b && eqBs bs
theorem eqBs_cons (b : Bool) (bs : List Bool) : eqBs (b :: bs) = (b && eqBs bs) := by cases bs <;> simp [eqBs]
/-- Elements of one cell each. -/
def AEq (P : Program) (d : Nat) (w : World) (e : TypeId) (xs ys : Array Value) : Nat → List Bool → Prop
  | _, [] => True
  | i, b :: bs => (∃ x y, xs[i]? = some x ∧ ys[i]? = some y ∧ (Op.equalIn d e x y).run P w = .ok b w) ∧ AEq P d w e xs ys (i + 1) bs
theorem eq_array_d {P : Program} {t e : TypeId} {n d : Nat} {xs ys : Array Value} {w : World} (bs : List Bool) (ht : P.underlying t = some (.array n e)) (hs : runPure P (sizeOf e) = some 1) (hag : runPure P (isAgg e) = some false) (hn : bs.length = n)
    (h : AEq P d w e xs ys 0 bs) : (Op.equalIn (d + 1) t (.agg xs) (.agg ys)).run P w = .ok (eqBs bs) w := by
  subst hn
  simp only [Op.equalIn, Sem.run_bind, run_underlying ht, Result.andThen_ok, runPure_run _ hs, Std.Legacy.Range.forIn_eq_forIn_range', Std.Legacy.Range.size, Nat.mul_one]
  simp only [Nat.sub_zero, Nat.add_sub_cancel, Nat.div_one]
  generalize hq : (0 : Nat) = s at h ⊢
  clear hq ht
  induction bs generalizing s with
  | nil => simp [eqBs]
  | cons b bs ih =>
    obtain ⟨⟨x, y, h3, h4, h5⟩, h⟩ := h
    rw [eqBs_cons, List.length_cons, List.range'_succ, List.forIn_cons]
    simp only [Sem.run_bind, part_one hag h3, part_one hag h4, Result.andThen_ok, h5]
    cases b
    · simp
    · simpa using ih (s + 1) h
theorem eq_array {P : Program} {t e : TypeId} {n : Nat} {xs ys : Array Value} {w : World} (bs : List Bool) (ht : P.underlying t = some (.array n e)) (hs : runPure P (sizeOf e) = some 1) (hag : runPure P (isAgg e) = some false) (hn : bs.length = n)
    (h : AEq P 9999 w e xs ys 0 bs) : (Op.equal t (.agg xs) (.agg ys)).run P w = .ok (eqBs bs) w := eq_array_d bs ht hs hag hn h
theorem eqv_int {P : Program} {w : World} {t : TypeId} {k k' : IntKind} {a b : Int} (h : P.underlying t = some (.int k')) : (Op.equalIn 9999 t (.int k a) (.int k b)).run P w = .ok (a == b) w := run_equalIn_int w 9998 t k k' a b h
theorem all_one {us : Array Value} (h : us.toList.all (fun u => u.oneCell') = true) : ∀ u ∈ us.toList, u.oneCell' = true := List.all_eq_true.1 h

/-! ### A row appended to rows -/
section
variable {P : Program} {w0 w : World} {B : Nat} {l r ps : List HP} {t e ei : TypeId} {inf : TypeInfo} {A : Option Addr} {n c : Nat} {hd : List Hd} {m : List (List Int)}

end


theorem done_b {S R T : Type} {step : S → Option (St S R)} {n : Nat} {K : R → Option T} {x : R} {r : T} (h : (some (St.done x)).bind (stK step n K) = some r) : K x = some r := h

section
variable {P : Program} {ops : Array Oper} {C : World → Prop} {Q : Exit → Act → World → Prop} {S : World → Prop} {l : List Oper} {a : Act} {w : World}
theorem wpList_of_qW {rest : List Oper} : ∀ (l : List Oper) (a : Act), C w → wpQ P ops C true (fun a' => listR P ops Q rest a' w) l a → listR P ops Q (l ++ rest) a w
  | [], _, _, h => h
  | o :: l, a, hC, h => by
    unfold wpQ at h
    rw [List.cons_append]
    unfold listR
    split
    · rename_i hw
      rw [if_pos hw] at h
      obtain ⟨v, h1, h2⟩ := h
      have hr : (execOp a.eval o).run P w = .ok (.value v) w := by
        unfold Oper.q at h1
        split at h1
        · exact h1 w
        · exact h1 w hC
        · rename_i hx; cases hx
      unfold oR
      rw [hr, upR_value]
      exact wpList_of_qW l _ hC h2
    · rename_i hw
      rw [if_neg hw] at h
      exact wpList_of_qW l _ hC h

theorem at_runW {w0 : World} {B n : Nat} {ρ : Env} {ps : List HP} {arr : Array Oper} {k : Nat} (m : Nat) (obs : List Ob) (orc : List (Option Value)) (ts : List Nat) (τ : Env) (hF : FrD Ds n ρ a) (hS : Sep w0 B w ps) (hdst : dstOk n ((l.drop k).take m) = true)
    (hev : (evR P arr ((l.drop k).take m) orc ρ).map (fun x => (x.1.sel ts, x.2)) = some (τ, obs)) (hob : ∀ b ∈ obs, b.holds P (fun w' => Sep w0 B w' ps) true)
    (hK : ∀ a', FrD Ds n τ a' → wpAt P arr l Q (k + m) a' w) : wpAt P arr l Q k a w := by
  unfold wpAt
  cases hx : evR P arr ((l.drop k).take m) orc ρ with
  | none => rw [hx] at hev; simp at hev
  | some x =>
    rw [hx] at hev
    simp at hev
    obtain ⟨ρ1, obs1⟩ := x
    simp only at hev
    obtain ⟨e1, e2⟩ := hev
    rw [← List.take_append_drop m (l.drop k)]
    refine wpList_of_qW (C := fun w' => Sep w0 B w' ps) _ a hS ?_
    refine evR_q (P := P) (ops := arr) (C := fun w' => Sep w0 B w' ps) (x := true) _ orc ρ ρ1 _ a hx hdst (e2 ▸ hob) hF fun a' hF' => ?_
    have := hK a' (hF'.weak ts e1)
    unfold wpAt at this
    rw [List.drop_drop]
    exact this

theorem any_finI {es : List Nat} {f i : Nat} {listed : Array Bool} {w1 : World} {lt : List Oper} {k : Nat} (hk : lt.drop k = []) (h1 : S w1 → S w) (h2 : wpAnyG P l.toArray (noPanic Q) S (effT es) f listed a w) : wpAt P l.toArray lt (keepK (TK P l Q S es f listed i w1) (noPanic Q)) k a w :=
  at_fin hk ⟨fun _ => h1, h2⟩
/-- What several orders come to is walked once. -/
theorem any_share {es : List Nat} {f : Nat} {listed : Array Bool} (f' : Nat) (listed' : Array Bool) (I : Act → World → Prop)
    (h1 : ∀ a w, I a w → wpAnyG P l.toArray (noPanic Q) S (effT es) f' listed' a w)
    (h2 : (∀ a w, I a w → wpAnyG P l.toArray (noPanic Q) S (effT es) f' listed' a w) → wpAnyG P l.toArray (noPanic Q) S (effT es) f listed a w) :
    wpAnyG P l.toArray (noPanic Q) S (effT es) f listed a w := h2 h1
end


/-! ### Recursion: what answers with little fuel answers alike with more -/
end Go.GL
