/-
  A small library of our own: equality of structs and arrays; a row appended to rows; parts of arrays in blocks as slices.
-/
import Derived.Test.YtdbdcbejmbpbmaaDoorLibV
import Derived.Laws.StructEq
namespace Go.GL
open Go Go.RowKit
variable {Ds : List Nat} {ro : Option Nat}

theorem part_one {P : Program} {t : TypeId} {cs : Array Value} {o : Nat} {v : Value} (hag : runPure P (isAgg t) = some false) (hv : cs[o]? = some v) (w : World) : (part t cs o).run P w = .ok v w := by
  simp [part, runPure_run _ hag, hv]
/-- Fields that are one cell each, in a row: equal one by one. -/
def eqBs : List Bool → Bool
  | [] => true
  | [b] => b
  | b :: bs => b && eqBs bs
theorem eqBs_cons (b : Bool) (bs : List Bool) : eqBs (b :: bs) = (b && eqBs bs) := by cases bs <;> simp [eqBs]
/-- Elements of one cell each. -/
def AEq (P : Program) (d : Nat) (w : World) (e : TypeId) (xs ys : Array Value) : Nat → List Bool → Prop
  | _, [] => True
  | i, b :: bs => (∃ x y, xs[i]? = some x ∧ ys[i]? = some y ∧ (Op.equalIn d e x y).run P w = .ok b w) ∧ AEq P d w e xs ys (i + 1) bs
theorem eq_array_d {P : Program} {t e : TypeId} {n d : Nat} {xs ys : Array Value} {w : World} (bs : List Bool) (ht : P.underlying t = some (.array n e)) (hs : runPure P (sizeOf e) = some 1) (hag : runPure P (isAgg e) = some false) (hn : bs.length = n)
    (h : AEq P d w e xs ys 0 bs) : (Op.equalIn (d + 1) t (.agg xs) (.agg ys)).run P w = .ok (eqBs bs) w := by
  subst hn
  simp only [Op.equalIn, Sem.run_bind, run_underlying ht, Result.andThen_ok, runPure_run _ hs, Std.Legacy.Range.forIn_eq_forIn_range', Std.Legacy.Range.size, Nat.mul_one]
  simp only [Nat.sub_zero, Nat.add_sub_cancel, Nat.div_one]
  generalize hq : (0 : Nat) = s at h ⊢
  clear hq ht
  induction bs generalizing s with
  | nil => simp [eqBs]
  | cons b bs ih =>
    obtain ⟨⟨x, y, h3, h4, h5⟩, h⟩ := h
    rw [eqBs_cons, List.length_cons, List.range'_succ, List.forIn_cons]
    simp only [Sem.run_bind, part_one hag h3, part_one hag h4, Result.andThen_ok, h5]
    cases b
    · simp
    · simpa using ih (s + 1) h
theorem eqv_int {P : Program} {w : World} {t : TypeId} {k k' : IntKind} {a b : Int} (h : P.underlying t = some (.int k')) : (Op.equalIn 9999 t (.int k a) (.int k b)).run P w = .ok (a == b) w := run_equalIn_int w 9998 t k k' a b h
/-! ### A row appended to rows -/
section
variable {P : Program} {w0 w : World} {B : Nat} {l r ps : List HP} {t e ei : TypeId} {inf : TypeInfo} {A : Option Addr} {n c : Nat} {hd : List Hd} {m : List (List Int)}

end


theorem done_b {S R T : Type} {step : S → Option (St S R)} {n : Nat} {K : R → Option T} {x : R} {r : T} (h : (some (St.done x)).bind (stK step n K) = some r) : K x = some r := h

section
variable {P : Program} {ops : Array Oper} {C : World → Prop} {Q : Exit → Act → World → Prop} {S : World → Prop} {l : List Oper} {a : Act} {w : World}
end


/-! ### Recursion: what answers with little fuel answers alike with more -/
end Go.GL
