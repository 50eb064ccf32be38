/-
  Equality of structs of which some fields are arrays.
-/
import Derived.Test.YtdbdcbejmbpbmaaDoorLibW
namespace Go.GL
open Go Go.RowKit
variable {Ds : List Nat} {ro : Option Nat}

theorem part_agg {P : Program} {t : TypeId} {cs ys : Array Value} {o n : Nat} (hag : runPure P (isAgg t) = some true) (hs : runPure P (sizeOf t) = some n) (h : cs.extract o (o + n) = ys) (w : World) : (part t cs o).run P w = .ok (.agg ys) w := by
  subst h
  simp [part, runPure_run _ hag, runPure_run _ hs]
def FEq2 (P : Program) (d : Nat) (w : World) (xs ys : Array Value) : List Field → List Bool → Prop
  | [], [] => True
  | f :: fs, b :: bs => (f.name ≠ "_" ∧ ∃ x y, (part f.type xs f.offset).run P w = .ok x w ∧ (part f.type ys f.offset).run P w = .ok y w ∧ (Op.equalIn d f.type x y).run P w = .ok b w) ∧ FEq2 P d w xs ys fs bs
  | _, _ => False
theorem eqFields2_run {P : Program} {d : Nat} {xs ys : Array Value} {w : World} : ∀ (fs : List Field) (bs : List Bool), FEq2 P d w xs ys fs bs → (Op.eqFields d xs ys fs).run P w = .ok (eqBs bs) w
  | [], [], _ => by simp [Op.eqFields, eqBs]
  | [], _ :: _, h => h.elim
  | _ :: _, [], h => h.elim
  | f :: fs, b :: bs, ⟨⟨h1, x, y, h3, h4, h5⟩, h⟩ => by
    have ih := eqFields2_run fs bs h
    rw [eqBs_cons]
    simp only [Op.eqFields, if_pos h1, Sem.run_bind, h3, h4, Result.andThen_ok, h5]
    cases b
    · simp
    · simpa using ih
theorem eq_struct2 {P : Program} {t : TypeId} {xs ys : Array Value} {w : World} {fs : Array Field} (bs : List Bool) (ht : P.underlying t = some (.struct fs)) (hp : P.stoodInHeld t = false)
    (h : FEq2 P 9999 w xs ys fs.toList bs) : (Op.equal t (.agg xs) (.agg ys)).run P w = .ok (eqBs bs) w := by
  show (Op.equalIn (9999 + 1) t (.agg xs) (.agg ys)).run P w = _
  have hf : P.fieldsOf t = fs := by simp [Program.fieldsOf, ht]
  rw [run_equalIn_struct w 9999 t xs ys (by rw [hf]; exact ht) hp, hf]
  exact eqFields2_run _ bs h
theorem eqv_int1 {P : Program} {w : World} {t : TypeId} {k k' : IntKind} {a b : Int} (h : P.underlying t = some (.int k')) : (Op.equalIn 9998 t (.int k a) (.int k b)).run P w = .ok (a == b) w := run_equalIn_int w 9997 t k k' a b h
end Go.GL
