/-
  A small library of our own: a region that draws its order, with literals that may be built ahead of a load.
-/
import Derived.Test.YtdbdcbejmbpbmaaDoorLibR
namespace Go.GL
open Go Go.RowKit
variable {Ds : List Nat} {ro : Option Nat}

section
variable {P : Program} {ops : Array Oper} {Q : Exit → Act → World → Prop} {S : World → Prop}

def isAlc (ops : Array Oper) (j : Nat) : Bool := match ops[j]? with
  | some o => match o.op with | .buildSlice _ _ _ => true | _ => false
  | none => false

theorem bs_run {t : TypeId} {n : Nat} {parts : Array (Nat × Value)} {w w' : World} {v : Value} (h : (Instr.buildSlice t n parts).run P w = .ok v w') : ∃ c, w' = w.alloc c := by
  unfold Instr.buildSlice at h
  cases hu : P.underlying t with
  | none => simp [underlying, hu] at h
  | some d =>
    rw [Sem.run_bind, run_underlying hu] at h
    simp only [Result.andThen_ok] at h
    cases d with
    | slice elem =>
      simp only at h
      cases hi : P.info? elem with
      | none => simp [sizeOf, typeInfo, hi] at h
      | some inf =>
        have hs : ∀ w, (sizeOf elem).run P w = .ok inf.size w := fun w => by simp [sizeOf, typeInfo, hi]
        rw [Sem.run_bind, hs] at h
        simp only [Result.andThen_ok] at h
        by_cases hb : n * inf.size > 2 ^ 24
        · rw [if_pos hb] at h
          simp [unsupported] at h
        · rw [if_neg hb] at h
          by_cases h0 : n * inf.size = 0
          · rw [if_pos h0] at h
            simp only [pure_bind] at h
            split at h
            · simp [newRow] at h
              exact ⟨_, h.2.symm⟩
            · simp at h
          · rw [if_neg h0] at h
            cases hz : inf.zero with
            | none => simp [zeroValue, typeInfo, hi, hz, unsupported] at h
            | some z =>
              have hzv : ∀ w, (zeroValue elem).run P w = .ok z w := fun w => by simp [zeroValue, typeInfo, hi, hz]
              rw [Sem.run_bind, hzv] at h
              simp only [Result.andThen_ok, pure_bind] at h
              split at h
              · simp [newRow] at h
                exact ⟨_, h.2.symm⟩
              · simp at h
    | _ => simp at h
theorem alc_run {σ : Operand → Value} {o : Oper} {t : TypeId} {n : Nat} {ps : Array (Nat × Operand)} {w w' : World} {nx : Next} (ho : o.op = .buildSlice t n ps) (h : (execOp σ o).run P w = .ok nx w') : ∃ v c, nx = .value v ∧ w' = w.alloc c := by
  unfold execOp at h
  rw [ho] at h
  simp only at h
  rw [Sem.run_bind] at h
  cases hr : (Instr.buildSlice t n (ps.map fun x => (x.1, σ x.2))).run P w with
  | ok v w2 =>
    rw [hr] at h
    simp at h
    obtain ⟨c, rfl⟩ := bs_run hr
    exact ⟨v, c, h.1.symm, h.2.symm⟩
  | halt x w2 =>
    rw [hr] at h
    simp at h

end

end Go.GL
