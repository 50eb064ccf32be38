/-
  A small library of our own: strings letter by letter; maps by a whole number.
-/
import Derived.Test.YtdbdcbejmbpbmaaDoorLibAR
import Derived.Test.YtdbdcbejmbpbmaaDoorLibSu
import Derived.Laws.RangeAny
import Derived.Laws.IdiomStrings
namespace Go.GL
open Go Go.RowKit

section
variable {P : Program} {w0 w : World} {B : Nat} {l r : List HP} {g : Nat} {s : List UInt8} {p : Int}

end

section
variable {P : Program} {kt : TypeId} {k : IntKind}
theorem now_int {V : Type} (vf : V → Value) (x : Int) : ∀ (es : List MapEntry) (m : List (Int × V)) (i : Nat), ER (Value.int k) vf es m → Instr.findNow (.int k) (.int k x) es i = some (mfind vf x m i)
  | [], [], _, _ => by simp [Instr.findNow, mfind]
  | [], _ :: _, _, h => h.elim
  | _ :: _, [], _, h => h.elim
  | e :: es, p :: m, i, h => by
    have ih := now_int vf x es m (i + 1) h.2
    unfold Instr.findNow mfind
    rw [h.1.1, h.1.2]
    simp only [Instr.sameNow]
    by_cases e1 : x = p.1
    · simp [e1]
    · have : (x == p.1) = false := by simpa using e1
      simp [e1, this, ih]

theorem MKey.int (h : P.underlying kt = some (.int k)) : MKey P kt (Value.int k) := ⟨fun em a w => by
    unfold Instr.checkKey
    simp [run_underlying h], fun a w => by
    simp [Instr.keyThatStays, Instr.sameBits], by
  intro V vf x w es m hE
  unfold Instr.findKey
  simp only [Sem.run_bind, run_underlying h, Result.andThen_ok]
  rw [now_int vf x es m 0 hE]
  simp⟩
end

section
variable {P : Program} {w0 w : World} {B : Nat} {ps : List HP}
end
end Go.GL
