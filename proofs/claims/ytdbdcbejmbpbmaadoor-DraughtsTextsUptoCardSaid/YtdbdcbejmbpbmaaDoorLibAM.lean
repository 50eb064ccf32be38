/-
  A small library of our own: maps of the call's own, by their entries in the order in which they came.
-/
import Derived.Test.YtdbdcbejmbpbmaaDoorLibW
import Derived.MapKept
import Derived.ChangeMaps5
namespace Go.GL
open Go Go.RowKit
variable {Ds : List Nat} {ro : Option Nat}

section
variable {K V : Type} [DecidableEq K]

/-- The entries of a map, one by one. -/
def ER (kf : K → Value) (vf : V → Value) : List MapEntry → List (K × V) → Prop
  | [], [] => True
  | e :: es, p :: m => (e.key = kf p.1 ∧ e.val = vf p.2) ∧ ER kf vf es m
  | _, _ => False

def mfind (vf : V → Value) (k : K) : List (K × V) → Nat → Option (Nat × Value)
  | [], _ => none
  | p :: m, i => if k = p.1 then some (i, vf p.2) else mfind vf k m (i + 1)

/-- What a map needs of its key's type. -/
structure MKey (P : Program) (kt : TypeId) (kf : K → Value) : Prop where
  chk : ∀ (em : Bool) (a : K) (w : World), (Instr.checkKey em 10000 kt (kf a)).run P w = .ok () w
  stay : ∀ (a : K) (w : World), (Instr.keyThatStays (kf a) (kf a)).run P w = .ok (kf a) w
  fnd : ∀ {V : Type} (vf : V → Value) (k : K) (w : World) (es : List MapEntry) (m : List (K × V)), ER kf vf es m → (Instr.findKey kt (kf k) es).run P w = .ok (mfind vf k m 0) w

variable {P : Program} {kt : TypeId} {kf : K → Value} {vf : V → Value}

theorem asking_run (eqk : ∀ (a b : K) (w : World), (Op.equal kt (kf a) (kf b)).run P w = .ok (decide (a = b)) w) (k : K) (w : World) : ∀ (es : List MapEntry) (m : List (K × V)) (i : Nat), ER kf vf es m → (Instr.findAsking kt (kf k) es i).run P w = .ok (mfind vf k m i) w
  | [], [], _, _ => by simp [Instr.findAsking, mfind]
  | [], _ :: _, _, h => h.elim
  | _ :: _, [], _, h => h.elim
  | e :: es, p :: m, i, h => by
    have ih := asking_run eqk k w es m (i + 1) h.2
    unfold Instr.findAsking mfind
    simp only [Sem.run_bind, h.1.1, eqk, Result.andThen_ok]
    by_cases e1 : k = p.1
    · rw [if_pos e1]; simp [e1, h.1.2]
    · rw [if_neg e1]; simp [e1, ih]

theorem MKey.of (eqk : ∀ (a b : K) (w : World), (Op.equal kt (kf a) (kf b)).run P w = .ok (decide (a = b)) w)
    (chk : ∀ (em : Bool) (a : K) (w : World), (Instr.checkKey em 10000 kt (kf a)).run P w = .ok () w)
    (now : ∃ d, P.underlying kt = some d ∧ ∀ (a b : K) (e : MapEntry) (es : List MapEntry) (i : Nat), e.key = kf b → Instr.findNow d (kf a) (e :: es) i = none)
    (stay : ∀ (a : K) (w : World), (Instr.keyThatStays (kf a) (kf a)).run P w = .ok (kf a) w) : MKey P kt kf := ⟨chk, stay, by
  intro V vf k w es m h
  obtain ⟨d, hd, hn⟩ := now
  unfold Instr.findKey
  simp only [Sem.run_bind, run_underlying hd, Result.andThen_ok]
  cases es with
  | nil => cases m with
    | nil => simp [Instr.findNow, mfind]
    | cons _ _ => exact h.elim
  | cons e es => cases m with
    | nil => exact h.elim
    | cons p m =>
      rw [hn k p.1 e es 0 h.1.1]
      exact asking_run eqk k w _ _ 0 h⟩

variable {w0 w : World} {B : Nat} {l r : List HP} {t et : TypeId} {b : Nat} {m : List (K × V)} {C : World → Prop}

end

/-! ### keys that are structs or arrays of single cells -/
section
variable {P : Program}

end
end Go.GL
