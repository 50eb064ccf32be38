/-
  A small library of our own: strings as lists of bytes; slices of bytes and of strings as they come in, and appended.
-/
import Derived.Test.YtdbdcbejmbpbmaaDoorLibSt
import Derived.Test.YtdbdcbejmbpbmaaDoorLibAP
import Derived.Deep.Strs
import Derived.Lib.AppendStr
import Derived.Lib.ConvBytes
import Derived.Lib.SlBytesConst
namespace Go.GL
open Go Go.RowKit Go.ChangeShapes Go.WideShapes Go.ChangeAt
variable {Ds : List Nat} {ro : Option Nat}

section
variable {P : Program} {C : World → Prop} {hyps : List (Bool × Bool)} {w0 w : World} {B : Nat} {l r ps : List HP} {A : Option Addr} {n c : Nat} {m : List Int} {t e : TypeId} {inf : TypeInfo} {s s1 s2 : List UInt8}

theorem ob_slen {x : Bool} (ht : P.underlying t = some .string) (ty : TypeId) : Ob.holds P C x ⟨true, hyps, vS (Builtin.len_ #[t] ty #[strV s]), .int .i64 (s.length : Int)⟩ :=
  Ob.any fun _ w => by
    simp only [Builtin.len_, List.getElem?_toArray, List.getElem?_cons_zero, Sem.run_bind, run_underlying ht, Result.andThen_ok]
    rfl

theorem strV_extract (a b : Nat) : (⟨s.toArray⟩ : ByteArray).extract a b = ⟨((s.drop a).take (b - a)).toArray⟩ := by
  apply ByteArray.ext
  simp [ByteArray.data_extract, List.extract_toArray, List.extract_eq_take_drop]

theorem ob_scut {x : Bool} {lo hi : Int} {vlo vhi : Option Value} {k k' : IntKind} (ht : P.underlying t = some .string) (h1 : vlo = some (.int k lo) ∨ vlo = none ∧ lo = 0) (h2 : vhi = some (.int k' hi) ∨ vhi = none ∧ hi = s.length)
    (h : (∀ y ∈ hyps, y.1 = y.2) → 0 ≤ lo ∧ lo ≤ hi ∧ hi ≤ (s.length : Int)) :
    Ob.holds P C x ⟨true, hyps, vS (Instr.sliceAt t (strV s) vlo vhi none), strV (cut s lo hi)⟩ :=
  Ob.any fun hy w => by
    obtain ⟨b0, b1, b2⟩ := h hy
    have e1 : (Instr.sliceBounds false s.length s.length vlo vhi none).run P w = .ok (lo.toNat, hi.toNat, s.length) w := by
      have hh : hi.toNat ≤ s.length := by omega
      have h3 : (0 ≤ hi ∧ hi ≤ (s.length : Int)) := by omega
      have h4 : (0 ≤ lo ∧ lo ≤ (hi.toNat : Int)) := by omega
      rcases h1 with rfl | ⟨rfl, rfl⟩ <;> rcases h2 with rfl | ⟨rfl, rfl⟩ <;> simp_all [Instr.sliceBounds, Instr.sliceBound, asIntOf]
    have hsz : (⟨s.toArray⟩ : ByteArray).size = s.length := by simp [ByteArray.size]
    simp only [Instr.sliceAt, Instr.slice, Sem.run_bind, run_underlying ht, Result.andThen_ok, Option.isSome_none, Bool.false_eq_true, if_false, hsz, e1, Sem.run_pure, strV_extract, cut]
    rw [show hi.toNat - lo.toNat = (hi - lo).toNat by omega]

theorem strV_toList : (⟨s.toArray⟩ : ByteArray).toList = s := by
  rw [ByteArray.toList_eq]

theorem ob_seql {x : Bool} (o1 o2 : Operand) : Ob.holds P C x ⟨true, hyps, vS (do eqGuard .eql t o1 o2 (strV s1) (strV s2); binOp .eql t (strV s1) (strV s2)), .bool (s1 == s2)⟩ :=
  Ob.any fun _ w => by
    simp only [eqGuard, binOp, Op.stringOp, Sem.run_bind, strV_toList]
    rfl
theorem ob_sneq {x : Bool} (o1 o2 : Operand) : Ob.holds P C x ⟨true, hyps, vS (do eqGuard .neq t o1 o2 (strV s1) (strV s2); binOp .neq t (strV s1) (strV s2)), .bool (!(s1 == s2))⟩ :=
  Ob.any fun _ w => by
    simp only [eqGuard, binOp, Op.stringOp, Sem.run_bind, strV_toList]
    rfl
theorem ob_sadd {x : Bool} (o1 o2 : Operand) (h : (∀ y ∈ hyps, y.1 = y.2) → (s1.length : Int) + s2.length ≤ bigN) : Ob.holds P C x ⟨true, hyps, vS (do eqGuard .add t o1 o2 (strV s1) (strV s2); binOp .add t (strV s1) (strV s2)), strV (s1 ++ s2)⟩ :=
  Ob.any fun hy w => by
    have h1 := h hy
    unfold bigN at h1
    have h2 : ¬ (((⟨s1.toArray⟩ : ByteArray).size + (⟨s2.toArray⟩ : ByteArray).size : Nat) : Int) > IntKind.i64.max := by
      have : IntKind.i64.max = 9223372036854775807 := by decide
      have e1 : (⟨s1.toArray⟩ : ByteArray).size = s1.length := by simp [ByteArray.size]
      have e2 : (⟨s2.toArray⟩ : ByteArray).size = s2.length := by simp [ByteArray.size]
      rw [e1, e2]
      omega
    have h3 : (⟨s1.toArray⟩ : ByteArray) ++ ⟨s2.toArray⟩ = ⟨(s1 ++ s2).toArray⟩ := by
      apply ByteArray.ext
      simp
    simp only [eqGuard, binOp, Op.stringOp, Sem.run_bind]
    rw [if_neg h2, h3]
    rfl

/-! ### Bytes and strings appended -/
/-! ### A literal's row that a conversion has marked -/

end
end Go.GL

namespace Go.GL
open Go Go.RowKit Go.ChangeShapes Go.WideShapes Go.ChangeAt
section
variable {H : Type} {enc : TypeId × Value → H} {P : Program}

end
end Go.GL
namespace Go.GL
open Go Go.RowKit
section
variable {P : Program} {w0 w : World} {B : Nat} {A : Option Addr} {n c : Nat} {m : List Int}
/-- A string made of bytes that can be read. -/
theorem run_strE {src dst e : TypeId} {B' : Nat} (hs : P.underlying src = some (.slice e)) (he : P.underlying e = some (.int .u8)) (hd : P.underlying dst = some .string) (hr : Rd w B' A (m.map (Value.int .u8))) (hl : n = m.length) :
    (vS (convert src dst (.slice A n c))).run P w = .ok (.value (strV (b8 m))) w := by
  have := run_str (P := P) (c := c) hr hl
  exact vS_run (by simp [convert, run_underlying hs, run_underlying he, run_underlying hd, this, Result.andThen])
end
end Go.GL
