/-
  A small library of our own: strings as lists of bytes; slices of bytes and of strings as they come in, and appended.
-/
import Derived.Test.YtdbdcbejmbpbmaaDoorLibSt
import Derived.Test.YtdbdcbejmbpbmaaDoorLibAP
import Derived.Deep.Strs
import Derived.Lib.AppendStr
import Derived.Lib.ConvBytes
import Derived.Lib.SlBytesConst
namespace Go.GL
open Go Go.RowKit Go.ChangeShapes Go.WideShapes Go.ChangeAt
variable {Ds : List Nat} {ro : Option Nat}

def getU (s : List UInt8) (i : Int) : Int := ((s.getD i.toNat 0).toNat : Int)
theorem strV_get (s : List UInt8) (j : Nat) : (⟨s.toArray⟩ : ByteArray)[j]? = s[j]? := by
  by_cases h : j < s.length
  · have h1 : j < (⟨s.toArray⟩ : ByteArray).size := by simpa [ByteArray.size] using h
    rw [getElem?_pos (⟨s.toArray⟩ : ByteArray) j h1, getElem?_pos s j h]
    rfl
  · have h1 : ¬ j < (⟨s.toArray⟩ : ByteArray).size := by simpa [ByteArray.size] using h
    rw [getElem?_neg (⟨s.toArray⟩ : ByteArray) j h1, getElem?_neg s j h]

section
variable {P : Program} {C : World → Prop} {hyps : List (Bool × Bool)} {w0 w : World} {B : Nat} {l r ps : List HP} {A : Option Addr} {n c : Nat} {m : List Int} {t e : TypeId} {inf : TypeInfo} {s s1 s2 : List UInt8}

theorem ob_slen {x : Bool} (ht : P.underlying t = some .string) (ty : TypeId) : Ob.holds P C x ⟨true, hyps, vS (Builtin.len_ #[t] ty #[strV s]), .int .i64 (s.length : Int)⟩ :=
  Ob.any fun _ w => by
    simp only [Builtin.len_, List.getElem?_toArray, List.getElem?_cons_zero, Sem.run_bind, run_underlying ht, Result.andThen_ok]
    rfl

theorem ob_sidx {x : Bool} {k : IntKind} {i : Int} (ht : P.underlying t = some .string) (h : (∀ y ∈ hyps, y.1 = y.2) → 0 ≤ i ∧ i < (s.length : Int)) :
    Ob.holds P C x ⟨true, hyps, vS (Instr.index t (strV s) (.int k i)), .int .u8 (getU s i)⟩ :=
  Ob.any fun hy w => by
    obtain ⟨h0, h1⟩ := h hy
    have hl : i.toNat < s.length := by omega
    have h2 : (if 0 ≤ i then (⟨s.toArray⟩ : ByteArray)[i.toNat]? else none) = some (s.getD i.toNat 0) := by
      rw [if_pos h0, strV_get]
      simp [List.getElem?_eq_getElem hl, List.getD_eq_getElem?_getD]
    simp only [Instr.index, asIntOf, Sem.run_bind, run_underlying ht, Sem.run_pure, Result.andThen_ok]
    rw [h2]
    rfl

theorem strV_extract (a b : Nat) : (⟨s.toArray⟩ : ByteArray).extract a b = ⟨((s.drop a).take (b - a)).toArray⟩ := by
  apply ByteArray.ext
  simp [ByteArray.data_extract, List.extract_toArray, List.extract_eq_take_drop]

theorem ob_scut {x : Bool} {lo hi : Int} {vlo vhi : Option Value} {k k' : IntKind} (ht : P.underlying t = some .string) (h1 : vlo = some (.int k lo) ∨ vlo = none ∧ lo = 0) (h2 : vhi = some (.int k' hi) ∨ vhi = none ∧ hi = s.length)
    (h : (∀ y ∈ hyps, y.1 = y.2) → 0 ≤ lo ∧ lo ≤ hi ∧ hi ≤ (s.length : Int)) :
    Ob.holds P C x ⟨true, hyps, vS (Instr.sliceAt t (strV s) vlo vhi none), strV (cut s lo hi)⟩ :=
  Ob.any fun hy w => by
    obtain ⟨b0, b1, b2⟩ := h hy
    have e1 : (Instr.sliceBounds false s.length s.length vlo vhi none).run P w = .ok (lo.toNat, hi.toNat, s.length) w := by
      have hh : hi.toNat ≤ s.length := by omega
      have h3 : (0 ≤ hi ∧ hi ≤ (s.length : Int)) := by omega
      have h4 : (0 ≤ lo ∧ lo ≤ (hi.toNat : Int)) := by omega
      rcases h1 with rfl | ⟨rfl, rfl⟩ <;> rcases h2 with rfl | ⟨rfl, rfl⟩ <;> simp_all [Instr.sliceBounds, Instr.sliceBound, asIntOf]
    have hsz : (⟨s.toArray⟩ : ByteArray).size = s.length := by simp [ByteArray.size]
    simp only [Instr.sliceAt, Instr.slice, Sem.run_bind, run_underlying ht, Result.andThen_ok, Option.isSome_none, Bool.false_eq_true, if_false, hsz, e1, Sem.run_pure, strV_extract, cut]
    rw [show hi.toNat - lo.toNat = (hi - lo).toNat by omega]

theorem strV_toList : (⟨s.toArray⟩ : ByteArray).toList = s := by
  rw [ByteArray.toList_eq]

theorem ob_seql {x : Bool} (o1 o2 : Operand) : Ob.holds P C x ⟨true, hyps, vS (do eqGuard .eql t o1 o2 (strV s1) (strV s2); binOp .eql t (strV s1) (strV s2)), .bool (s1 == s2)⟩ :=
  Ob.any fun _ w => by
    simp only [eqGuard, binOp, Op.stringOp, Sem.run_bind, strV_toList]
    rfl
theorem ob_sneq {x : Bool} (o1 o2 : Operand) : Ob.holds P C x ⟨true, hyps, vS (do eqGuard .neq t o1 o2 (strV s1) (strV s2); binOp .neq t (strV s1) (strV s2)), .bool (!(s1 == s2))⟩ :=
  Ob.any fun _ w => by
    simp only [eqGuard, binOp, Op.stringOp, Sem.run_bind, strV_toList]
    rfl
theorem ob_sadd {x : Bool} (o1 o2 : Operand) (h : (∀ y ∈ hyps, y.1 = y.2) → (s1.length : Int) + s2.length ≤ bigN) : Ob.holds P C x ⟨true, hyps, vS (do eqGuard .add t o1 o2 (strV s1) (strV s2); binOp .add t (strV s1) (strV s2)), strV (s1 ++ s2)⟩ :=
  Ob.any fun hy w => by
    have h1 := h hy
    unfold bigN at h1
    have h2 : ¬ (((⟨s1.toArray⟩ : ByteArray).size + (⟨s2.toArray⟩ : ByteArray).size : Nat) : Int) > IntKind.i64.max := by
      have : IntKind.i64.max = 9223372036854775807 := by decide
      have e1 : (⟨s1.toArray⟩ : ByteArray).size = s1.length := by simp [ByteArray.size]
      have e2 : (⟨s2.toArray⟩ : ByteArray).size = s2.length := by simp [ByteArray.size]
      rw [e1, e2]
      omega
    have h3 : (⟨s1.toArray⟩ : ByteArray) ++ ⟨s2.toArray⟩ = ⟨(s1 ++ s2).toArray⟩ := by
      apply ByteArray.ext
      simp
    simp only [eqGuard, binOp, Op.stringOp, Sem.run_bind]
    rw [if_neg h2, h3]
    rfl

/-! ### Bytes and strings appended -/
/-- append, elements of one cell and of at most 16 bytes. -/
theorem run_appG {α : Type} (f : α → Value) (z : α) (big : Nat) {m ys : List α} {A2 : Option Addr} {m2 c2 : Nat} (hS : Sep w0 B w (l ++ own e (.slice A n c) (m.map f) :: r)) (hr : Rd w w.heap.size A2 (ys.map f)) (hm : m2 = ys.length) (ty : TypeId)
    (ht : P.underlying t = some (.slice e)) (hi : P.info? e = some inf) (hz : inf.zero = some (f z)) (hs : inf.size = 1) (hby : big * inf.bytes ≤ 140737488355328) (hbig : big ≤ 140737488355328) (hc : (f z).cells = #[f z]) (h1 : ∀ a, (f a).oneCell' = true) (hl : (n : Int) + m2 ≤ (big : Int)) :
    ∃ A' c' w', (vS (Builtin.append_ #[t, t] ty #[.slice A n c, .slice A2 m2 c2])).run P w = .ok (.value (.slice A' (m ++ ys).length c')) w' ∧ Sep w0 B w' (l ++ own e (.slice A' (m ++ ys).length c') ((m ++ ys).map f) :: r) := by
  have hn := hS.len1
  subst hn
  subst hm
  obtain ⟨fp, ⟨hf, hf2⟩, hfb⟩ := hS.get
  cases A2 with
  | none =>
    have hy : ys = [] := hr.none1
    subst hy
    refine ⟨A, c, w, ?_, ?_⟩
    · have := append_nilsrc ht hi hf ty c2
      simpa using vS_run this
    · simpa using hS
  | some a =>
    have hcells : ∀ j u, (ys.map f)[j]? = some u → w.cell? (a.add j) = some u := fun j u hu => by
      obtain ⟨ad, h, _, hc⟩ := hr j u hu
      injection h with h
      subst h
      exact hc
    have hb : (m.length + ys.length) * inf.bytes ≤ 140737488355328 := by
      have h2 : m.length + ys.length ≤ big := by omega
      exact Nat.le_trans (Nat.mul_le_mul_right _ h2) hby
    rw [List.length_map] at hf
    obtain ⟨v', w', hrun, hown, hg, _, hbl⟩ := run_append_own_at (P := P) w 0 t ty e inf (f z) 1 inf.bytes ht hi hz hs rfl (by rw [hc]; rfl) (by omega) _ m.length _ hf a ys.length c2 (ys.map f) (by simp) hcells (by
      intro u hu
      obtain ⟨a, _, rfl⟩ := List.mem_map.1 hu
      exact h1 a) (by unfold maxLen; omega) hb (Nat.zero_le _)
    have hown' : w'.ownsRow 0 e 1 v' ((m ++ ys).map f).length ((m ++ ys).map f) := by rw [List.length_map, List.length_append, List.map_append]; exact hown
    obtain ⟨A', c', rfl, _⟩ := own_form hown'
    rw [List.length_map] at hrun hown'
    refine ⟨A', c', w', vS_run hrun, hS.upd fun f' hf' hb' => ⟨_, ⟨by rw [List.length_map]; exact hown', rfl⟩, ?_, ?_, own_block (by rw [List.length_map]; exact hown')⟩⟩
    · rw [hf'.2]; exact Ex.of_grown hg
    · intro k hk
      rw [hf'.2]
      rw [List.length_map] at hbl
      rcases hbl with h | h
      · rw [h] at hk; exact .inl hk
      · rw [h] at hk
        simp at hk
        exact .inr (by omega)

/-! ### A literal's row that a conversion has marked -/

end
end Go.GL

namespace Go.GL
open Go Go.RowKit Go.ChangeShapes Go.WideShapes Go.ChangeAt
section
variable {H : Type} {enc : TypeId × Value → H} {P : Program}

end
end Go.GL
namespace Go.GL
open Go Go.RowKit
section
variable {P : Program} {w0 w : World} {B : Nat} {A : Option Addr} {n c : Nat} {m : List Int}
/-- A string made of bytes that can be read. -/
theorem run_strE {src dst e : TypeId} {B' : Nat} (hs : P.underlying src = some (.slice e)) (he : P.underlying e = some (.int .u8)) (hd : P.underlying dst = some .string) (hr : Rd w B' A (m.map (Value.int .u8))) (hl : n = m.length) :
    (vS (convert src dst (.slice A n c))).run P w = .ok (.value (strV (b8 m))) w := by
  have := run_str (P := P) (c := c) hr hl
  exact vS_run (by simp [convert, run_underlying hs, run_underlying he, run_underlying hd, this, Result.andThen])
end
end Go.GL
