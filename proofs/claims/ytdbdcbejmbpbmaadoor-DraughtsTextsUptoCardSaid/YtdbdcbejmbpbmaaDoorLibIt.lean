/-
  A small library of our own: the shelf's functions on strings, as contracts over a frame.
-/
import Derived.Test.YtdbdcbejmbpbmaaDoorLibSt
import Derived.Test.YtdbdcbejmbpbmaaDoorLibUv
import Derived.Test.YtdbdcbejmbpbmaaDoorLibSu
import Derived.Shelf.Strconv.Itoa3
import Derived.Shelf.Strconv.AtoiAll
import Derived.Shelf.Strings.Split
import Derived.Shelf.Strings.Search3
namespace Go.GL
open Go Go.RowKit Go.Shelf
variable {P : Program} {ρ : Ren} {w0 w : World} {B : Nat} {fs : List HP}

/-- A package-level int that is read and never written: whatever it holds. -/
class IntG (g : Nat) (w0 : World) (B : Nat) : Prop where
  cell : ∀ (w : World), Below B w0 w → ∃ m : Int, w.cell? ⟨g, 0, none⟩ = some (.int .i64 m)
/-- A package-level error. -/
class ErrG (g : Nat) (w0 : World) (B : Nat) : Prop where
  cell : ∀ (w : World), Below B w0 w → ∃ ev, w.cell? ⟨g, 0, none⟩ = some ev ∧ (ev = .nilIface ∨ ∃ te pe, ev = .iface te pe)
theorem IntG.of {g : Nat} {W : World} {m : Int} (h : W.cell? ⟨g, 0, none⟩ = some (.int .i64 m)) : IntG g W W.heap.size :=
  ⟨fun w hw => ⟨m, (hw.cell (show (⟨g, 0, none⟩ : Addr).block < W.heap.size from Lib.lt_of_cell h)).trans h⟩⟩
theorem ErrG.of {g : Nat} {W : World} {ev : Value} (h : W.cell? ⟨g, 0, none⟩ = some ev) (he : ev = .nilIface ∨ ∃ te pe, ev = .iface te pe) : ErrG g W W.heap.size :=
  ⟨fun w hw => ⟨ev, (hw.cell (show (⟨g, 0, none⟩ : Addr).block < W.heap.size from Lib.lt_of_cell h)).trans h, he⟩⟩

theorem below_grew (w : World) (k : Nat) (os : Array Obj) : Below w.heap.size w (Sort.grow (w.drewN k) os) :=
  ⟨rfl, rfl, rfl, by simp [Sort.grow, World.drewN], fun j hj => by simp only [Sort.grow, World.drewN]; rw [Array.getElem?_append_left hj]⟩
/-- The table of powers that strconv reads. -/
class PowG (P : Program) (w0 : World) (B : Nat) : Prop where
  tab : ∀ (w : World), Below B w0 w → Lib.TabIs P w "internal/strconv.uint64pow10" .u64 Lib.pow10Tab
def itoaL (i : Int) : List UInt8 := Lib.itoa i
theorem itoa_own {i : Int} [G : PowG P w0 B] (L : Go.Proofs.LaysM.n171 P ρ) (hS : Sep w0 B w fs) (hb : inI i) :
    Calls P (ρ.f 171) #[.int .i64 i] w fun e w' => e = .returned (strV (itoaL i)) ∧ Sep w0 B w' fs := by
  unfold inI at hb
  refine (Go.Proofs.Any.strconv_Itoa L i (by omega) (by omega) w (G.tab w hS.below)).mono ?_
  rintro e w' ⟨rfl, k, os, rfl⟩
  exact ⟨rfl, hS.ofBelow (below_grew w k os)⟩

/-- An error that may be nil. -/
def errV (b : Bool) (T : TypeId) (N : Nat) : Value := if b then .iface T (.pointer (some ⟨N, 0, none⟩)) else .nilIface
section
variable {C : World → Prop} {hyps : List (Bool × Bool)} {t : TypeId}
theorem run_equal_errV (b : Bool) (T : TypeId) (N : Nat) {ms : Array (String × TypeId)} (w : World) (h : P.underlying t = some (.interface ms)) : (Op.equal t (errV b T N) .nilIface).run P w = .ok (!b) w := by
  have e : ∀ d, (Op.equalIn (d + 1) t (errV b T N) .nilIface).run P w = .ok (!b) w := fun d => by
    cases b <;> simp [Op.equalIn, errV, run_underlying h]
  exact e 9999
theorem ob_errne {x : Bool} {ms : Array (String × TypeId)} (h : P.underlying t = some (.interface ms)) (o1 : Operand) (b : Bool) (T : TypeId) (N : Nat) : Ob.holds P C x ⟨true, hyps, vS (do eqGuard .neq t o1 (.const .nilIface) (errV b T N) .nilIface; binOp .neq t (errV b T N) .nilIface), .bool b⟩ :=
  Ob.any fun _ w => by
    have hq := run_equal_errV b T N w h
    have e : (binOp .neq t (errV b T N) .nilIface).run P w = .ok (.bool b) w := by
      cases b
      · rw [show errV false T N = .nilIface from rfl] at hq ⊢
        simp only [binOp]
        simp [hq]
      · rw [show errV true T N = .iface T (.pointer (some ⟨N, 0, none⟩)) from rfl] at hq ⊢
        simp only [binOp]
        simp [hq]
    have g : (eqGuard .neq t o1 (.const .nilIface) (errV b T N) .nilIface).run P w = .ok () w := by
      cases b <;> simp [errV, go_sem]
    simp only [Sem.run_bind, g]
    exact e
end
def atoiN (s : List UInt8) : Int := match Lib.atoiAll s with | .ok n => n | .syntax => 0 | .range => Lib.atoiSat s
def atoiE (s : List UInt8) : Bool := match Lib.atoiAll s with | .ok _ => false | _ => true
theorem atoi_own {s : List UInt8} {T : TypeId} {g15 g16 : Nat} [G : ErrG g15 w0 B] [G2 : ErrG g16 w0 B] (L : Go.Proofs.LaysC.n172 P ρ) (hT : ρ.t 168 = T) (h15 : ρ.g 15 = g15) (h16 : ρ.g 16 = g16)
    (hS : Sep w0 B w fs) (hb : (s.length : Int) ≤ 4194304) :
    Calls P (ρ.f 172) #[strV s] w fun e w' => ∃ v, e = .returned v ∧ ∃ N, v = .tuple #[.int .i64 (atoiN s), errV (atoiE s) T N] ∧ Sep w0 B w' fs := by
  have hsz : (⟨s.toArray⟩ : ByteArray).size = s.length := by show s.toArray.size = _; simp
  have hl : (⟨s.toArray⟩ : ByteArray).data.toList = s := by simp
  cases h : Lib.atoiAll s with
  | ok v =>
    refine (Go.Proofs.Any.strconv_Atoi_ok L ⟨s.toArray⟩ (by omega) v (by rw [hl]; exact h) w).mono ?_
    rintro e w' ⟨rfl, hw⟩
    refine ⟨_, rfl, 0, by simp [atoiN, atoiE, errV, h], ?_⟩
    rcases hw with rfl | ⟨t, rfl⟩
    · exact hS
    · exact hS.ofBelow (Lib.bytesWorld_below _ _ _)
  | «syntax» =>
    obtain ⟨ev, hv, hev⟩ := G.cell w hS.below
    refine (Go.Proofs.Any.strconv_Atoi_syntax L ⟨s.toArray⟩ (by omega) (by rw [hl]; exact h) ev w (by rw [h15]; exact hv) hev).mono ?_
    rintro e w' ⟨N, rfl, _, _, hw⟩
    exact ⟨_, rfl, N, by simp [atoiN, atoiE, errV, h, hT], hS.ofBelow hw⟩
  | range =>
    obtain ⟨ev, hv, hev⟩ := G2.cell w hS.below
    refine (Go.Proofs.Any.strconv_Atoi_range L ⟨s.toArray⟩ (by omega) (by rw [hl]; exact h) ev w (by rw [h16]; exact hv) hev).mono ?_
    rintro e w' ⟨N, rfl, _, _, hw⟩
    exact ⟨_, rfl, N, by simp [atoiN, atoiE, errV, h, hT], hS.ofBelow hw⟩
end Go.GL
