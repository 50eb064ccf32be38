/-
  A small library of our own: the shelf's functions on strings, as contracts over a frame.
-/
import Derived.Test.YtdbdcbejmbpbmaaDoorLibSt
import Derived.Test.YtdbdcbejmbpbmaaDoorLibUv
import Derived.Test.YtdbdcbejmbpbmaaDoorLibSu
import Derived.Shelf.Strconv.Itoa3
import Derived.Shelf.Strconv.AtoiAll
import Derived.Shelf.Strings.Split
import Derived.Shelf.Strings.Search3
namespace Go.GL
open Go Go.RowKit Go.Shelf
variable {P : Program} {ρ : Ren} {w0 w : World} {B : Nat} {fs : List HP}

/-- A package-level int that is read and never written: whatever it holds. -/
class IntG (g : Nat) (w0 : World) (B : Nat) : Prop where
  cell : ∀ (w : World), Below B w0 w → ∃ m : Int, w.cell? ⟨g, 0, none⟩ = some (.int .i64 m)
/-- A package-level error. -/
class ErrG (g : Nat) (w0 : World) (B : Nat) : Prop where
  cell : ∀ (w : World), Below B w0 w → ∃ ev, w.cell? ⟨g, 0, none⟩ = some ev ∧ (ev = .nilIface ∨ ∃ te pe, ev = .iface te pe)
theorem IntG.of {g : Nat} {W : World} {m : Int} (h : W.cell? ⟨g, 0, none⟩ = some (.int .i64 m)) : IntG g W W.heap.size :=
  ⟨fun w hw => ⟨m, (hw.cell (show (⟨g, 0, none⟩ : Addr).block < W.heap.size from Lib.lt_of_cell h)).trans h⟩⟩
theorem ErrG.of {g : Nat} {W : World} {ev : Value} (h : W.cell? ⟨g, 0, none⟩ = some ev) (he : ev = .nilIface ∨ ∃ te pe, ev = .iface te pe) : ErrG g W W.heap.size :=
  ⟨fun w hw => ⟨ev, (hw.cell (show (⟨g, 0, none⟩ : Addr).block < W.heap.size from Lib.lt_of_cell h)).trans h, he⟩⟩

/-- The table of powers that strconv reads. -/
class PowG (P : Program) (w0 : World) (B : Nat) : Prop where
  tab : ∀ (w : World), Below B w0 w → Lib.TabIs P w "internal/strconv.uint64pow10" .u64 Lib.pow10Tab
section
variable {C : World → Prop} {hyps : List (Bool × Bool)} {t : TypeId}
end
end Go.GL
