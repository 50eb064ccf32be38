/-
  A small library of our own: utf8.ValidString by its contract; the tables that it reads.
-/
import Derived.Test.YtdbdcbejmbpbmaaDoorLibIr
import Derived.Shelf.Unicode.ValidAny
namespace Go.GL
open Go Go.RowKit Go.Shelf Go.Proofs

/-- The tables of package utf8, in every world that keeps what was there. -/
class UTab (g3 g4 : Nat) (w0 : World) (B : Nat) : Prop where
  tab : ∀ (w : World), Below B w0 w → Lib.Utf8Tabs g3 g4 w
theorem UTab.of {g3 g4 : Nat} {W : World} (h : Lib.Utf8Tabs g3 g4 W) : UTab g3 g4 W W.heap.size := ⟨fun _ hw => Utf8Tabs_below h hw⟩

section
variable {P : Program} {ρ : Ren} {w0 w : World} {B : Nat} {ps : List HP} {s : List UInt8}
theorem Sep.ofBelow {w' : World} (hS : Sep w0 B w ps) (hb : Below w.heap.size w w') : Sep w0 B w' ps :=
  hS.ex0 ⟨hb.os, hb.tape, hb.output, hb.size, fun k hk _ => hb.block k hk⟩
end
end Go.GL
