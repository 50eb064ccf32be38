/-
  A small library of our own: utf8.ValidString by its contract; the tables that it reads.
-/
import Derived.Test.YtdbdcbejmbpbmaaDoorLibIr
import Derived.Shelf.Unicode.ValidAny
namespace Go.GL
open Go Go.RowKit Go.Shelf Go.Proofs

/-- The tables of package utf8, in every world that keeps what was there. -/
class UTab (g3 g4 : Nat) (w0 : World) (B : Nat) : Prop where
  tab : ∀ (w : World), Below B w0 w → Lib.Utf8Tabs g3 g4 w
theorem UTab.of {g3 g4 : Nat} {W : World} (h : Lib.Utf8Tabs g3 g4 W) : UTab g3 g4 W W.heap.size := ⟨fun _ hw => Utf8Tabs_below h hw⟩

/-- Is it valid UTF-8? -/
def validS (s : List UInt8) : Bool := Lib.validD s

section
variable {P : Program} {ρ : Ren} {w0 w : World} {B : Nat} {ps : List HP} {s : List UInt8}
theorem Sep.ofBelow {w' : World} (hS : Sep w0 B w ps) (hb : Below w.heap.size w w') : Sep w0 B w' ps :=
  hS.ex0 ⟨hb.os, hb.tape, hb.output, hb.size, fun k hk _ => hb.block k hk⟩
theorem valid_own (L : Lays.n196 P ρ) {g3 g4 : Nat} [U : UTab g3 g4 w0 B] (h3 : ρ.g 3 = g3) (h4 : ρ.g 4 = g4) (hS : Sep w0 B w ps) (hb : (s.length : Int) ≤ bigN) :
    Calls P (ρ.f 196) #[strV s] w fun e w' => e = .returned (.bool (validS s)) ∧ Sep w0 B w' ps := by
  have hsz : (⟨s.toArray⟩ : ByteArray).size ≤ 9223372036854775807 := by
    show s.toArray.size ≤ _
    simp
    unfold bigN at hb
    omega
  refine (Any.utf8_ValidString L ⟨s.toArray⟩ w hsz (by rw [h3, h4]; exact U.tab w hS.below)).mono fun e w' ⟨h1, h2⟩ => ⟨?_, hS.ofBelow h2⟩
  rw [h1]
  simp [validS]
end
end Go.GL
