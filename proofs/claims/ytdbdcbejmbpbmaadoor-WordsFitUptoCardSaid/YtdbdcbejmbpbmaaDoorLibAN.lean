/-
  A small library of our own: a literal of one row becomes rows of the call's own; loops over known functions, round by round.
-/
import Derived.Test.YtdbdcbejmbpbmaaDoorLibW
import Derived.LoopNIn
namespace Go.GL
open Go Go.RowKit
variable {Ds : List Nat} {ro : Option Nat}

/-- A loop walked round by round. -/
def roundsR (ro : Option Nat) (P : Program) (c : Code) (Q : Exit → Act → World → Prop) (n : Nat) : Act → World → Prop := Code.roundsIn (RF ro) 9 P c Q n
theorem loop_rounds {P : Program} {Q : Exit → Act → World → Prop} {a : Act} {w : World} {c : Code} (m : Nat) (h : roundsR ro P c Q m a w) : (Code.loop c).wpIn (RF ro) 9 P Q a w := wpIn_loop_rounds m h
theorem rounds_s {P : Program} {c : Code} {Q : Exit → Act → World → Prop} {n : Nat} {a : Act} {w : World} (h : c.wpIn (RF ro) 9 P (Exit.then (roundsR ro P c Q n) Q) a w) : roundsR ro P c Q (n + 1) a w := h

end Go.GL
