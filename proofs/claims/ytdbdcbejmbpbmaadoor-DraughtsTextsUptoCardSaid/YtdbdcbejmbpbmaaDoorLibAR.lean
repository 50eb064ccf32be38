/-
  A small library of our own: a map of which one entry is about to be written, and what it holds; looked up meanwhile.
-/
import Derived.Test.YtdbdcbejmbpbmaaDoorLibAM
namespace Go.GL
open Go Go.RowKit
variable {Ds : List Nat} {ro : Option Nat}

section
variable {K V : Type} [DecidableEq K] {P : Program} {kt : TypeId} {kf : K → Value} {vf : V → Value}

variable {w0 w : World} {B : Nat} {l r : List HP} {t et : TypeId} {b : Nat} {m : List (K × V)} {C : World → Prop}

end
end Go.GL
