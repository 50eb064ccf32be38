/-
  A small library of our own: strings that are made of bytes of the call's own; maps keyed by strings.
-/
import Derived.Test.YtdjjomghggplpaaLibAM
namespace Go.GL
open Go Go.RowKit
variable {Ds : List Nat} {ro : Option Nat}

section
variable {P : Program} {C : World → Prop} {hyps : List (Bool × Bool)} {w0 w : World} {B : Nat} {A : Option Addr} {n c : Nat} {m : List Int}

end
end Go.GL
