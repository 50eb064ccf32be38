/-
  A small library of our own: a row of the call's own that begins behind its block's head (a queue's rest: q = q[1:]), read, cut and appended to.
-/
import Derived.Test.YtjfloofoobllaaaLibSu
namespace Go.GL
open Go Go.RowKit Go.ChangeShapes Go.WideShapes Go.ChangeAt
section
variable {P : Program} {w0 w : World} {B : Nat} {l r ps : List HP} {A : Option Addr} {n c : Nat} {t e : TypeId} {inf : TypeInfo}

end
end Go.GL
