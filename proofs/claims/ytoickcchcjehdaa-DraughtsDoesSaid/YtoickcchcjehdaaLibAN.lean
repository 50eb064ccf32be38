/-
  A small library of our own: a literal of one row becomes rows of the call's own; loops over known functions, round by round.
-/
import Derived.Test.YtoickcchcjehdaaLibW
import Derived.LoopN
namespace Go.GL
open Go Go.RowKit
variable {Ds : List Nat} {ro : Option Nat}

theorem Sep.litRow1 {w0 w : World} {B : Nat} {r : List HP} {e ei : TypeId} {A A1 : Option Addr} {c c1 : Nat} {row : List Int}
    (h : Sep w0 B w (own e (.slice A 1 c) [.slice A1 row.length c1] :: own ei (.slice A1 row.length c1) (vI row) :: r)) :
    Sep w0 B w (rows e ei (.slice A ([row] : List (List Int)).length c) [(A1, c1)] [row] :: r) := by
  refine Sep.join (l := []) (p1 := own e (.slice A 1 c) [.slice A1 row.length c1]) (p2 := own ei (.slice A1 row.length c1) (vI row)) (r := r) h ?_
  intro f1 f2 h1 h2 h3
  refine ⟨f1 ++ (f2 ++ []), ⟨rfl, .cons h1 (.cons h2 .nil (by simp)) (fun k hk hk' => h3 k hk (by simpa using hk'))⟩, fun k hk => ?_⟩
  simpa using hk

end Go.GL
