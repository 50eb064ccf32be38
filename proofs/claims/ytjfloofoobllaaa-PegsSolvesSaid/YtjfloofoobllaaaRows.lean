/-
  No cell of these rows narrows 'for every input' (looked for: loops, veiled, ifaces, maps, wideKeys, modest, calm, conditions, laid).
  DERIVED. THE GIVEN ROWS OF THIS SEAT. 5 by the template 'for every input the law returns true; each argument reads behind the call as it read before'; 0 by the template 'total and deterministic' (their statements: YtjfloofoobllaaaTotals.lean).
  GIVEN WITH THE SEED: the statements are not yours to turn. If you find one false, say at which input.
  Laid BY PROGRAM, IN A SANDBOX (cutbox-rows.mjs): the forced cells as the released guide's own fill.sh prints them over the translation fc7fd9412a917d87… (all of the seat's roots in one cut). By AI agents, Wed Nov 11 2026. No macro, syntax, notation, axiom, sorry.
-/
import Derived.Test.YtjfloofoobllaaaChecked
import GoSem.Claim
import GoSem.ClaimJoined
import GoSem.ClaimMapViews
import Derived.JoinedTies
import Derived.KernelRfl
namespace Go.Proofs.Ytjfloofoobllaaa
/- THE CELL 'sum', in the pinned program and in every row, IS THE sha256 OF THE DUMP (.gsa) THAT YtjfloofoobllaaaProg.lean LOADS. Nothing in Lean hashes anything: it is a label: what it is worth is what the hold of that sum in a sandbox is worth. -/
noncomputable def Try.pinned : Pinned := { name := "ytjfloofoobllaaa", sum := "fc7fd9412a917d8759d65a23ca7c934b4551d6c29115960da67b4f8a10c309ed", checked := Try.checked }
namespace Rows
def none {H : Type} : Left H := { results := [], args := [] }

/-- 'gameroomlaw.StonesPlays': WHATEVER THE INPUT: true; the input reads as it did. -/
def stonesPlaysSpec : ChangeSpec := { name := "stonesPlays", fn := fun _ => fun
  | [d1, d2] => { results := [.lit (.bool true)], args := [d1, d2] }
  | _ => none }
def stonesPlaysRow : OpenClaim := { program := "ytjfloofoobllaaa", sum := "fc7fd9412a917d8759d65a23ca7c934b4551d6c29115960da67b4f8a10c309ed", func := "gameroom/gameroomlaw.StonesPlays", spec := "stonesPlays", unfollowed := true, recurses := true, plainKeys := false, apart := false }
def StonesPlaysSaid : Prop := stonesPlaysRow.holds Try.pinned (OpenSpec.ofChange stonesPlaysSpec)

/-- ITS FALSE NEIGHBOUR: 'it returns false'. Refute it at one input. -/
def stonesPlaysWrong : ChangeSpec := { name := "stonesPlays", fn := fun _ => fun
  | [d1, d2] => { results := [.lit (.bool false)], args := [d1, d2] }
  | _ => none }
def StonesPlaysWrongFalsely : Prop := stonesPlaysRow.holds Try.pinned (OpenSpec.ofChange stonesPlaysWrong)

/-- 'gameroomlaw.StonesAreas': WHATEVER THE INPUT: true; the input reads as it did. -/
def stonesAreasSpec : ChangeSpec := { name := "stonesAreas", fn := fun _ => fun
  | [d1, d2] => { results := [.lit (.bool true)], args := [d1, d2] }
  | _ => none }
def stonesAreasRow : OpenClaim := { program := "ytjfloofoobllaaa", sum := "fc7fd9412a917d8759d65a23ca7c934b4551d6c29115960da67b4f8a10c309ed", func := "gameroom/gameroomlaw.StonesAreas", spec := "stonesAreas", unfollowed := true, recurses := true, plainKeys := false, apart := false }
def StonesAreasSaid : Prop := stonesAreasRow.holds Try.pinned (OpenSpec.ofChange stonesAreasSpec)

/-- ITS FALSE NEIGHBOUR: 'it returns false'. Refute it at one input. -/
def stonesAreasWrong : ChangeSpec := { name := "stonesAreas", fn := fun _ => fun
  | [d1, d2] => { results := [.lit (.bool false)], args := [d1, d2] }
  | _ => none }
def StonesAreasWrongFalsely : Prop := stonesAreasRow.holds Try.pinned (OpenSpec.ofChange stonesAreasWrong)

/-- 'gameroomlaw.NonoPictures': WHATEVER THE INPUT: true; the input reads as it did. -/
def nonoPicturesSpec : ChangeSpec := { name := "nonoPictures", fn := fun _ => fun
  | [d1, d2, d3] => { results := [.lit (.bool true)], args := [d1, d2, d3] }
  | _ => none }
def nonoPicturesRow : OpenClaim := { program := "ytjfloofoobllaaa", sum := "fc7fd9412a917d8759d65a23ca7c934b4551d6c29115960da67b4f8a10c309ed", func := "gameroom/gameroomlaw.NonoPictures", spec := "nonoPictures", unfollowed := true, recurses := true, plainKeys := false, apart := false }
def NonoPicturesSaid : Prop := nonoPicturesRow.holds Try.pinned (OpenSpec.ofChange nonoPicturesSpec)

/-- ITS FALSE NEIGHBOUR: 'it returns false'. Refute it at one input. -/
def nonoPicturesWrong : ChangeSpec := { name := "nonoPictures", fn := fun _ => fun
  | [d1, d2, d3] => { results := [.lit (.bool false)], args := [d1, d2, d3] }
  | _ => none }
def NonoPicturesWrongFalsely : Prop := nonoPicturesRow.holds Try.pinned (OpenSpec.ofChange nonoPicturesWrong)

/-- 'gameroomlaw.PegsSolves': WHATEVER THE INPUT: true; the input reads as it did. -/
def pegsSolvesSpec : ChangeSpec := { name := "pegsSolves", fn := fun _ => fun
  | [d1, d2] => { results := [.lit (.bool true)], args := [d1, d2] }
  | _ => none }
def pegsSolvesRow : OpenClaim := { program := "ytjfloofoobllaaa", sum := "fc7fd9412a917d8759d65a23ca7c934b4551d6c29115960da67b4f8a10c309ed", func := "gameroom/gameroomlaw.PegsSolves", spec := "pegsSolves", unfollowed := true, recurses := true, plainKeys := false, apart := false }
def PegsSolvesSaid : Prop := pegsSolvesRow.holds Try.pinned (OpenSpec.ofChange pegsSolvesSpec)

/-- ITS FALSE NEIGHBOUR: 'it returns false'. Refute it at one input. -/
def pegsSolvesWrong : ChangeSpec := { name := "pegsSolves", fn := fun _ => fun
  | [d1, d2] => { results := [.lit (.bool false)], args := [d1, d2] }
  | _ => none }
def PegsSolvesWrongFalsely : Prop := pegsSolvesRow.holds Try.pinned (OpenSpec.ofChange pegsSolvesWrong)

/-- 'gameroomlaw.GammonMoves': WHATEVER THE INPUT: true; the input reads as it did. -/
def gammonMovesSpec : ChangeSpec := { name := "gammonMoves", fn := fun _ => fun
  | [d1, d2, d3] => { results := [.lit (.bool true)], args := [d1, d2, d3] }
  | _ => none }
def gammonMovesRow : OpenClaim := { program := "ytjfloofoobllaaa", sum := "fc7fd9412a917d8759d65a23ca7c934b4551d6c29115960da67b4f8a10c309ed", func := "gameroom/gameroomlaw.GammonMoves", spec := "gammonMoves", unfollowed := true, recurses := true, plainKeys := false, apart := false }
def GammonMovesSaid : Prop := gammonMovesRow.holds Try.pinned (OpenSpec.ofChange gammonMovesSpec)

/-- ITS FALSE NEIGHBOUR: 'it returns false'. Refute it at one input. -/
def gammonMovesWrong : ChangeSpec := { name := "gammonMoves", fn := fun _ => fun
  | [d1, d2, d3] => { results := [.lit (.bool false)], args := [d1, d2, d3] }
  | _ => none }
def GammonMovesWrongFalsely : Prop := gammonMovesRow.holds Try.pinned (OpenSpec.ofChange gammonMovesWrong)

/- THE SECOND FORM. 'bulk': how many values and letters a reading holds, each counted each time it is reached (what is shared counts as often as it is met; a slice's spare places count too). A statement '..UptoSaid' is the law's where the arguments, and the package variables that the reading takes, are together of bulk at most 1048576: NARROWER than '..Said'. Prove '..Said' where nothing that the law and all that it calls make is longer than what came in: it says more and counts as full. Else prove '..UptoSaid'. A law counts once. -/
mutual
def uptoBulk {H : Type} : DataW H → Nat
  | .lit (.string bytes) => bytes.length + 1
  | .lit _ => 1
  | .nil => 1
  | .ptr d => uptoBulk d + 1
  | .slice elems spare => uptoBulkAll elems + uptoBulkAll spare + 1
  | .agg parts => uptoBulkAll parts + 1
  | .iface _ d => uptoBulk d + 1
  | .map entries => uptoBulkEntries entries + 1
  | .held _ => 1
def uptoBulkAll {H : Type} : List (DataW H) → Nat
  | [] => 0
  | d :: r => uptoBulk d + uptoBulkAll r
def uptoBulkEntries {H : Type} : List (Lit × DataW H) → Nat
  | [] => 0
  | x :: r => uptoBulkEntry x + uptoBulkEntries r
def uptoBulkEntry {H : Type} : Lit × DataW H → Nat
  | (.string bytes, d) => bytes.length + uptoBulk d + 1
  | (_, d) => uptoBulk d + 1
 end
def uptoSmall : (H : Type) → List (DataW H) → Bool := fun _ ds => decide (uptoBulkAll ds ≤ 1048576)
def OpenSpec.upto (s : _root_.Go.ChangeSpec) : _root_.Go.OpenSpec := { _root_.Go.OpenSpec.ofChange s with cond := some uptoSmall }

/-- 'gameroomlaw.StonesPlays', WHERE WHAT IT READS IS OF BULK AT MOST 1048576: true; the input reads as it did. -/
def stonesPlaysUptoRow : OpenClaim := { program := "ytjfloofoobllaaa", sum := "fc7fd9412a917d8759d65a23ca7c934b4551d6c29115960da67b4f8a10c309ed", func := "gameroom/gameroomlaw.StonesPlays", spec := "stonesPlays", unfollowed := true, recurses := true, plainKeys := false, apart := false, narrowed := true }
def StonesPlaysUptoSaid : Prop := stonesPlaysUptoRow.holds Try.pinned (OpenSpec.upto stonesPlaysSpec)

/-- 'gameroomlaw.StonesAreas', WHERE WHAT IT READS IS OF BULK AT MOST 1048576: true; the input reads as it did. -/
def stonesAreasUptoRow : OpenClaim := { program := "ytjfloofoobllaaa", sum := "fc7fd9412a917d8759d65a23ca7c934b4551d6c29115960da67b4f8a10c309ed", func := "gameroom/gameroomlaw.StonesAreas", spec := "stonesAreas", unfollowed := true, recurses := true, plainKeys := false, apart := false, narrowed := true }
def StonesAreasUptoSaid : Prop := stonesAreasUptoRow.holds Try.pinned (OpenSpec.upto stonesAreasSpec)

/-- 'gameroomlaw.NonoPictures', WHERE WHAT IT READS IS OF BULK AT MOST 1048576: true; the input reads as it did. -/
def nonoPicturesUptoRow : OpenClaim := { program := "ytjfloofoobllaaa", sum := "fc7fd9412a917d8759d65a23ca7c934b4551d6c29115960da67b4f8a10c309ed", func := "gameroom/gameroomlaw.NonoPictures", spec := "nonoPictures", unfollowed := true, recurses := true, plainKeys := false, apart := false, narrowed := true }
def NonoPicturesUptoSaid : Prop := nonoPicturesUptoRow.holds Try.pinned (OpenSpec.upto nonoPicturesSpec)

/-- 'gameroomlaw.PegsSolves', WHERE WHAT IT READS IS OF BULK AT MOST 1048576: true; the input reads as it did. -/
def pegsSolvesUptoRow : OpenClaim := { program := "ytjfloofoobllaaa", sum := "fc7fd9412a917d8759d65a23ca7c934b4551d6c29115960da67b4f8a10c309ed", func := "gameroom/gameroomlaw.PegsSolves", spec := "pegsSolves", unfollowed := true, recurses := true, plainKeys := false, apart := false, narrowed := true }
def PegsSolvesUptoSaid : Prop := pegsSolvesUptoRow.holds Try.pinned (OpenSpec.upto pegsSolvesSpec)

/-- 'gameroomlaw.GammonMoves', WHERE WHAT IT READS IS OF BULK AT MOST 1048576: true; the input reads as it did. -/
def gammonMovesUptoRow : OpenClaim := { program := "ytjfloofoobllaaa", sum := "fc7fd9412a917d8759d65a23ca7c934b4551d6c29115960da67b4f8a10c309ed", func := "gameroom/gameroomlaw.GammonMoves", spec := "gammonMoves", unfollowed := true, recurses := true, plainKeys := false, apart := false, narrowed := true }
def GammonMovesUptoSaid : Prop := gammonMovesUptoRow.holds Try.pinned (OpenSpec.upto gammonMovesSpec)

end Rows
end Go.Proofs.Ytjfloofoobllaaa
