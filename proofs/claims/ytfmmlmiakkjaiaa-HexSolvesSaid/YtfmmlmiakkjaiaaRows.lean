/-
  No cell of these rows narrows 'for every input' (looked for: loops, veiled, ifaces, maps, wideKeys, modest, calm, conditions, laid).
  DERIVED. THE GIVEN ROWS OF THIS SEAT. 10 by the template 'for every input the law returns true; each argument reads behind the call as it read before'; 0 by the template 'total and deterministic' (their statements: YtfmmlmiakkjaiaaTotals.lean).
  GIVEN WITH THE SEED: the statements are not yours to turn. If you find one false, say at which input.
  Laid BY PROGRAM, IN A SANDBOX (cutbox-rows.mjs): the forced cells as the released guide's own fill.sh prints them over the translation 99abea99faa6493c… (all of the seat's roots in one cut). By AI agents, Wed Nov 11 2026. No macro, syntax, notation, axiom, sorry.
-/
import Derived.Test.YtfmmlmiakkjaiaaChecked
import GoSem.Claim
import GoSem.ClaimJoined
import GoSem.ClaimMapViews
import Derived.JoinedTies
import Derived.KernelRfl
namespace Go.Proofs.Ytfmmlmiakkjaiaa
/- THE CELL 'sum', in the pinned program and in every row, IS THE sha256 OF THE DUMP (.gsa) THAT YtfmmlmiakkjaiaaProg.lean LOADS. Nothing in Lean hashes anything: it is a label: what it is worth is what the hold of that sum in a sandbox is worth. -/
noncomputable def Try.pinned : Pinned := { name := "ytfmmlmiakkjaiaa", sum := "99abea99faa6493c536856103f9b3baf4b1ec15d04bd6479c693e1b94113110b", checked := Try.checked }
namespace Rows
def none {H : Type} : Left H := { results := [], args := [] }

/-- 'gameroomlaw.BridgeBests': WHATEVER THE INPUT: true; the input reads as it did. -/
def bridgeBestsSpec : ChangeSpec := { name := "bridgeBests", fn := fun _ => fun
  | [d1, d2, d3] => { results := [.lit (.bool true)], args := [d1, d2, d3] }
  | _ => none }
def bridgeBestsRow : OpenClaim := { program := "ytfmmlmiakkjaiaa", sum := "99abea99faa6493c536856103f9b3baf4b1ec15d04bd6479c693e1b94113110b", func := "gameroom/gameroomlaw.BridgeBests", spec := "bridgeBests", unfollowed := true, recurses := true, plainKeys := false, apart := false }
def BridgeBestsSaid : Prop := bridgeBestsRow.holds Try.pinned (OpenSpec.ofChange bridgeBestsSpec)

/-- ITS FALSE NEIGHBOUR: 'it returns false'. Refute it at one input. -/
def bridgeBestsWrong : ChangeSpec := { name := "bridgeBests", fn := fun _ => fun
  | [d1, d2, d3] => { results := [.lit (.bool false)], args := [d1, d2, d3] }
  | _ => none }
def BridgeBestsWrongFalsely : Prop := bridgeBestsRow.holds Try.pinned (OpenSpec.ofChange bridgeBestsWrong)

/-- 'gameroomlaw.MagicTells': WHATEVER THE INPUT: true; the input reads as it did. -/
def magicTellsSpec : ChangeSpec := { name := "magicTells", fn := fun _ => fun
  | [d1, d2] => { results := [.lit (.bool true)], args := [d1, d2] }
  | _ => none }
def magicTellsRow : OpenClaim := { program := "ytfmmlmiakkjaiaa", sum := "99abea99faa6493c536856103f9b3baf4b1ec15d04bd6479c693e1b94113110b", func := "gameroom/gameroomlaw.MagicTells", spec := "magicTells", unfollowed := true, recurses := true, plainKeys := false, apart := false }
def MagicTellsSaid : Prop := magicTellsRow.holds Try.pinned (OpenSpec.ofChange magicTellsSpec)

/-- ITS FALSE NEIGHBOUR: 'it returns false'. Refute it at one input. -/
def magicTellsWrong : ChangeSpec := { name := "magicTells", fn := fun _ => fun
  | [d1, d2] => { results := [.lit (.bool false)], args := [d1, d2] }
  | _ => none }
def MagicTellsWrongFalsely : Prop := magicTellsRow.holds Try.pinned (OpenSpec.ofChange magicTellsWrong)

/-- 'gameroomlaw.DraughtsDoes': WHATEVER THE INPUT: true; the input reads as it did. -/
def draughtsDoesSpec : ChangeSpec := { name := "draughtsDoes", fn := fun _ => fun
  | [d1, d2, d3] => { results := [.lit (.bool true)], args := [d1, d2, d3] }
  | _ => none }
def draughtsDoesRow : OpenClaim := { program := "ytfmmlmiakkjaiaa", sum := "99abea99faa6493c536856103f9b3baf4b1ec15d04bd6479c693e1b94113110b", func := "gameroom/gameroomlaw.DraughtsDoes", spec := "draughtsDoes", unfollowed := true, recurses := true, plainKeys := false, apart := false }
def DraughtsDoesSaid : Prop := draughtsDoesRow.holds Try.pinned (OpenSpec.ofChange draughtsDoesSpec)

/-- ITS FALSE NEIGHBOUR: 'it returns false'. Refute it at one input. -/
def draughtsDoesWrong : ChangeSpec := { name := "draughtsDoes", fn := fun _ => fun
  | [d1, d2, d3] => { results := [.lit (.bool false)], args := [d1, d2, d3] }
  | _ => none }
def DraughtsDoesWrongFalsely : Prop := draughtsDoesRow.holds Try.pinned (OpenSpec.ofChange draughtsDoesWrong)

/-- 'gameroomlaw.CoverCounts': WHATEVER THE INPUT: true; the input reads as it did. -/
def coverCountsSpec : ChangeSpec := { name := "coverCounts", fn := fun _ => fun
  | [d1, d2, d3] => { results := [.lit (.bool true)], args := [d1, d2, d3] }
  | _ => none }
def coverCountsRow : OpenClaim := { program := "ytfmmlmiakkjaiaa", sum := "99abea99faa6493c536856103f9b3baf4b1ec15d04bd6479c693e1b94113110b", func := "gameroom/gameroomlaw.CoverCounts", spec := "coverCounts", unfollowed := true, recurses := true, plainKeys := false, apart := false }
def CoverCountsSaid : Prop := coverCountsRow.holds Try.pinned (OpenSpec.ofChange coverCountsSpec)

/-- ITS FALSE NEIGHBOUR: 'it returns false'. Refute it at one input. -/
def coverCountsWrong : ChangeSpec := { name := "coverCounts", fn := fun _ => fun
  | [d1, d2, d3] => { results := [.lit (.bool false)], args := [d1, d2, d3] }
  | _ => none }
def CoverCountsWrongFalsely : Prop := coverCountsRow.holds Try.pinned (OpenSpec.ofChange coverCountsWrong)

/-- 'gameroomlaw.HexSolves': WHATEVER THE INPUT: true; the input reads as it did. -/
def hexSolvesSpec : ChangeSpec := { name := "hexSolves", fn := fun _ => fun
  | [d1, d2] => { results := [.lit (.bool true)], args := [d1, d2] }
  | _ => none }
def hexSolvesRow : OpenClaim := { program := "ytfmmlmiakkjaiaa", sum := "99abea99faa6493c536856103f9b3baf4b1ec15d04bd6479c693e1b94113110b", func := "gameroom/gameroomlaw.HexSolves", spec := "hexSolves", unfollowed := true, recurses := true, plainKeys := false, apart := false }
def HexSolvesSaid : Prop := hexSolvesRow.holds Try.pinned (OpenSpec.ofChange hexSolvesSpec)

/-- ITS FALSE NEIGHBOUR: 'it returns false'. Refute it at one input. -/
def hexSolvesWrong : ChangeSpec := { name := "hexSolves", fn := fun _ => fun
  | [d1, d2] => { results := [.lit (.bool false)], args := [d1, d2] }
  | _ => none }
def HexSolvesWrongFalsely : Prop := hexSolvesRow.holds Try.pinned (OpenSpec.ofChange hexSolvesWrong)

/-- 'gameroomlaw.MovesCounts': WHATEVER THE INPUT: true; the input reads as it did. -/
def movesCountsSpec : ChangeSpec := { name := "movesCounts", fn := fun _ => fun
  | [d1, d2] => { results := [.lit (.bool true)], args := [d1, d2] }
  | _ => none }
def movesCountsRow : OpenClaim := { program := "ytfmmlmiakkjaiaa", sum := "99abea99faa6493c536856103f9b3baf4b1ec15d04bd6479c693e1b94113110b", func := "gameroom/gameroomlaw.MovesCounts", spec := "movesCounts", unfollowed := true, recurses := true, plainKeys := false, apart := false }
def MovesCountsSaid : Prop := movesCountsRow.holds Try.pinned (OpenSpec.ofChange movesCountsSpec)

/-- ITS FALSE NEIGHBOUR: 'it returns false'. Refute it at one input. -/
def movesCountsWrong : ChangeSpec := { name := "movesCounts", fn := fun _ => fun
  | [d1, d2] => { results := [.lit (.bool false)], args := [d1, d2] }
  | _ => none }
def MovesCountsWrongFalsely : Prop := movesCountsRow.holds Try.pinned (OpenSpec.ofChange movesCountsWrong)

/-- 'gameroomlaw.MovesPlays': WHATEVER THE INPUT: true; the input reads as it did. -/
def movesPlaysSpec : ChangeSpec := { name := "movesPlays", fn := fun _ => fun
  | [d1, d2] => { results := [.lit (.bool true)], args := [d1, d2] }
  | _ => none }
def movesPlaysRow : OpenClaim := { program := "ytfmmlmiakkjaiaa", sum := "99abea99faa6493c536856103f9b3baf4b1ec15d04bd6479c693e1b94113110b", func := "gameroom/gameroomlaw.MovesPlays", spec := "movesPlays", unfollowed := true, recurses := true, plainKeys := false, apart := false }
def MovesPlaysSaid : Prop := movesPlaysRow.holds Try.pinned (OpenSpec.ofChange movesPlaysSpec)

/-- ITS FALSE NEIGHBOUR: 'it returns false'. Refute it at one input. -/
def movesPlaysWrong : ChangeSpec := { name := "movesPlays", fn := fun _ => fun
  | [d1, d2] => { results := [.lit (.bool false)], args := [d1, d2] }
  | _ => none }
def MovesPlaysWrongFalsely : Prop := movesPlaysRow.holds Try.pinned (OpenSpec.ofChange movesPlaysWrong)

/-- 'gameroomlaw.MovesDoes': WHATEVER THE INPUT: true; the input reads as it did. -/
def movesDoesSpec : ChangeSpec := { name := "movesDoes", fn := fun _ => fun
  | [d1, d2] => { results := [.lit (.bool true)], args := [d1, d2] }
  | _ => none }
def movesDoesRow : OpenClaim := { program := "ytfmmlmiakkjaiaa", sum := "99abea99faa6493c536856103f9b3baf4b1ec15d04bd6479c693e1b94113110b", func := "gameroom/gameroomlaw.MovesDoes", spec := "movesDoes", unfollowed := true, recurses := true, plainKeys := false, apart := false }
def MovesDoesSaid : Prop := movesDoesRow.holds Try.pinned (OpenSpec.ofChange movesDoesSpec)

/-- ITS FALSE NEIGHBOUR: 'it returns false'. Refute it at one input. -/
def movesDoesWrong : ChangeSpec := { name := "movesDoes", fn := fun _ => fun
  | [d1, d2] => { results := [.lit (.bool false)], args := [d1, d2] }
  | _ => none }
def MovesDoesWrongFalsely : Prop := movesDoesRow.holds Try.pinned (OpenSpec.ofChange movesDoesWrong)

/-- 'gameroomlaw.ProblemsMates': WHATEVER THE INPUT: true; the input reads as it did. -/
def problemsMatesSpec : ChangeSpec := { name := "problemsMates", fn := fun _ => fun
  | [d1, d2, d3] => { results := [.lit (.bool true)], args := [d1, d2, d3] }
  | _ => none }
def problemsMatesRow : OpenClaim := { program := "ytfmmlmiakkjaiaa", sum := "99abea99faa6493c536856103f9b3baf4b1ec15d04bd6479c693e1b94113110b", func := "gameroom/gameroomlaw.ProblemsMates", spec := "problemsMates", unfollowed := true, recurses := true, plainKeys := false, apart := false }
def ProblemsMatesSaid : Prop := problemsMatesRow.holds Try.pinned (OpenSpec.ofChange problemsMatesSpec)

/-- ITS FALSE NEIGHBOUR: 'it returns false'. Refute it at one input. -/
def problemsMatesWrong : ChangeSpec := { name := "problemsMates", fn := fun _ => fun
  | [d1, d2, d3] => { results := [.lit (.bool false)], args := [d1, d2, d3] }
  | _ => none }
def ProblemsMatesWrongFalsely : Prop := problemsMatesRow.holds Try.pinned (OpenSpec.ofChange problemsMatesWrong)

/-- 'gameroomlaw.ProblemsBests': WHATEVER THE INPUT: true; the input reads as it did. -/
def problemsBestsSpec : ChangeSpec := { name := "problemsBests", fn := fun _ => fun
  | [d1, d2, d3, d4] => { results := [.lit (.bool true)], args := [d1, d2, d3, d4] }
  | _ => none }
def problemsBestsRow : OpenClaim := { program := "ytfmmlmiakkjaiaa", sum := "99abea99faa6493c536856103f9b3baf4b1ec15d04bd6479c693e1b94113110b", func := "gameroom/gameroomlaw.ProblemsBests", spec := "problemsBests", unfollowed := true, recurses := true, plainKeys := false, apart := false }
def ProblemsBestsSaid : Prop := problemsBestsRow.holds Try.pinned (OpenSpec.ofChange problemsBestsSpec)

/-- ITS FALSE NEIGHBOUR: 'it returns false'. Refute it at one input. -/
def problemsBestsWrong : ChangeSpec := { name := "problemsBests", fn := fun _ => fun
  | [d1, d2, d3, d4] => { results := [.lit (.bool false)], args := [d1, d2, d3, d4] }
  | _ => none }
def ProblemsBestsWrongFalsely : Prop := problemsBestsRow.holds Try.pinned (OpenSpec.ofChange problemsBestsWrong)

/- THE SECOND FORM. 'bulk': how many values and letters a reading holds, each counted each time it is reached (what is shared counts as often as it is met; a slice's spare places count too). A statement '..UptoSaid' is the law's where the arguments, and the package variables that the reading takes, are together of bulk at most 1048576: NARROWER than '..Said'. Prove '..Said' where nothing that the law and all that it calls make is longer than what came in: it says more and counts as full. Else prove '..UptoSaid'. A law counts once. -/
mutual
def uptoBulk {H : Type} : DataW H → Nat
  | .lit (.string bytes) => bytes.length + 1
  | .lit _ => 1
  | .nil => 1
  | .ptr d => uptoBulk d + 1
  | .slice elems spare => uptoBulkAll elems + uptoBulkAll spare + 1
  | .agg parts => uptoBulkAll parts + 1
  | .iface _ d => uptoBulk d + 1
  | .map entries => uptoBulkEntries entries + 1
  | .held _ => 1
def uptoBulkAll {H : Type} : List (DataW H) → Nat
  | [] => 0
  | d :: r => uptoBulk d + uptoBulkAll r
def uptoBulkEntries {H : Type} : List (Lit × DataW H) → Nat
  | [] => 0
  | x :: r => uptoBulkEntry x + uptoBulkEntries r
def uptoBulkEntry {H : Type} : Lit × DataW H → Nat
  | (.string bytes, d) => bytes.length + uptoBulk d + 1
  | (_, d) => uptoBulk d + 1
 end
def uptoSmall : (H : Type) → List (DataW H) → Bool := fun _ ds => decide (uptoBulkAll ds ≤ 1048576)
def OpenSpec.upto (s : _root_.Go.ChangeSpec) : _root_.Go.OpenSpec := { _root_.Go.OpenSpec.ofChange s with cond := some uptoSmall }

/-- 'gameroomlaw.BridgeBests', WHERE WHAT IT READS IS OF BULK AT MOST 1048576: true; the input reads as it did. -/
def bridgeBestsUptoRow : OpenClaim := { program := "ytfmmlmiakkjaiaa", sum := "99abea99faa6493c536856103f9b3baf4b1ec15d04bd6479c693e1b94113110b", func := "gameroom/gameroomlaw.BridgeBests", spec := "bridgeBests", unfollowed := true, recurses := true, plainKeys := false, apart := false, narrowed := true }
def BridgeBestsUptoSaid : Prop := bridgeBestsUptoRow.holds Try.pinned (OpenSpec.upto bridgeBestsSpec)

/-- 'gameroomlaw.MagicTells', WHERE WHAT IT READS IS OF BULK AT MOST 1048576: true; the input reads as it did. -/
def magicTellsUptoRow : OpenClaim := { program := "ytfmmlmiakkjaiaa", sum := "99abea99faa6493c536856103f9b3baf4b1ec15d04bd6479c693e1b94113110b", func := "gameroom/gameroomlaw.MagicTells", spec := "magicTells", unfollowed := true, recurses := true, plainKeys := false, apart := false, narrowed := true }
def MagicTellsUptoSaid : Prop := magicTellsUptoRow.holds Try.pinned (OpenSpec.upto magicTellsSpec)

/-- 'gameroomlaw.DraughtsDoes', WHERE WHAT IT READS IS OF BULK AT MOST 1048576: true; the input reads as it did. -/
def draughtsDoesUptoRow : OpenClaim := { program := "ytfmmlmiakkjaiaa", sum := "99abea99faa6493c536856103f9b3baf4b1ec15d04bd6479c693e1b94113110b", func := "gameroom/gameroomlaw.DraughtsDoes", spec := "draughtsDoes", unfollowed := true, recurses := true, plainKeys := false, apart := false, narrowed := true }
def DraughtsDoesUptoSaid : Prop := draughtsDoesUptoRow.holds Try.pinned (OpenSpec.upto draughtsDoesSpec)

/-- 'gameroomlaw.CoverCounts', WHERE WHAT IT READS IS OF BULK AT MOST 1048576: true; the input reads as it did. -/
def coverCountsUptoRow : OpenClaim := { program := "ytfmmlmiakkjaiaa", sum := "99abea99faa6493c536856103f9b3baf4b1ec15d04bd6479c693e1b94113110b", func := "gameroom/gameroomlaw.CoverCounts", spec := "coverCounts", unfollowed := true, recurses := true, plainKeys := false, apart := false, narrowed := true }
def CoverCountsUptoSaid : Prop := coverCountsUptoRow.holds Try.pinned (OpenSpec.upto coverCountsSpec)

/-- 'gameroomlaw.HexSolves', WHERE WHAT IT READS IS OF BULK AT MOST 1048576: true; the input reads as it did. -/
def hexSolvesUptoRow : OpenClaim := { program := "ytfmmlmiakkjaiaa", sum := "99abea99faa6493c536856103f9b3baf4b1ec15d04bd6479c693e1b94113110b", func := "gameroom/gameroomlaw.HexSolves", spec := "hexSolves", unfollowed := true, recurses := true, plainKeys := false, apart := false, narrowed := true }
def HexSolvesUptoSaid : Prop := hexSolvesUptoRow.holds Try.pinned (OpenSpec.upto hexSolvesSpec)

/-- 'gameroomlaw.MovesCounts', WHERE WHAT IT READS IS OF BULK AT MOST 1048576: true; the input reads as it did. -/
def movesCountsUptoRow : OpenClaim := { program := "ytfmmlmiakkjaiaa", sum := "99abea99faa6493c536856103f9b3baf4b1ec15d04bd6479c693e1b94113110b", func := "gameroom/gameroomlaw.MovesCounts", spec := "movesCounts", unfollowed := true, recurses := true, plainKeys := false, apart := false, narrowed := true }
def MovesCountsUptoSaid : Prop := movesCountsUptoRow.holds Try.pinned (OpenSpec.upto movesCountsSpec)

/-- 'gameroomlaw.MovesPlays', WHERE WHAT IT READS IS OF BULK AT MOST 1048576: true; the input reads as it did. -/
def movesPlaysUptoRow : OpenClaim := { program := "ytfmmlmiakkjaiaa", sum := "99abea99faa6493c536856103f9b3baf4b1ec15d04bd6479c693e1b94113110b", func := "gameroom/gameroomlaw.MovesPlays", spec := "movesPlays", unfollowed := true, recurses := true, plainKeys := false, apart := false, narrowed := true }
def MovesPlaysUptoSaid : Prop := movesPlaysUptoRow.holds Try.pinned (OpenSpec.upto movesPlaysSpec)

/-- 'gameroomlaw.MovesDoes', WHERE WHAT IT READS IS OF BULK AT MOST 1048576: true; the input reads as it did. -/
def movesDoesUptoRow : OpenClaim := { program := "ytfmmlmiakkjaiaa", sum := "99abea99faa6493c536856103f9b3baf4b1ec15d04bd6479c693e1b94113110b", func := "gameroom/gameroomlaw.MovesDoes", spec := "movesDoes", unfollowed := true, recurses := true, plainKeys := false, apart := false, narrowed := true }
def MovesDoesUptoSaid : Prop := movesDoesUptoRow.holds Try.pinned (OpenSpec.upto movesDoesSpec)

/-- 'gameroomlaw.ProblemsMates', WHERE WHAT IT READS IS OF BULK AT MOST 1048576: true; the input reads as it did. -/
def problemsMatesUptoRow : OpenClaim := { program := "ytfmmlmiakkjaiaa", sum := "99abea99faa6493c536856103f9b3baf4b1ec15d04bd6479c693e1b94113110b", func := "gameroom/gameroomlaw.ProblemsMates", spec := "problemsMates", unfollowed := true, recurses := true, plainKeys := false, apart := false, narrowed := true }
def ProblemsMatesUptoSaid : Prop := problemsMatesUptoRow.holds Try.pinned (OpenSpec.upto problemsMatesSpec)

/-- 'gameroomlaw.ProblemsBests', WHERE WHAT IT READS IS OF BULK AT MOST 1048576: true; the input reads as it did. -/
def problemsBestsUptoRow : OpenClaim := { program := "ytfmmlmiakkjaiaa", sum := "99abea99faa6493c536856103f9b3baf4b1ec15d04bd6479c693e1b94113110b", func := "gameroom/gameroomlaw.ProblemsBests", spec := "problemsBests", unfollowed := true, recurses := true, plainKeys := false, apart := false, narrowed := true }
def ProblemsBestsUptoSaid : Prop := problemsBestsUptoRow.holds Try.pinned (OpenSpec.upto problemsBestsSpec)

end Rows
end Go.Proofs.Ytfmmlmiakkjaiaa
