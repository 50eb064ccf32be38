/-
  No cell of these rows narrows 'for every input' (looked for: loops, veiled, ifaces, maps, wideKeys, modest, calm, conditions, laid).
  DERIVED. THE GIVEN ROWS OF THIS SEAT. 12 by the template 'for every input the law returns true; each argument reads behind the call as it read before'; 0 by the template 'total and deterministic' (their statements: YtbmhcapeikebgaaTotals.lean).
  GIVEN WITH THE SEED: the statements are not yours to turn. If you find one false, say at which input.
  Laid BY PROGRAM, IN A SANDBOX (cutbox-rows.mjs): the forced cells as the released guide's own fill.sh prints them over the translation b6f4d970eb176e08… (all of the seat's roots in one cut). By AI agents, Wed Nov 11 2026. No macro, syntax, notation, axiom, sorry.
-/
import Derived.Test.YtbmhcapeikebgaaChecked
import GoSem.Claim
import GoSem.ClaimJoined
import GoSem.ClaimMapViews
import Derived.JoinedTies
import Derived.KernelRfl
namespace Go.Proofs.Ytbmhcapeikebgaa
/- THE CELL 'sum', in the pinned program and in every row, IS THE sha256 OF THE DUMP (.gsa) THAT YtbmhcapeikebgaaProg.lean LOADS. Nothing in Lean hashes anything: it is a label: what it is worth is what the hold of that sum in a sandbox is worth. -/
noncomputable def Try.pinned : Pinned := { name := "ytbmhcapeikebgaa", sum := "b6f4d970eb176e08b93885e577603ac0c29e069bcb34751adbcb998a85665b5c", checked := Try.checked }
namespace Rows
def none {H : Type} : Left H := { results := [], args := [] }

/-- 'gameroomlaw.DominoRows': WHATEVER THE INPUT: true; the input reads as it did. -/
def dominoRowsSpec : ChangeSpec := { name := "dominoRows", fn := fun _ => fun
  | [d] => { results := [.lit (.bool true)], args := [d] }
  | _ => none }
def dominoRowsRow : OpenClaim := { program := "ytbmhcapeikebgaa", sum := "b6f4d970eb176e08b93885e577603ac0c29e069bcb34751adbcb998a85665b5c", func := "gameroom/gameroomlaw.DominoRows", spec := "dominoRows", unfollowed := true, recurses := true, plainKeys := false, apart := false }
def DominoRowsSaid : Prop := dominoRowsRow.holds Try.pinned (OpenSpec.ofChange dominoRowsSpec)

/-- ITS FALSE NEIGHBOUR: 'it returns false'. Refute it at one input. -/
def dominoRowsWrong : ChangeSpec := { name := "dominoRows", fn := fun _ => fun
  | [d] => { results := [.lit (.bool false)], args := [d] }
  | _ => none }
def DominoRowsWrongFalsely : Prop := dominoRowsRow.holds Try.pinned (OpenSpec.ofChange dominoRowsWrong)

/-- 'gameroomlaw.HallBooks': WHATEVER THE INPUT: true; the input reads as it did. -/
def hallBooksSpec : ChangeSpec := { name := "hallBooks", fn := fun _ => fun
  | [d1, d2, d3] => { results := [.lit (.bool true)], args := [d1, d2, d3] }
  | _ => none }
def hallBooksRow : OpenClaim := { program := "ytbmhcapeikebgaa", sum := "b6f4d970eb176e08b93885e577603ac0c29e069bcb34751adbcb998a85665b5c", func := "gameroom/gameroomlaw.HallBooks", spec := "hallBooks", plainKeys := false, apart := false }
def HallBooksSaid : Prop := hallBooksRow.holds Try.pinned (OpenSpec.ofChange hallBooksSpec)

/-- ITS FALSE NEIGHBOUR: 'it returns false'. Refute it at one input. -/
def hallBooksWrong : ChangeSpec := { name := "hallBooks", fn := fun _ => fun
  | [d1, d2, d3] => { results := [.lit (.bool false)], args := [d1, d2, d3] }
  | _ => none }
def HallBooksWrongFalsely : Prop := hallBooksRow.holds Try.pinned (OpenSpec.ofChange hallBooksWrong)

/-- 'gameroomlaw.HanoiWays': WHATEVER THE INPUT: true; the input reads as it did. -/
def hanoiWaysSpec : ChangeSpec := { name := "hanoiWays", fn := fun _ => fun
  | [d1, d2, d3] => { results := [.lit (.bool true)], args := [d1, d2, d3] }
  | _ => none }
def hanoiWaysRow : OpenClaim := { program := "ytbmhcapeikebgaa", sum := "b6f4d970eb176e08b93885e577603ac0c29e069bcb34751adbcb998a85665b5c", func := "gameroom/gameroomlaw.HanoiWays", spec := "hanoiWays", unfollowed := true, recurses := true, plainKeys := false, apart := false }
def HanoiWaysSaid : Prop := hanoiWaysRow.holds Try.pinned (OpenSpec.ofChange hanoiWaysSpec)

/-- ITS FALSE NEIGHBOUR: 'it returns false'. Refute it at one input. -/
def hanoiWaysWrong : ChangeSpec := { name := "hanoiWays", fn := fun _ => fun
  | [d1, d2, d3] => { results := [.lit (.bool false)], args := [d1, d2, d3] }
  | _ => none }
def HanoiWaysWrongFalsely : Prop := hanoiWaysRow.holds Try.pinned (OpenSpec.ofChange hanoiWaysWrong)

/-- 'gameroomlaw.GammonRolls': WHATEVER THE INPUT: true; the input reads as it did. -/
def gammonRollsSpec : ChangeSpec := { name := "gammonRolls", fn := fun _ => fun
  | [d] => { results := [.lit (.bool true)], args := [d] }
  | _ => none }
def gammonRollsRow : OpenClaim := { program := "ytbmhcapeikebgaa", sum := "b6f4d970eb176e08b93885e577603ac0c29e069bcb34751adbcb998a85665b5c", func := "gameroom/gameroomlaw.GammonRolls", spec := "gammonRolls", unfollowed := true, recurses := true, plainKeys := false, apart := false }
def GammonRollsSaid : Prop := gammonRollsRow.holds Try.pinned (OpenSpec.ofChange gammonRollsSpec)

/-- ITS FALSE NEIGHBOUR: 'it returns false'. Refute it at one input. -/
def gammonRollsWrong : ChangeSpec := { name := "gammonRolls", fn := fun _ => fun
  | [d] => { results := [.lit (.bool false)], args := [d] }
  | _ => none }
def GammonRollsWrongFalsely : Prop := gammonRollsRow.holds Try.pinned (OpenSpec.ofChange gammonRollsWrong)

/-- 'gameroomlaw.GammonSteps': WHATEVER THE INPUT: true; the input reads as it did. -/
def gammonStepsSpec : ChangeSpec := { name := "gammonSteps", fn := fun _ => fun
  | [d1, d2, d3] => { results := [.lit (.bool true)], args := [d1, d2, d3] }
  | _ => none }
def gammonStepsRow : OpenClaim := { program := "ytbmhcapeikebgaa", sum := "b6f4d970eb176e08b93885e577603ac0c29e069bcb34751adbcb998a85665b5c", func := "gameroom/gameroomlaw.GammonSteps", spec := "gammonSteps", plainKeys := false, apart := false }
def GammonStepsSaid : Prop := gammonStepsRow.holds Try.pinned (OpenSpec.ofChange gammonStepsSpec)

/-- ITS FALSE NEIGHBOUR: 'it returns false'. Refute it at one input. -/
def gammonStepsWrong : ChangeSpec := { name := "gammonSteps", fn := fun _ => fun
  | [d1, d2, d3] => { results := [.lit (.bool false)], args := [d1, d2, d3] }
  | _ => none }
def GammonStepsWrongFalsely : Prop := gammonStepsRow.holds Try.pinned (OpenSpec.ofChange gammonStepsWrong)

/-- 'gameroomlaw.MancalaNews': WHATEVER THE INPUT: true; the input reads as it did. -/
def mancalaNewsSpec : ChangeSpec := { name := "mancalaNews", fn := fun _ => fun
  | [d1, d2, d3] => { results := [.lit (.bool true)], args := [d1, d2, d3] }
  | _ => none }
def mancalaNewsRow : OpenClaim := { program := "ytbmhcapeikebgaa", sum := "b6f4d970eb176e08b93885e577603ac0c29e069bcb34751adbcb998a85665b5c", func := "gameroom/gameroomlaw.MancalaNews", spec := "mancalaNews", plainKeys := false, apart := false }
def MancalaNewsSaid : Prop := mancalaNewsRow.holds Try.pinned (OpenSpec.ofChange mancalaNewsSpec)

/-- ITS FALSE NEIGHBOUR: 'it returns false'. Refute it at one input. -/
def mancalaNewsWrong : ChangeSpec := { name := "mancalaNews", fn := fun _ => fun
  | [d1, d2, d3] => { results := [.lit (.bool false)], args := [d1, d2, d3] }
  | _ => none }
def MancalaNewsWrongFalsely : Prop := mancalaNewsRow.holds Try.pinned (OpenSpec.ofChange mancalaNewsWrong)

/-- 'gameroomlaw.HanoiMoves': WHATEVER THE INPUT: true; the input reads as it did. -/
def hanoiMovesSpec : ChangeSpec := { name := "hanoiMoves", fn := fun _ => fun
  | [d1, d2, d3, d4, d5, d6] => { results := [.lit (.bool true)], args := [d1, d2, d3, d4, d5, d6] }
  | _ => none }
def hanoiMovesRow : OpenClaim := { program := "ytbmhcapeikebgaa", sum := "b6f4d970eb176e08b93885e577603ac0c29e069bcb34751adbcb998a85665b5c", func := "gameroom/gameroomlaw.HanoiMoves", spec := "hanoiMoves", unfollowed := true, recurses := true, plainKeys := false, apart := false }
def HanoiMovesSaid : Prop := hanoiMovesRow.holds Try.pinned (OpenSpec.ofChange hanoiMovesSpec)

/-- ITS FALSE NEIGHBOUR: 'it returns false'. Refute it at one input. -/
def hanoiMovesWrong : ChangeSpec := { name := "hanoiMoves", fn := fun _ => fun
  | [d1, d2, d3, d4, d5, d6] => { results := [.lit (.bool false)], args := [d1, d2, d3, d4, d5, d6] }
  | _ => none }
def HanoiMovesWrongFalsely : Prop := hanoiMovesRow.holds Try.pinned (OpenSpec.ofChange hanoiMovesWrong)

/-- 'gameroomtop.TopHex': WHATEVER THE INPUT: true; the input reads as it did. -/
def topHexSpec : ChangeSpec := { name := "topHex", fn := fun _ => fun
  | [d1, d2] => { results := [.lit (.bool true)], args := [d1, d2] }
  | _ => none }
def topHexRow : OpenClaim := { program := "ytbmhcapeikebgaa", sum := "b6f4d970eb176e08b93885e577603ac0c29e069bcb34751adbcb998a85665b5c", func := "gameroom/gameroomtop.TopHex", spec := "topHex", unfollowed := true, recurses := true, plainKeys := false, apart := false }
def TopHexSaid : Prop := topHexRow.holds Try.pinned (OpenSpec.ofChange topHexSpec)

/-- ITS FALSE NEIGHBOUR: 'it returns false'. Refute it at one input. -/
def topHexWrong : ChangeSpec := { name := "topHex", fn := fun _ => fun
  | [d1, d2] => { results := [.lit (.bool false)], args := [d1, d2] }
  | _ => none }
def TopHexWrongFalsely : Prop := topHexRow.holds Try.pinned (OpenSpec.ofChange topHexWrong)

/-- 'gameroomlaw.RowsSolves': WHATEVER THE INPUT: true; the input reads as it did. -/
def rowsSolvesSpec : ChangeSpec := { name := "rowsSolves", fn := fun _ => fun
  | [d1, d2] => { results := [.lit (.bool true)], args := [d1, d2] }
  | _ => none }
def rowsSolvesRow : OpenClaim := { program := "ytbmhcapeikebgaa", sum := "b6f4d970eb176e08b93885e577603ac0c29e069bcb34751adbcb998a85665b5c", func := "gameroom/gameroomlaw.RowsSolves", spec := "rowsSolves", unfollowed := true, recurses := true, plainKeys := false, apart := false }
def RowsSolvesSaid : Prop := rowsSolvesRow.holds Try.pinned (OpenSpec.ofChange rowsSolvesSpec)

/-- ITS FALSE NEIGHBOUR: 'it returns false'. Refute it at one input. -/
def rowsSolvesWrong : ChangeSpec := { name := "rowsSolves", fn := fun _ => fun
  | [d1, d2] => { results := [.lit (.bool false)], args := [d1, d2] }
  | _ => none }
def RowsSolvesWrongFalsely : Prop := rowsSolvesRow.holds Try.pinned (OpenSpec.ofChange rowsSolvesWrong)

/-- 'gameroomlaw.OthelloCounts': WHATEVER THE INPUT: true; the input reads as it did. -/
def othelloCountsSpec : ChangeSpec := { name := "othelloCounts", fn := fun _ => fun
  | [d1, d2, d3] => { results := [.lit (.bool true)], args := [d1, d2, d3] }
  | _ => none }
def othelloCountsRow : OpenClaim := { program := "ytbmhcapeikebgaa", sum := "b6f4d970eb176e08b93885e577603ac0c29e069bcb34751adbcb998a85665b5c", func := "gameroom/gameroomlaw.OthelloCounts", spec := "othelloCounts", unfollowed := true, recurses := true, plainKeys := false, apart := false }
def OthelloCountsSaid : Prop := othelloCountsRow.holds Try.pinned (OpenSpec.ofChange othelloCountsSpec)

/-- ITS FALSE NEIGHBOUR: 'it returns false'. Refute it at one input. -/
def othelloCountsWrong : ChangeSpec := { name := "othelloCounts", fn := fun _ => fun
  | [d1, d2, d3] => { results := [.lit (.bool false)], args := [d1, d2, d3] }
  | _ => none }
def OthelloCountsWrongFalsely : Prop := othelloCountsRow.holds Try.pinned (OpenSpec.ofChange othelloCountsWrong)

/-- 'gameroomlaw.ClockRuns': WHATEVER THE INPUT: true; the input reads as it did. -/
def clockRunsSpec : ChangeSpec := { name := "clockRuns", fn := fun _ => fun
  | [d1, d2, d3] => { results := [.lit (.bool true)], args := [d1, d2, d3] }
  | _ => none }
def clockRunsRow : OpenClaim := { program := "ytbmhcapeikebgaa", sum := "b6f4d970eb176e08b93885e577603ac0c29e069bcb34751adbcb998a85665b5c", func := "gameroom/gameroomlaw.ClockRuns", spec := "clockRuns", unfollowed := true, recurses := true, plainKeys := false, apart := false }
def ClockRunsSaid : Prop := clockRunsRow.holds Try.pinned (OpenSpec.ofChange clockRunsSpec)

/-- ITS FALSE NEIGHBOUR: 'it returns false'. Refute it at one input. -/
def clockRunsWrong : ChangeSpec := { name := "clockRuns", fn := fun _ => fun
  | [d1, d2, d3] => { results := [.lit (.bool false)], args := [d1, d2, d3] }
  | _ => none }
def ClockRunsWrongFalsely : Prop := clockRunsRow.holds Try.pinned (OpenSpec.ofChange clockRunsWrong)

/-- 'gameroomlaw.MancalaSows': WHATEVER THE INPUT: true; the input reads as it did. -/
def mancalaSowsSpec : ChangeSpec := { name := "mancalaSows", fn := fun _ => fun
  | [d1, d2] => { results := [.lit (.bool true)], args := [d1, d2] }
  | _ => none }
def mancalaSowsRow : OpenClaim := { program := "ytbmhcapeikebgaa", sum := "b6f4d970eb176e08b93885e577603ac0c29e069bcb34751adbcb998a85665b5c", func := "gameroom/gameroomlaw.MancalaSows", spec := "mancalaSows", plainKeys := false, apart := false }
def MancalaSowsSaid : Prop := mancalaSowsRow.holds Try.pinned (OpenSpec.ofChange mancalaSowsSpec)

/-- ITS FALSE NEIGHBOUR: 'it returns false'. Refute it at one input. -/
def mancalaSowsWrong : ChangeSpec := { name := "mancalaSows", fn := fun _ => fun
  | [d1, d2] => { results := [.lit (.bool false)], args := [d1, d2] }
  | _ => none }
def MancalaSowsWrongFalsely : Prop := mancalaSowsRow.holds Try.pinned (OpenSpec.ofChange mancalaSowsWrong)

/- THE SECOND FORM. 'bulk': how many values and letters a reading holds, each counted each time it is reached (what is shared counts as often as it is met; a slice's spare places count too). A statement '..UptoSaid' is the law's where the arguments, and the package variables that the reading takes, are together of bulk at most 1048576: NARROWER than '..Said'. Prove '..Said' where nothing that the law and all that it calls make is longer than what came in: it says more and counts as full. Else prove '..UptoSaid'. A law counts once. -/
mutual
def uptoBulk {H : Type} : DataW H → Nat
  | .lit (.string bytes) => bytes.length + 1
  | .lit _ => 1
  | .nil => 1
  | .ptr d => uptoBulk d + 1
  | .slice elems spare => uptoBulkAll elems + uptoBulkAll spare + 1
  | .agg parts => uptoBulkAll parts + 1
  | .iface _ d => uptoBulk d + 1
  | .map entries => uptoBulkEntries entries + 1
  | .held _ => 1
def uptoBulkAll {H : Type} : List (DataW H) → Nat
  | [] => 0
  | d :: r => uptoBulk d + uptoBulkAll r
def uptoBulkEntries {H : Type} : List (Lit × DataW H) → Nat
  | [] => 0
  | x :: r => uptoBulkEntry x + uptoBulkEntries r
def uptoBulkEntry {H : Type} : Lit × DataW H → Nat
  | (.string bytes, d) => bytes.length + uptoBulk d + 1
  | (_, d) => uptoBulk d + 1
 end
def uptoSmall : (H : Type) → List (DataW H) → Bool := fun _ ds => decide (uptoBulkAll ds ≤ 1048576)
def OpenSpec.upto (s : _root_.Go.ChangeSpec) : _root_.Go.OpenSpec := { _root_.Go.OpenSpec.ofChange s with cond := some uptoSmall }

/-- 'gameroomlaw.DominoRows', WHERE WHAT IT READS IS OF BULK AT MOST 1048576: true; the input reads as it did. -/
def dominoRowsUptoRow : OpenClaim := { program := "ytbmhcapeikebgaa", sum := "b6f4d970eb176e08b93885e577603ac0c29e069bcb34751adbcb998a85665b5c", func := "gameroom/gameroomlaw.DominoRows", spec := "dominoRows", unfollowed := true, recurses := true, plainKeys := false, apart := false, narrowed := true }
def DominoRowsUptoSaid : Prop := dominoRowsUptoRow.holds Try.pinned (OpenSpec.upto dominoRowsSpec)

/-- 'gameroomlaw.HallBooks', WHERE WHAT IT READS IS OF BULK AT MOST 1048576: true; the input reads as it did. -/
def hallBooksUptoRow : OpenClaim := { program := "ytbmhcapeikebgaa", sum := "b6f4d970eb176e08b93885e577603ac0c29e069bcb34751adbcb998a85665b5c", func := "gameroom/gameroomlaw.HallBooks", spec := "hallBooks", plainKeys := false, apart := false, narrowed := true }
def HallBooksUptoSaid : Prop := hallBooksUptoRow.holds Try.pinned (OpenSpec.upto hallBooksSpec)

/-- 'gameroomlaw.HanoiWays', WHERE WHAT IT READS IS OF BULK AT MOST 1048576: true; the input reads as it did. -/
def hanoiWaysUptoRow : OpenClaim := { program := "ytbmhcapeikebgaa", sum := "b6f4d970eb176e08b93885e577603ac0c29e069bcb34751adbcb998a85665b5c", func := "gameroom/gameroomlaw.HanoiWays", spec := "hanoiWays", unfollowed := true, recurses := true, plainKeys := false, apart := false, narrowed := true }
def HanoiWaysUptoSaid : Prop := hanoiWaysUptoRow.holds Try.pinned (OpenSpec.upto hanoiWaysSpec)

/-- 'gameroomlaw.GammonRolls', WHERE WHAT IT READS IS OF BULK AT MOST 1048576: true; the input reads as it did. -/
def gammonRollsUptoRow : OpenClaim := { program := "ytbmhcapeikebgaa", sum := "b6f4d970eb176e08b93885e577603ac0c29e069bcb34751adbcb998a85665b5c", func := "gameroom/gameroomlaw.GammonRolls", spec := "gammonRolls", unfollowed := true, recurses := true, plainKeys := false, apart := false, narrowed := true }
def GammonRollsUptoSaid : Prop := gammonRollsUptoRow.holds Try.pinned (OpenSpec.upto gammonRollsSpec)

/-- 'gameroomlaw.GammonSteps', WHERE WHAT IT READS IS OF BULK AT MOST 1048576: true; the input reads as it did. -/
def gammonStepsUptoRow : OpenClaim := { program := "ytbmhcapeikebgaa", sum := "b6f4d970eb176e08b93885e577603ac0c29e069bcb34751adbcb998a85665b5c", func := "gameroom/gameroomlaw.GammonSteps", spec := "gammonSteps", plainKeys := false, apart := false, narrowed := true }
def GammonStepsUptoSaid : Prop := gammonStepsUptoRow.holds Try.pinned (OpenSpec.upto gammonStepsSpec)

/-- 'gameroomlaw.MancalaNews', WHERE WHAT IT READS IS OF BULK AT MOST 1048576: true; the input reads as it did. -/
def mancalaNewsUptoRow : OpenClaim := { program := "ytbmhcapeikebgaa", sum := "b6f4d970eb176e08b93885e577603ac0c29e069bcb34751adbcb998a85665b5c", func := "gameroom/gameroomlaw.MancalaNews", spec := "mancalaNews", plainKeys := false, apart := false, narrowed := true }
def MancalaNewsUptoSaid : Prop := mancalaNewsUptoRow.holds Try.pinned (OpenSpec.upto mancalaNewsSpec)

/-- 'gameroomlaw.HanoiMoves', WHERE WHAT IT READS IS OF BULK AT MOST 1048576: true; the input reads as it did. -/
def hanoiMovesUptoRow : OpenClaim := { program := "ytbmhcapeikebgaa", sum := "b6f4d970eb176e08b93885e577603ac0c29e069bcb34751adbcb998a85665b5c", func := "gameroom/gameroomlaw.HanoiMoves", spec := "hanoiMoves", unfollowed := true, recurses := true, plainKeys := false, apart := false, narrowed := true }
def HanoiMovesUptoSaid : Prop := hanoiMovesUptoRow.holds Try.pinned (OpenSpec.upto hanoiMovesSpec)

/-- 'gameroomtop.TopHex', WHERE WHAT IT READS IS OF BULK AT MOST 1048576: true; the input reads as it did. -/
def topHexUptoRow : OpenClaim := { program := "ytbmhcapeikebgaa", sum := "b6f4d970eb176e08b93885e577603ac0c29e069bcb34751adbcb998a85665b5c", func := "gameroom/gameroomtop.TopHex", spec := "topHex", unfollowed := true, recurses := true, plainKeys := false, apart := false, narrowed := true }
def TopHexUptoSaid : Prop := topHexUptoRow.holds Try.pinned (OpenSpec.upto topHexSpec)

/-- 'gameroomlaw.RowsSolves', WHERE WHAT IT READS IS OF BULK AT MOST 1048576: true; the input reads as it did. -/
def rowsSolvesUptoRow : OpenClaim := { program := "ytbmhcapeikebgaa", sum := "b6f4d970eb176e08b93885e577603ac0c29e069bcb34751adbcb998a85665b5c", func := "gameroom/gameroomlaw.RowsSolves", spec := "rowsSolves", unfollowed := true, recurses := true, plainKeys := false, apart := false, narrowed := true }
def RowsSolvesUptoSaid : Prop := rowsSolvesUptoRow.holds Try.pinned (OpenSpec.upto rowsSolvesSpec)

/-- 'gameroomlaw.OthelloCounts', WHERE WHAT IT READS IS OF BULK AT MOST 1048576: true; the input reads as it did. -/
def othelloCountsUptoRow : OpenClaim := { program := "ytbmhcapeikebgaa", sum := "b6f4d970eb176e08b93885e577603ac0c29e069bcb34751adbcb998a85665b5c", func := "gameroom/gameroomlaw.OthelloCounts", spec := "othelloCounts", unfollowed := true, recurses := true, plainKeys := false, apart := false, narrowed := true }
def OthelloCountsUptoSaid : Prop := othelloCountsUptoRow.holds Try.pinned (OpenSpec.upto othelloCountsSpec)

/-- 'gameroomlaw.ClockRuns', WHERE WHAT IT READS IS OF BULK AT MOST 1048576: true; the input reads as it did. -/
def clockRunsUptoRow : OpenClaim := { program := "ytbmhcapeikebgaa", sum := "b6f4d970eb176e08b93885e577603ac0c29e069bcb34751adbcb998a85665b5c", func := "gameroom/gameroomlaw.ClockRuns", spec := "clockRuns", unfollowed := true, recurses := true, plainKeys := false, apart := false, narrowed := true }
def ClockRunsUptoSaid : Prop := clockRunsUptoRow.holds Try.pinned (OpenSpec.upto clockRunsSpec)

/-- 'gameroomlaw.MancalaSows', WHERE WHAT IT READS IS OF BULK AT MOST 1048576: true; the input reads as it did. -/
def mancalaSowsUptoRow : OpenClaim := { program := "ytbmhcapeikebgaa", sum := "b6f4d970eb176e08b93885e577603ac0c29e069bcb34751adbcb998a85665b5c", func := "gameroom/gameroomlaw.MancalaSows", spec := "mancalaSows", plainKeys := false, apart := false, narrowed := true }
def MancalaSowsUptoSaid : Prop := mancalaSowsUptoRow.holds Try.pinned (OpenSpec.upto mancalaSowsSpec)

end Rows
end Go.Proofs.Ytbmhcapeikebgaa
