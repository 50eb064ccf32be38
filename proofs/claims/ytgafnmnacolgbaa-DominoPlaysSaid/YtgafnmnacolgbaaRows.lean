/-
  No cell of these rows narrows 'for every input' (looked for: loops, veiled, ifaces, maps, wideKeys, modest, calm, conditions, laid).
  DERIVED. THE GIVEN ROWS OF THIS SEAT. 10 by the template 'for every input the law returns true; each argument reads behind the call as it read before'; 0 by the template 'total and deterministic' (their statements: YtgafnmnacolgbaaTotals.lean).
  GIVEN WITH THE SEED: the statements are not yours to turn. If you find one false, say at which input.
  Laid BY PROGRAM, IN A SANDBOX (cutbox-rows.mjs): the forced cells as the released guide's own fill.sh prints them over the translation 795db487ab56417a… (all of the seat's roots in one cut). By AI agents, Wed Nov 11 2026. No macro, syntax, notation, axiom, sorry.
-/
import Derived.Test.YtgafnmnacolgbaaChecked
import GoSem.Claim
import GoSem.ClaimJoined
import GoSem.ClaimMapViews
import Derived.JoinedTies
import Derived.KernelRfl
namespace Go.Proofs.Ytgafnmnacolgbaa
/- THE CELL 'sum', in the pinned program and in every row, IS THE sha256 OF THE DUMP (.gsa) THAT YtgafnmnacolgbaaProg.lean LOADS. Nothing in Lean hashes anything: it is a label: what it is worth is what the hold of that sum in a sandbox is worth. -/
noncomputable def Try.pinned : Pinned := { name := "ytgafnmnacolgbaa", sum := "795db487ab56417a11b2f4207359cb36307dd42c1cfbdb5b8449a180ef4a0ad7", checked := Try.checked }
namespace Rows
def none {H : Type} : Left H := { results := [], args := [] }

/-- 'gameroomlaw.DominoPlays': WHATEVER THE INPUT: true; the input reads as it did. -/
def dominoPlaysSpec : ChangeSpec := { name := "dominoPlays", fn := fun _ => fun
  | [d1, d2, d3] => { results := [.lit (.bool true)], args := [d1, d2, d3] }
  | _ => none }
def dominoPlaysRow : OpenClaim := { program := "ytgafnmnacolgbaa", sum := "795db487ab56417a11b2f4207359cb36307dd42c1cfbdb5b8449a180ef4a0ad7", func := "gameroom/gameroomlaw.DominoPlays", spec := "dominoPlays", inPlace := ["slices.overlaps[[2]int]"], unfollowed := true, recurses := true, plainKeys := false, apart := false }
def DominoPlaysSaid : Prop := dominoPlaysRow.holds Try.pinned (OpenSpec.ofChange dominoPlaysSpec)

/-- ITS FALSE NEIGHBOUR: 'it returns false'. Refute it at one input. -/
def dominoPlaysWrong : ChangeSpec := { name := "dominoPlays", fn := fun _ => fun
  | [d1, d2, d3] => { results := [.lit (.bool false)], args := [d1, d2, d3] }
  | _ => none }
def DominoPlaysWrongFalsely : Prop := dominoPlaysRow.holds Try.pinned (OpenSpec.ofChange dominoPlaysWrong)

/-- 'gameroomlaw.ChessAttacks': WHATEVER THE INPUT: true; the input reads as it did. -/
def chessAttacksSpec : ChangeSpec := { name := "chessAttacks", fn := fun _ => fun
  | [d1, d2, d3] => { results := [.lit (.bool true)], args := [d1, d2, d3] }
  | _ => none }
def chessAttacksRow : OpenClaim := { program := "ytgafnmnacolgbaa", sum := "795db487ab56417a11b2f4207359cb36307dd42c1cfbdb5b8449a180ef4a0ad7", func := "gameroom/gameroomlaw.ChessAttacks", spec := "chessAttacks", unfollowed := true, recurses := true, plainKeys := false, apart := false }
def ChessAttacksSaid : Prop := chessAttacksRow.holds Try.pinned (OpenSpec.ofChange chessAttacksSpec)

/-- ITS FALSE NEIGHBOUR: 'it returns false'. Refute it at one input. -/
def chessAttacksWrong : ChangeSpec := { name := "chessAttacks", fn := fun _ => fun
  | [d1, d2, d3] => { results := [.lit (.bool false)], args := [d1, d2, d3] }
  | _ => none }
def ChessAttacksWrongFalsely : Prop := chessAttacksRow.holds Try.pinned (OpenSpec.ofChange chessAttacksWrong)

/-- 'gameroomlaw.EndingsTell': WHATEVER THE INPUT: true; the input reads as it did. -/
def endingsTellSpec : ChangeSpec := { name := "endingsTell", fn := fun _ => fun
  | [d1, d2, d3] => { results := [.lit (.bool true)], args := [d1, d2, d3] }
  | _ => none }
def endingsTellRow : OpenClaim := { program := "ytgafnmnacolgbaa", sum := "795db487ab56417a11b2f4207359cb36307dd42c1cfbdb5b8449a180ef4a0ad7", func := "gameroom/gameroomlaw.EndingsTell", spec := "endingsTell", unfollowed := true, recurses := true, plainKeys := false, apart := false }
def EndingsTellSaid : Prop := endingsTellRow.holds Try.pinned (OpenSpec.ofChange endingsTellSpec)

/-- ITS FALSE NEIGHBOUR: 'it returns false'. Refute it at one input. -/
def endingsTellWrong : ChangeSpec := { name := "endingsTell", fn := fun _ => fun
  | [d1, d2, d3] => { results := [.lit (.bool false)], args := [d1, d2, d3] }
  | _ => none }
def EndingsTellWrongFalsely : Prop := endingsTellRow.holds Try.pinned (OpenSpec.ofChange endingsTellWrong)

/-- 'gameroomlaw.NonoPictures': WHATEVER THE INPUT: true; the input reads as it did. -/
def nonoPicturesSpec : ChangeSpec := { name := "nonoPictures", fn := fun _ => fun
  | [d1, d2, d3] => { results := [.lit (.bool true)], args := [d1, d2, d3] }
  | _ => none }
def nonoPicturesRow : OpenClaim := { program := "ytgafnmnacolgbaa", sum := "795db487ab56417a11b2f4207359cb36307dd42c1cfbdb5b8449a180ef4a0ad7", func := "gameroom/gameroomlaw.NonoPictures", spec := "nonoPictures", unfollowed := true, recurses := true, plainKeys := false, apart := false }
def NonoPicturesSaid : Prop := nonoPicturesRow.holds Try.pinned (OpenSpec.ofChange nonoPicturesSpec)

/-- ITS FALSE NEIGHBOUR: 'it returns false'. Refute it at one input. -/
def nonoPicturesWrong : ChangeSpec := { name := "nonoPictures", fn := fun _ => fun
  | [d1, d2, d3] => { results := [.lit (.bool false)], args := [d1, d2, d3] }
  | _ => none }
def NonoPicturesWrongFalsely : Prop := nonoPicturesRow.holds Try.pinned (OpenSpec.ofChange nonoPicturesWrong)

/-- 'gameroomlaw.PokerValues': WHATEVER THE INPUT: true; the input reads as it did. -/
def pokerValuesSpec : ChangeSpec := { name := "pokerValues", fn := fun _ => fun
  | [d1, d2] => { results := [.lit (.bool true)], args := [d1, d2] }
  | _ => none }
def pokerValuesRow : OpenClaim := { program := "ytgafnmnacolgbaa", sum := "795db487ab56417a11b2f4207359cb36307dd42c1cfbdb5b8449a180ef4a0ad7", func := "gameroom/gameroomlaw.PokerValues", spec := "pokerValues", unfollowed := true, recurses := true, plainKeys := false, apart := false }
def PokerValuesSaid : Prop := pokerValuesRow.holds Try.pinned (OpenSpec.ofChange pokerValuesSpec)

/-- ITS FALSE NEIGHBOUR: 'it returns false'. Refute it at one input. -/
def pokerValuesWrong : ChangeSpec := { name := "pokerValues", fn := fun _ => fun
  | [d1, d2] => { results := [.lit (.bool false)], args := [d1, d2] }
  | _ => none }
def PokerValuesWrongFalsely : Prop := pokerValuesRow.holds Try.pinned (OpenSpec.ofChange pokerValuesWrong)

/-- 'gameroomlaw.PokerShowdowns': WHATEVER THE INPUT: true; the input reads as it did. -/
def pokerShowdownsSpec : ChangeSpec := { name := "pokerShowdowns", fn := fun _ => fun
  | [d1, d2, d3] => { results := [.lit (.bool true)], args := [d1, d2, d3] }
  | _ => none }
def pokerShowdownsRow : OpenClaim := { program := "ytgafnmnacolgbaa", sum := "795db487ab56417a11b2f4207359cb36307dd42c1cfbdb5b8449a180ef4a0ad7", func := "gameroom/gameroomlaw.PokerShowdowns", spec := "pokerShowdowns", unfollowed := true, recurses := true, plainKeys := false, apart := false }
def PokerShowdownsSaid : Prop := pokerShowdownsRow.holds Try.pinned (OpenSpec.ofChange pokerShowdownsSpec)

/-- ITS FALSE NEIGHBOUR: 'it returns false'. Refute it at one input. -/
def pokerShowdownsWrong : ChangeSpec := { name := "pokerShowdowns", fn := fun _ => fun
  | [d1, d2, d3] => { results := [.lit (.bool false)], args := [d1, d2, d3] }
  | _ => none }
def PokerShowdownsWrongFalsely : Prop := pokerShowdownsRow.holds Try.pinned (OpenSpec.ofChange pokerShowdownsWrong)

/-- 'gameroomlaw.RowsWins': WHATEVER THE INPUT: true; the input reads as it did. -/
def rowsWinsSpec : ChangeSpec := { name := "rowsWins", fn := fun _ => fun
  | [d1, d2] => { results := [.lit (.bool true)], args := [d1, d2] }
  | _ => none }
def rowsWinsRow : OpenClaim := { program := "ytgafnmnacolgbaa", sum := "795db487ab56417a11b2f4207359cb36307dd42c1cfbdb5b8449a180ef4a0ad7", func := "gameroom/gameroomlaw.RowsWins", spec := "rowsWins", unfollowed := true, recurses := true, plainKeys := false, apart := false }
def RowsWinsSaid : Prop := rowsWinsRow.holds Try.pinned (OpenSpec.ofChange rowsWinsSpec)

/-- ITS FALSE NEIGHBOUR: 'it returns false'. Refute it at one input. -/
def rowsWinsWrong : ChangeSpec := { name := "rowsWins", fn := fun _ => fun
  | [d1, d2] => { results := [.lit (.bool false)], args := [d1, d2] }
  | _ => none }
def RowsWinsWrongFalsely : Prop := rowsWinsRow.holds Try.pinned (OpenSpec.ofChange rowsWinsWrong)

/-- 'gameroomlaw.HexGroups': WHATEVER THE INPUT: true; the input reads as it did. -/
def hexGroupsSpec : ChangeSpec := { name := "hexGroups", fn := fun _ => fun
  | [d1, d2] => { results := [.lit (.bool true)], args := [d1, d2] }
  | _ => none }
def hexGroupsRow : OpenClaim := { program := "ytgafnmnacolgbaa", sum := "795db487ab56417a11b2f4207359cb36307dd42c1cfbdb5b8449a180ef4a0ad7", func := "gameroom/gameroomlaw.HexGroups", spec := "hexGroups", unfollowed := true, recurses := true, plainKeys := false, apart := false }
def HexGroupsSaid : Prop := hexGroupsRow.holds Try.pinned (OpenSpec.ofChange hexGroupsSpec)

/-- ITS FALSE NEIGHBOUR: 'it returns false'. Refute it at one input. -/
def hexGroupsWrong : ChangeSpec := { name := "hexGroups", fn := fun _ => fun
  | [d1, d2] => { results := [.lit (.bool false)], args := [d1, d2] }
  | _ => none }
def HexGroupsWrongFalsely : Prop := hexGroupsRow.holds Try.pinned (OpenSpec.ofChange hexGroupsWrong)

/-- 'gameroomlaw.CribPegs': WHATEVER THE INPUT: true; the input reads as it did. -/
def cribPegsSpec : ChangeSpec := { name := "cribPegs", fn := fun _ => fun
  | [d] => { results := [.lit (.bool true)], args := [d] }
  | _ => none }
def cribPegsRow : OpenClaim := { program := "ytgafnmnacolgbaa", sum := "795db487ab56417a11b2f4207359cb36307dd42c1cfbdb5b8449a180ef4a0ad7", func := "gameroom/gameroomlaw.CribPegs", spec := "cribPegs", unfollowed := true, recurses := true, plainKeys := false, apart := false }
def CribPegsSaid : Prop := cribPegsRow.holds Try.pinned (OpenSpec.ofChange cribPegsSpec)

/-- ITS FALSE NEIGHBOUR: 'it returns false'. Refute it at one input. -/
def cribPegsWrong : ChangeSpec := { name := "cribPegs", fn := fun _ => fun
  | [d] => { results := [.lit (.bool false)], args := [d] }
  | _ => none }
def CribPegsWrongFalsely : Prop := cribPegsRow.holds Try.pinned (OpenSpec.ofChange cribPegsWrong)

/-- 'gameroomlaw.StonesPuts': WHATEVER THE INPUT: true; the input reads as it did. -/
def stonesPutsSpec : ChangeSpec := { name := "stonesPuts", fn := fun _ => fun
  | [d1, d2, d3] => { results := [.lit (.bool true)], args := [d1, d2, d3] }
  | _ => none }
def stonesPutsRow : OpenClaim := { program := "ytgafnmnacolgbaa", sum := "795db487ab56417a11b2f4207359cb36307dd42c1cfbdb5b8449a180ef4a0ad7", func := "gameroom/gameroomlaw.StonesPuts", spec := "stonesPuts", unfollowed := true, recurses := true, plainKeys := false, apart := false }
def StonesPutsSaid : Prop := stonesPutsRow.holds Try.pinned (OpenSpec.ofChange stonesPutsSpec)

/-- ITS FALSE NEIGHBOUR: 'it returns false'. Refute it at one input. -/
def stonesPutsWrong : ChangeSpec := { name := "stonesPuts", fn := fun _ => fun
  | [d1, d2, d3] => { results := [.lit (.bool false)], args := [d1, d2, d3] }
  | _ => none }
def StonesPutsWrongFalsely : Prop := stonesPutsRow.holds Try.pinned (OpenSpec.ofChange stonesPutsWrong)

/- THE SECOND FORM. 'bulk': how many values and letters a reading holds, each counted each time it is reached (what is shared counts as often as it is met; a slice's spare places count too). A statement '..UptoSaid' is the law's where the arguments, and the package variables that the reading takes, are together of bulk at most 1048576: NARROWER than '..Said'. Prove '..Said' where nothing that the law and all that it calls make is longer than what came in: it says more and counts as full. Else prove '..UptoSaid'. A law counts once. -/
mutual
def uptoBulk {H : Type} : DataW H → Nat
  | .lit (.string bytes) => bytes.length + 1
  | .lit _ => 1
  | .nil => 1
  | .ptr d => uptoBulk d + 1
  | .slice elems spare => uptoBulkAll elems + uptoBulkAll spare + 1
  | .agg parts => uptoBulkAll parts + 1
  | .iface _ d => uptoBulk d + 1
  | .map entries => uptoBulkEntries entries + 1
  | .held _ => 1
def uptoBulkAll {H : Type} : List (DataW H) → Nat
  | [] => 0
  | d :: r => uptoBulk d + uptoBulkAll r
def uptoBulkEntries {H : Type} : List (Lit × DataW H) → Nat
  | [] => 0
  | x :: r => uptoBulkEntry x + uptoBulkEntries r
def uptoBulkEntry {H : Type} : Lit × DataW H → Nat
  | (.string bytes, d) => bytes.length + uptoBulk d + 1
  | (_, d) => uptoBulk d + 1
 end
def uptoSmall : (H : Type) → List (DataW H) → Bool := fun _ ds => decide (uptoBulkAll ds ≤ 1048576)
def OpenSpec.upto (s : _root_.Go.ChangeSpec) : _root_.Go.OpenSpec := { _root_.Go.OpenSpec.ofChange s with cond := some uptoSmall }

/-- 'gameroomlaw.DominoPlays', WHERE WHAT IT READS IS OF BULK AT MOST 1048576: true; the input reads as it did. -/
def dominoPlaysUptoRow : OpenClaim := { program := "ytgafnmnacolgbaa", sum := "795db487ab56417a11b2f4207359cb36307dd42c1cfbdb5b8449a180ef4a0ad7", func := "gameroom/gameroomlaw.DominoPlays", spec := "dominoPlays", inPlace := ["slices.overlaps[[2]int]"], unfollowed := true, recurses := true, plainKeys := false, apart := false, narrowed := true }
def DominoPlaysUptoSaid : Prop := dominoPlaysUptoRow.holds Try.pinned (OpenSpec.upto dominoPlaysSpec)

/-- 'gameroomlaw.ChessAttacks', WHERE WHAT IT READS IS OF BULK AT MOST 1048576: true; the input reads as it did. -/
def chessAttacksUptoRow : OpenClaim := { program := "ytgafnmnacolgbaa", sum := "795db487ab56417a11b2f4207359cb36307dd42c1cfbdb5b8449a180ef4a0ad7", func := "gameroom/gameroomlaw.ChessAttacks", spec := "chessAttacks", unfollowed := true, recurses := true, plainKeys := false, apart := false, narrowed := true }
def ChessAttacksUptoSaid : Prop := chessAttacksUptoRow.holds Try.pinned (OpenSpec.upto chessAttacksSpec)

/-- 'gameroomlaw.EndingsTell', WHERE WHAT IT READS IS OF BULK AT MOST 1048576: true; the input reads as it did. -/
def endingsTellUptoRow : OpenClaim := { program := "ytgafnmnacolgbaa", sum := "795db487ab56417a11b2f4207359cb36307dd42c1cfbdb5b8449a180ef4a0ad7", func := "gameroom/gameroomlaw.EndingsTell", spec := "endingsTell", unfollowed := true, recurses := true, plainKeys := false, apart := false, narrowed := true }
def EndingsTellUptoSaid : Prop := endingsTellUptoRow.holds Try.pinned (OpenSpec.upto endingsTellSpec)

/-- 'gameroomlaw.NonoPictures', WHERE WHAT IT READS IS OF BULK AT MOST 1048576: true; the input reads as it did. -/
def nonoPicturesUptoRow : OpenClaim := { program := "ytgafnmnacolgbaa", sum := "795db487ab56417a11b2f4207359cb36307dd42c1cfbdb5b8449a180ef4a0ad7", func := "gameroom/gameroomlaw.NonoPictures", spec := "nonoPictures", unfollowed := true, recurses := true, plainKeys := false, apart := false, narrowed := true }
def NonoPicturesUptoSaid : Prop := nonoPicturesUptoRow.holds Try.pinned (OpenSpec.upto nonoPicturesSpec)

/-- 'gameroomlaw.PokerValues', WHERE WHAT IT READS IS OF BULK AT MOST 1048576: true; the input reads as it did. -/
def pokerValuesUptoRow : OpenClaim := { program := "ytgafnmnacolgbaa", sum := "795db487ab56417a11b2f4207359cb36307dd42c1cfbdb5b8449a180ef4a0ad7", func := "gameroom/gameroomlaw.PokerValues", spec := "pokerValues", unfollowed := true, recurses := true, plainKeys := false, apart := false, narrowed := true }
def PokerValuesUptoSaid : Prop := pokerValuesUptoRow.holds Try.pinned (OpenSpec.upto pokerValuesSpec)

/-- 'gameroomlaw.PokerShowdowns', WHERE WHAT IT READS IS OF BULK AT MOST 1048576: true; the input reads as it did. -/
def pokerShowdownsUptoRow : OpenClaim := { program := "ytgafnmnacolgbaa", sum := "795db487ab56417a11b2f4207359cb36307dd42c1cfbdb5b8449a180ef4a0ad7", func := "gameroom/gameroomlaw.PokerShowdowns", spec := "pokerShowdowns", unfollowed := true, recurses := true, plainKeys := false, apart := false, narrowed := true }
def PokerShowdownsUptoSaid : Prop := pokerShowdownsUptoRow.holds Try.pinned (OpenSpec.upto pokerShowdownsSpec)

/-- 'gameroomlaw.RowsWins', WHERE WHAT IT READS IS OF BULK AT MOST 1048576: true; the input reads as it did. -/
def rowsWinsUptoRow : OpenClaim := { program := "ytgafnmnacolgbaa", sum := "795db487ab56417a11b2f4207359cb36307dd42c1cfbdb5b8449a180ef4a0ad7", func := "gameroom/gameroomlaw.RowsWins", spec := "rowsWins", unfollowed := true, recurses := true, plainKeys := false, apart := false, narrowed := true }
def RowsWinsUptoSaid : Prop := rowsWinsUptoRow.holds Try.pinned (OpenSpec.upto rowsWinsSpec)

/-- 'gameroomlaw.HexGroups', WHERE WHAT IT READS IS OF BULK AT MOST 1048576: true; the input reads as it did. -/
def hexGroupsUptoRow : OpenClaim := { program := "ytgafnmnacolgbaa", sum := "795db487ab56417a11b2f4207359cb36307dd42c1cfbdb5b8449a180ef4a0ad7", func := "gameroom/gameroomlaw.HexGroups", spec := "hexGroups", unfollowed := true, recurses := true, plainKeys := false, apart := false, narrowed := true }
def HexGroupsUptoSaid : Prop := hexGroupsUptoRow.holds Try.pinned (OpenSpec.upto hexGroupsSpec)

/-- 'gameroomlaw.CribPegs', WHERE WHAT IT READS IS OF BULK AT MOST 1048576: true; the input reads as it did. -/
def cribPegsUptoRow : OpenClaim := { program := "ytgafnmnacolgbaa", sum := "795db487ab56417a11b2f4207359cb36307dd42c1cfbdb5b8449a180ef4a0ad7", func := "gameroom/gameroomlaw.CribPegs", spec := "cribPegs", unfollowed := true, recurses := true, plainKeys := false, apart := false, narrowed := true }
def CribPegsUptoSaid : Prop := cribPegsUptoRow.holds Try.pinned (OpenSpec.upto cribPegsSpec)

/-- 'gameroomlaw.StonesPuts', WHERE WHAT IT READS IS OF BULK AT MOST 1048576: true; the input reads as it did. -/
def stonesPutsUptoRow : OpenClaim := { program := "ytgafnmnacolgbaa", sum := "795db487ab56417a11b2f4207359cb36307dd42c1cfbdb5b8449a180ef4a0ad7", func := "gameroom/gameroomlaw.StonesPuts", spec := "stonesPuts", unfollowed := true, recurses := true, plainKeys := false, apart := false, narrowed := true }
def StonesPutsUptoSaid : Prop := stonesPutsUptoRow.holds Try.pinned (OpenSpec.upto stonesPutsSpec)

end Rows
end Go.Proofs.Ytgafnmnacolgbaa
