/-
  No cell of these rows narrows 'for every input' (looked for: loops, veiled, ifaces, maps, wideKeys, modest, calm, conditions, laid).
  DERIVED. THE GIVEN ROWS OF THIS SEAT. 12 by the template 'for every input the law returns true; each argument reads behind the call as it read before'; 0 by the template 'total and deterministic' (their statements: YtlkdblflibgfpaaTotals.lean).
  GIVEN WITH THE SEED: the statements are not yours to turn. If you find one false, say at which input.
  Laid BY PROGRAM, IN A SANDBOX (cutbox-rows.mjs): the forced cells as the released guide's own fill.sh prints them over the translation e7f8ab432f54f7f6… (all of the seat's roots in one cut). By AI agents, Wed Nov 11 2026. No macro, syntax, notation, axiom, sorry.
-/
import Derived.Test.YtlkdblflibgfpaaChecked
import GoSem.Claim
import GoSem.ClaimJoined
import GoSem.ClaimMapViews
import Derived.JoinedTies
import Derived.KernelRfl
namespace Go.Proofs.Ytlkdblflibgfpaa
/- THE CELL 'sum', in the pinned program and in every row, IS THE sha256 OF THE DUMP (.gsa) THAT YtlkdblflibgfpaaProg.lean LOADS. Nothing in Lean hashes anything: it is a label: what it is worth is what the hold of that sum in a sandbox is worth. -/
noncomputable def Try.pinned : Pinned := { name := "ytlkdblflibgfpaa", sum := "e7f8ab432f54f7f6e76961f4d8da755553b87a41632b72de4291f16b46e6b206", checked := Try.checked }
namespace Rows
def none {H : Type} : Left H := { results := [], args := [] }

/-- 'gameroomlaw.DeckNumbers': WHATEVER THE INPUT: true; the input reads as it did. -/
def deckNumbersSpec : ChangeSpec := { name := "deckNumbers", fn := fun _ => fun
  | [d1, d2, d3] => { results := [.lit (.bool true)], args := [d1, d2, d3] }
  | _ => none }
def deckNumbersRow : OpenClaim := { program := "ytlkdblflibgfpaa", sum := "e7f8ab432f54f7f6e76961f4d8da755553b87a41632b72de4291f16b46e6b206", func := "gameroom/gameroomlaw.DeckNumbers", spec := "deckNumbers", unfollowed := true, recurses := true, plainKeys := false, apart := false }
def DeckNumbersSaid : Prop := deckNumbersRow.holds Try.pinned (OpenSpec.ofChange deckNumbersSpec)

/-- ITS FALSE NEIGHBOUR: 'it returns false'. Refute it at one input. -/
def deckNumbersWrong : ChangeSpec := { name := "deckNumbers", fn := fun _ => fun
  | [d1, d2, d3] => { results := [.lit (.bool false)], args := [d1, d2, d3] }
  | _ => none }
def DeckNumbersWrongFalsely : Prop := deckNumbersRow.holds Try.pinned (OpenSpec.ofChange deckNumbersWrong)

/-- 'gameroomlaw.BridgeTricks': WHATEVER THE INPUT: true; the input reads as it did. -/
def bridgeTricksSpec : ChangeSpec := { name := "bridgeTricks", fn := fun _ => fun
  | [d1, d2, d3, d4, d5] => { results := [.lit (.bool true)], args := [d1, d2, d3, d4, d5] }
  | _ => none }
def bridgeTricksRow : OpenClaim := { program := "ytlkdblflibgfpaa", sum := "e7f8ab432f54f7f6e76961f4d8da755553b87a41632b72de4291f16b46e6b206", func := "gameroom/gameroomlaw.BridgeTricks", spec := "bridgeTricks", unfollowed := true, recurses := true, plainKeys := false, apart := false }
def BridgeTricksSaid : Prop := bridgeTricksRow.holds Try.pinned (OpenSpec.ofChange bridgeTricksSpec)

/-- ITS FALSE NEIGHBOUR: 'it returns false'. Refute it at one input. -/
def bridgeTricksWrong : ChangeSpec := { name := "bridgeTricks", fn := fun _ => fun
  | [d1, d2, d3, d4, d5] => { results := [.lit (.bool false)], args := [d1, d2, d3, d4, d5] }
  | _ => none }
def BridgeTricksWrongFalsely : Prop := bridgeTricksRow.holds Try.pinned (OpenSpec.ofChange bridgeTricksWrong)

/-- 'gameroomlaw.PegsJumps': WHATEVER THE INPUT: true; the input reads as it did. -/
def pegsJumpsSpec : ChangeSpec := { name := "pegsJumps", fn := fun _ => fun
  | [d1, d2] => { results := [.lit (.bool true)], args := [d1, d2] }
  | _ => none }
def pegsJumpsRow : OpenClaim := { program := "ytlkdblflibgfpaa", sum := "e7f8ab432f54f7f6e76961f4d8da755553b87a41632b72de4291f16b46e6b206", func := "gameroom/gameroomlaw.PegsJumps", spec := "pegsJumps", unfollowed := true, recurses := true, plainKeys := false, apart := false }
def PegsJumpsSaid : Prop := pegsJumpsRow.holds Try.pinned (OpenSpec.ofChange pegsJumpsSpec)

/-- ITS FALSE NEIGHBOUR: 'it returns false'. Refute it at one input. -/
def pegsJumpsWrong : ChangeSpec := { name := "pegsJumps", fn := fun _ => fun
  | [d1, d2] => { results := [.lit (.bool false)], args := [d1, d2] }
  | _ => none }
def PegsJumpsWrongFalsely : Prop := pegsJumpsRow.holds Try.pinned (OpenSpec.ofChange pegsJumpsWrong)

/-- 'gameroomlaw.SlideMoves': WHATEVER THE INPUT: true; the input reads as it did. -/
def slideMovesSpec : ChangeSpec := { name := "slideMoves", fn := fun _ => fun
  | [d1, d2] => { results := [.lit (.bool true)], args := [d1, d2] }
  | _ => none }
def slideMovesRow : OpenClaim := { program := "ytlkdblflibgfpaa", sum := "e7f8ab432f54f7f6e76961f4d8da755553b87a41632b72de4291f16b46e6b206", func := "gameroom/gameroomlaw.SlideMoves", spec := "slideMoves", unfollowed := true, recurses := true, plainKeys := false, apart := false }
def SlideMovesSaid : Prop := slideMovesRow.holds Try.pinned (OpenSpec.ofChange slideMovesSpec)

/-- ITS FALSE NEIGHBOUR: 'it returns false'. Refute it at one input. -/
def slideMovesWrong : ChangeSpec := { name := "slideMoves", fn := fun _ => fun
  | [d1, d2] => { results := [.lit (.bool false)], args := [d1, d2] }
  | _ => none }
def SlideMovesWrongFalsely : Prop := slideMovesRow.holds Try.pinned (OpenSpec.ofChange slideMovesWrong)

/-- 'gameroomlaw.StonesPlays': WHATEVER THE INPUT: true; the input reads as it did. -/
def stonesPlaysSpec : ChangeSpec := { name := "stonesPlays", fn := fun _ => fun
  | [d1, d2] => { results := [.lit (.bool true)], args := [d1, d2] }
  | _ => none }
def stonesPlaysRow : OpenClaim := { program := "ytlkdblflibgfpaa", sum := "e7f8ab432f54f7f6e76961f4d8da755553b87a41632b72de4291f16b46e6b206", func := "gameroom/gameroomlaw.StonesPlays", spec := "stonesPlays", unfollowed := true, recurses := true, plainKeys := false, apart := false }
def StonesPlaysSaid : Prop := stonesPlaysRow.holds Try.pinned (OpenSpec.ofChange stonesPlaysSpec)

/-- ITS FALSE NEIGHBOUR: 'it returns false'. Refute it at one input. -/
def stonesPlaysWrong : ChangeSpec := { name := "stonesPlays", fn := fun _ => fun
  | [d1, d2] => { results := [.lit (.bool false)], args := [d1, d2] }
  | _ => none }
def StonesPlaysWrongFalsely : Prop := stonesPlaysRow.holds Try.pinned (OpenSpec.ofChange stonesPlaysWrong)

/-- 'gameroomlaw.StonesAreas': WHATEVER THE INPUT: true; the input reads as it did. -/
def stonesAreasSpec : ChangeSpec := { name := "stonesAreas", fn := fun _ => fun
  | [d1, d2] => { results := [.lit (.bool true)], args := [d1, d2] }
  | _ => none }
def stonesAreasRow : OpenClaim := { program := "ytlkdblflibgfpaa", sum := "e7f8ab432f54f7f6e76961f4d8da755553b87a41632b72de4291f16b46e6b206", func := "gameroom/gameroomlaw.StonesAreas", spec := "stonesAreas", unfollowed := true, recurses := true, plainKeys := false, apart := false }
def StonesAreasSaid : Prop := stonesAreasRow.holds Try.pinned (OpenSpec.ofChange stonesAreasSpec)

/-- ITS FALSE NEIGHBOUR: 'it returns false'. Refute it at one input. -/
def stonesAreasWrong : ChangeSpec := { name := "stonesAreas", fn := fun _ => fun
  | [d1, d2] => { results := [.lit (.bool false)], args := [d1, d2] }
  | _ => none }
def StonesAreasWrongFalsely : Prop := stonesAreasRow.holds Try.pinned (OpenSpec.ofChange stonesAreasWrong)

/-- 'gameroomlaw.CribShows': WHATEVER THE INPUT: true; the input reads as it did. -/
def cribShowsSpec : ChangeSpec := { name := "cribShows", fn := fun _ => fun
  | [d1, d2, d3] => { results := [.lit (.bool true)], args := [d1, d2, d3] }
  | _ => none }
def cribShowsRow : OpenClaim := { program := "ytlkdblflibgfpaa", sum := "e7f8ab432f54f7f6e76961f4d8da755553b87a41632b72de4291f16b46e6b206", func := "gameroom/gameroomlaw.CribShows", spec := "cribShows", unfollowed := true, recurses := true, plainKeys := false, apart := false }
def CribShowsSaid : Prop := cribShowsRow.holds Try.pinned (OpenSpec.ofChange cribShowsSpec)

/-- ITS FALSE NEIGHBOUR: 'it returns false'. Refute it at one input. -/
def cribShowsWrong : ChangeSpec := { name := "cribShows", fn := fun _ => fun
  | [d1, d2, d3] => { results := [.lit (.bool false)], args := [d1, d2, d3] }
  | _ => none }
def CribShowsWrongFalsely : Prop := cribShowsRow.holds Try.pinned (OpenSpec.ofChange cribShowsWrong)

/-- 'gameroomlaw.PegsSolves': WHATEVER THE INPUT: true; the input reads as it did. -/
def pegsSolvesSpec : ChangeSpec := { name := "pegsSolves", fn := fun _ => fun
  | [d1, d2] => { results := [.lit (.bool true)], args := [d1, d2] }
  | _ => none }
def pegsSolvesRow : OpenClaim := { program := "ytlkdblflibgfpaa", sum := "e7f8ab432f54f7f6e76961f4d8da755553b87a41632b72de4291f16b46e6b206", func := "gameroom/gameroomlaw.PegsSolves", spec := "pegsSolves", unfollowed := true, recurses := true, plainKeys := false, apart := false }
def PegsSolvesSaid : Prop := pegsSolvesRow.holds Try.pinned (OpenSpec.ofChange pegsSolvesSpec)

/-- ITS FALSE NEIGHBOUR: 'it returns false'. Refute it at one input. -/
def pegsSolvesWrong : ChangeSpec := { name := "pegsSolves", fn := fun _ => fun
  | [d1, d2] => { results := [.lit (.bool false)], args := [d1, d2] }
  | _ => none }
def PegsSolvesWrongFalsely : Prop := pegsSolvesRow.holds Try.pinned (OpenSpec.ofChange pegsSolvesWrong)

/-- 'gameroomlaw.SlideHomes': WHATEVER THE INPUT: true; the input reads as it did. -/
def slideHomesSpec : ChangeSpec := { name := "slideHomes", fn := fun _ => fun
  | [d1, d2, d3, d4] => { results := [.lit (.bool true)], args := [d1, d2, d3, d4] }
  | _ => none }
def slideHomesRow : OpenClaim := { program := "ytlkdblflibgfpaa", sum := "e7f8ab432f54f7f6e76961f4d8da755553b87a41632b72de4291f16b46e6b206", func := "gameroom/gameroomlaw.SlideHomes", spec := "slideHomes", unfollowed := true, recurses := true, plainKeys := false, apart := false }
def SlideHomesSaid : Prop := slideHomesRow.holds Try.pinned (OpenSpec.ofChange slideHomesSpec)

/-- ITS FALSE NEIGHBOUR: 'it returns false'. Refute it at one input. -/
def slideHomesWrong : ChangeSpec := { name := "slideHomes", fn := fun _ => fun
  | [d1, d2, d3, d4] => { results := [.lit (.bool false)], args := [d1, d2, d3, d4] }
  | _ => none }
def SlideHomesWrongFalsely : Prop := slideHomesRow.holds Try.pinned (OpenSpec.ofChange slideHomesWrong)

/-- 'gameroomlaw.GammonMoves': WHATEVER THE INPUT: true; the input reads as it did. -/
def gammonMovesSpec : ChangeSpec := { name := "gammonMoves", fn := fun _ => fun
  | [d1, d2, d3] => { results := [.lit (.bool true)], args := [d1, d2, d3] }
  | _ => none }
def gammonMovesRow : OpenClaim := { program := "ytlkdblflibgfpaa", sum := "e7f8ab432f54f7f6e76961f4d8da755553b87a41632b72de4291f16b46e6b206", func := "gameroom/gameroomlaw.GammonMoves", spec := "gammonMoves", unfollowed := true, recurses := true, plainKeys := false, apart := false }
def GammonMovesSaid : Prop := gammonMovesRow.holds Try.pinned (OpenSpec.ofChange gammonMovesSpec)

/-- ITS FALSE NEIGHBOUR: 'it returns false'. Refute it at one input. -/
def gammonMovesWrong : ChangeSpec := { name := "gammonMoves", fn := fun _ => fun
  | [d1, d2, d3] => { results := [.lit (.bool false)], args := [d1, d2, d3] }
  | _ => none }
def GammonMovesWrongFalsely : Prop := gammonMovesRow.holds Try.pinned (OpenSpec.ofChange gammonMovesWrong)

/-- 'gameroomlaw.DraughtsWays': WHATEVER THE INPUT: true; the input reads as it did. -/
def draughtsWaysSpec : ChangeSpec := { name := "draughtsWays", fn := fun _ => fun
  | [d] => { results := [.lit (.bool true)], args := [d] }
  | _ => none }
def draughtsWaysRow : OpenClaim := { program := "ytlkdblflibgfpaa", sum := "e7f8ab432f54f7f6e76961f4d8da755553b87a41632b72de4291f16b46e6b206", func := "gameroom/gameroomlaw.DraughtsWays", spec := "draughtsWays", unfollowed := true, recurses := true, plainKeys := false, apart := false }
def DraughtsWaysSaid : Prop := draughtsWaysRow.holds Try.pinned (OpenSpec.ofChange draughtsWaysSpec)

/-- ITS FALSE NEIGHBOUR: 'it returns false'. Refute it at one input. -/
def draughtsWaysWrong : ChangeSpec := { name := "draughtsWays", fn := fun _ => fun
  | [d] => { results := [.lit (.bool false)], args := [d] }
  | _ => none }
def DraughtsWaysWrongFalsely : Prop := draughtsWaysRow.holds Try.pinned (OpenSpec.ofChange draughtsWaysWrong)

/-- 'gameroomlaw.CribKeeps': WHATEVER THE INPUT: true; the input reads as it did. -/
def cribKeepsSpec : ChangeSpec := { name := "cribKeeps", fn := fun _ => fun
  | [d] => { results := [.lit (.bool true)], args := [d] }
  | _ => none }
def cribKeepsRow : OpenClaim := { program := "ytlkdblflibgfpaa", sum := "e7f8ab432f54f7f6e76961f4d8da755553b87a41632b72de4291f16b46e6b206", func := "gameroom/gameroomlaw.CribKeeps", spec := "cribKeeps", unfollowed := true, recurses := true, plainKeys := false, apart := false }
def CribKeepsSaid : Prop := cribKeepsRow.holds Try.pinned (OpenSpec.ofChange cribKeepsSpec)

/-- ITS FALSE NEIGHBOUR: 'it returns false'. Refute it at one input. -/
def cribKeepsWrong : ChangeSpec := { name := "cribKeeps", fn := fun _ => fun
  | [d] => { results := [.lit (.bool false)], args := [d] }
  | _ => none }
def CribKeepsWrongFalsely : Prop := cribKeepsRow.holds Try.pinned (OpenSpec.ofChange cribKeepsWrong)

/- THE SECOND FORM. 'bulk': how many values and letters a reading holds, each counted each time it is reached (what is shared counts as often as it is met; a slice's spare places count too). A statement '..UptoSaid' is the law's where the arguments, and the package variables that the reading takes, are together of bulk at most 1048576: NARROWER than '..Said'. Prove '..Said' where nothing that the law and all that it calls make is longer than what came in: it says more and counts as full. Else prove '..UptoSaid'. A law counts once. -/
mutual
def uptoBulk {H : Type} : DataW H → Nat
  | .lit (.string bytes) => bytes.length + 1
  | .lit _ => 1
  | .nil => 1
  | .ptr d => uptoBulk d + 1
  | .slice elems spare => uptoBulkAll elems + uptoBulkAll spare + 1
  | .agg parts => uptoBulkAll parts + 1
  | .iface _ d => uptoBulk d + 1
  | .map entries => uptoBulkEntries entries + 1
  | .held _ => 1
def uptoBulkAll {H : Type} : List (DataW H) → Nat
  | [] => 0
  | d :: r => uptoBulk d + uptoBulkAll r
def uptoBulkEntries {H : Type} : List (Lit × DataW H) → Nat
  | [] => 0
  | x :: r => uptoBulkEntry x + uptoBulkEntries r
def uptoBulkEntry {H : Type} : Lit × DataW H → Nat
  | (.string bytes, d) => bytes.length + uptoBulk d + 1
  | (_, d) => uptoBulk d + 1
 end
def uptoSmall : (H : Type) → List (DataW H) → Bool := fun _ ds => decide (uptoBulkAll ds ≤ 1048576)
def OpenSpec.upto (s : _root_.Go.ChangeSpec) : _root_.Go.OpenSpec := { _root_.Go.OpenSpec.ofChange s with cond := some uptoSmall }

/-- 'gameroomlaw.DeckNumbers', WHERE WHAT IT READS IS OF BULK AT MOST 1048576: true; the input reads as it did. -/
def deckNumbersUptoRow : OpenClaim := { program := "ytlkdblflibgfpaa", sum := "e7f8ab432f54f7f6e76961f4d8da755553b87a41632b72de4291f16b46e6b206", func := "gameroom/gameroomlaw.DeckNumbers", spec := "deckNumbers", unfollowed := true, recurses := true, plainKeys := false, apart := false, narrowed := true }
def DeckNumbersUptoSaid : Prop := deckNumbersUptoRow.holds Try.pinned (OpenSpec.upto deckNumbersSpec)

/-- 'gameroomlaw.BridgeTricks', WHERE WHAT IT READS IS OF BULK AT MOST 1048576: true; the input reads as it did. -/
def bridgeTricksUptoRow : OpenClaim := { program := "ytlkdblflibgfpaa", sum := "e7f8ab432f54f7f6e76961f4d8da755553b87a41632b72de4291f16b46e6b206", func := "gameroom/gameroomlaw.BridgeTricks", spec := "bridgeTricks", unfollowed := true, recurses := true, plainKeys := false, apart := false, narrowed := true }
def BridgeTricksUptoSaid : Prop := bridgeTricksUptoRow.holds Try.pinned (OpenSpec.upto bridgeTricksSpec)

/-- 'gameroomlaw.PegsJumps', WHERE WHAT IT READS IS OF BULK AT MOST 1048576: true; the input reads as it did. -/
def pegsJumpsUptoRow : OpenClaim := { program := "ytlkdblflibgfpaa", sum := "e7f8ab432f54f7f6e76961f4d8da755553b87a41632b72de4291f16b46e6b206", func := "gameroom/gameroomlaw.PegsJumps", spec := "pegsJumps", unfollowed := true, recurses := true, plainKeys := false, apart := false, narrowed := true }
def PegsJumpsUptoSaid : Prop := pegsJumpsUptoRow.holds Try.pinned (OpenSpec.upto pegsJumpsSpec)

/-- 'gameroomlaw.SlideMoves', WHERE WHAT IT READS IS OF BULK AT MOST 1048576: true; the input reads as it did. -/
def slideMovesUptoRow : OpenClaim := { program := "ytlkdblflibgfpaa", sum := "e7f8ab432f54f7f6e76961f4d8da755553b87a41632b72de4291f16b46e6b206", func := "gameroom/gameroomlaw.SlideMoves", spec := "slideMoves", unfollowed := true, recurses := true, plainKeys := false, apart := false, narrowed := true }
def SlideMovesUptoSaid : Prop := slideMovesUptoRow.holds Try.pinned (OpenSpec.upto slideMovesSpec)

/-- 'gameroomlaw.StonesPlays', WHERE WHAT IT READS IS OF BULK AT MOST 1048576: true; the input reads as it did. -/
def stonesPlaysUptoRow : OpenClaim := { program := "ytlkdblflibgfpaa", sum := "e7f8ab432f54f7f6e76961f4d8da755553b87a41632b72de4291f16b46e6b206", func := "gameroom/gameroomlaw.StonesPlays", spec := "stonesPlays", unfollowed := true, recurses := true, plainKeys := false, apart := false, narrowed := true }
def StonesPlaysUptoSaid : Prop := stonesPlaysUptoRow.holds Try.pinned (OpenSpec.upto stonesPlaysSpec)

/-- 'gameroomlaw.StonesAreas', WHERE WHAT IT READS IS OF BULK AT MOST 1048576: true; the input reads as it did. -/
def stonesAreasUptoRow : OpenClaim := { program := "ytlkdblflibgfpaa", sum := "e7f8ab432f54f7f6e76961f4d8da755553b87a41632b72de4291f16b46e6b206", func := "gameroom/gameroomlaw.StonesAreas", spec := "stonesAreas", unfollowed := true, recurses := true, plainKeys := false, apart := false, narrowed := true }
def StonesAreasUptoSaid : Prop := stonesAreasUptoRow.holds Try.pinned (OpenSpec.upto stonesAreasSpec)

/-- 'gameroomlaw.CribShows', WHERE WHAT IT READS IS OF BULK AT MOST 1048576: true; the input reads as it did. -/
def cribShowsUptoRow : OpenClaim := { program := "ytlkdblflibgfpaa", sum := "e7f8ab432f54f7f6e76961f4d8da755553b87a41632b72de4291f16b46e6b206", func := "gameroom/gameroomlaw.CribShows", spec := "cribShows", unfollowed := true, recurses := true, plainKeys := false, apart := false, narrowed := true }
def CribShowsUptoSaid : Prop := cribShowsUptoRow.holds Try.pinned (OpenSpec.upto cribShowsSpec)

/-- 'gameroomlaw.PegsSolves', WHERE WHAT IT READS IS OF BULK AT MOST 1048576: true; the input reads as it did. -/
def pegsSolvesUptoRow : OpenClaim := { program := "ytlkdblflibgfpaa", sum := "e7f8ab432f54f7f6e76961f4d8da755553b87a41632b72de4291f16b46e6b206", func := "gameroom/gameroomlaw.PegsSolves", spec := "pegsSolves", unfollowed := true, recurses := true, plainKeys := false, apart := false, narrowed := true }
def PegsSolvesUptoSaid : Prop := pegsSolvesUptoRow.holds Try.pinned (OpenSpec.upto pegsSolvesSpec)

/-- 'gameroomlaw.SlideHomes', WHERE WHAT IT READS IS OF BULK AT MOST 1048576: true; the input reads as it did. -/
def slideHomesUptoRow : OpenClaim := { program := "ytlkdblflibgfpaa", sum := "e7f8ab432f54f7f6e76961f4d8da755553b87a41632b72de4291f16b46e6b206", func := "gameroom/gameroomlaw.SlideHomes", spec := "slideHomes", unfollowed := true, recurses := true, plainKeys := false, apart := false, narrowed := true }
def SlideHomesUptoSaid : Prop := slideHomesUptoRow.holds Try.pinned (OpenSpec.upto slideHomesSpec)

/-- 'gameroomlaw.GammonMoves', WHERE WHAT IT READS IS OF BULK AT MOST 1048576: true; the input reads as it did. -/
def gammonMovesUptoRow : OpenClaim := { program := "ytlkdblflibgfpaa", sum := "e7f8ab432f54f7f6e76961f4d8da755553b87a41632b72de4291f16b46e6b206", func := "gameroom/gameroomlaw.GammonMoves", spec := "gammonMoves", unfollowed := true, recurses := true, plainKeys := false, apart := false, narrowed := true }
def GammonMovesUptoSaid : Prop := gammonMovesUptoRow.holds Try.pinned (OpenSpec.upto gammonMovesSpec)

/-- 'gameroomlaw.DraughtsWays', WHERE WHAT IT READS IS OF BULK AT MOST 1048576: true; the input reads as it did. -/
def draughtsWaysUptoRow : OpenClaim := { program := "ytlkdblflibgfpaa", sum := "e7f8ab432f54f7f6e76961f4d8da755553b87a41632b72de4291f16b46e6b206", func := "gameroom/gameroomlaw.DraughtsWays", spec := "draughtsWays", unfollowed := true, recurses := true, plainKeys := false, apart := false, narrowed := true }
def DraughtsWaysUptoSaid : Prop := draughtsWaysUptoRow.holds Try.pinned (OpenSpec.upto draughtsWaysSpec)

/-- 'gameroomlaw.CribKeeps', WHERE WHAT IT READS IS OF BULK AT MOST 1048576: true; the input reads as it did. -/
def cribKeepsUptoRow : OpenClaim := { program := "ytlkdblflibgfpaa", sum := "e7f8ab432f54f7f6e76961f4d8da755553b87a41632b72de4291f16b46e6b206", func := "gameroom/gameroomlaw.CribKeeps", spec := "cribKeeps", unfollowed := true, recurses := true, plainKeys := false, apart := false, narrowed := true }
def CribKeepsUptoSaid : Prop := cribKeepsUptoRow.holds Try.pinned (OpenSpec.upto cribKeepsSpec)

end Rows
end Go.Proofs.Ytlkdblflibgfpaa
