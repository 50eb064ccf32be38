/-
  No cell of these rows narrows 'for every input' (looked for: loops, veiled, ifaces, maps, wideKeys, modest, calm, conditions, laid).
  DERIVED. THE GIVEN ROWS OF THIS SEAT. 12 by the template 'for every input the law returns true; each argument reads behind the call as it read before'; 0 by the template 'total and deterministic' (their statements: YtnplejebgbdfpaaTotals.lean).
  GIVEN WITH THE SEED: the statements are not yours to turn. If you find one false, say at which input.
  Laid BY PROGRAM, IN A SANDBOX (cutbox-rows.mjs): the forced cells as the released guide's own fill.sh prints them over the translation 162e16f37f924ac5… (all of the seat's roots in one cut). By AI agents, Wed Nov 11 2026. No macro, syntax, notation, axiom, sorry.
-/
import Derived.Test.YtnplejebgbdfpaaChecked
import GoSem.Claim
import GoSem.ClaimJoined
import GoSem.ClaimMapViews
import Derived.JoinedTies
import Derived.KernelRfl
namespace Go.Proofs.Ytnplejebgbdfpaa
/- THE CELL 'sum', in the pinned program and in every row, IS THE sha256 OF THE DUMP (.gsa) THAT YtnplejebgbdfpaaProg.lean LOADS. Nothing in Lean hashes anything: it is a label: what it is worth is what the hold of that sum in a sandbox is worth. -/
noncomputable def Try.pinned : Pinned := { name := "ytnplejebgbdfpaa", sum := "162e16f37f924ac56b1e19fb90996a106cb960ebc279dd704b2784ed242cb566", checked := Try.checked }
namespace Rows
def none {H : Type} : Left H := { results := [], args := [] }

/-- 'gameroomlaw.DeckDeals': WHATEVER THE INPUT: true; the input reads as it did. -/
def deckDealsSpec : ChangeSpec := { name := "deckDeals", fn := fun _ => fun
  | [d1, d2, d3] => { results := [.lit (.bool true)], args := [d1, d2, d3] }
  | _ => none }
def deckDealsRow : OpenClaim := { program := "ytnplejebgbdfpaa", sum := "162e16f37f924ac56b1e19fb90996a106cb960ebc279dd704b2784ed242cb566", func := "gameroom/gameroomlaw.DeckDeals", spec := "deckDeals", plainKeys := false, apart := false }
def DeckDealsSaid : Prop := deckDealsRow.holds Try.pinned (OpenSpec.ofChange deckDealsSpec)

/-- ITS FALSE NEIGHBOUR: 'it returns false'. Refute it at one input. -/
def deckDealsWrong : ChangeSpec := { name := "deckDeals", fn := fun _ => fun
  | [d1, d2, d3] => { results := [.lit (.bool false)], args := [d1, d2, d3] }
  | _ => none }
def DeckDealsWrongFalsely : Prop := deckDealsRow.holds Try.pinned (OpenSpec.ofChange deckDealsWrong)

/-- 'gameroomlaw.PokerCounts': WHATEVER THE INPUT: true; the input reads as it did. -/
def pokerCountsSpec : ChangeSpec := { name := "pokerCounts", fn := fun _ => fun
  | [d] => { results := [.lit (.bool true)], args := [d] }
  | _ => none }
def pokerCountsRow : OpenClaim := { program := "ytnplejebgbdfpaa", sum := "162e16f37f924ac56b1e19fb90996a106cb960ebc279dd704b2784ed242cb566", func := "gameroom/gameroomlaw.PokerCounts", spec := "pokerCounts", recurses := true, plainKeys := false, apart := false }
def PokerCountsSaid : Prop := pokerCountsRow.holds Try.pinned (OpenSpec.ofChange pokerCountsSpec)

/-- ITS FALSE NEIGHBOUR: 'it returns false'. Refute it at one input. -/
def pokerCountsWrong : ChangeSpec := { name := "pokerCounts", fn := fun _ => fun
  | [d] => { results := [.lit (.bool false)], args := [d] }
  | _ => none }
def PokerCountsWrongFalsely : Prop := pokerCountsRow.holds Try.pinned (OpenSpec.ofChange pokerCountsWrong)

/-- 'gameroomlaw.DiceExplodes': WHATEVER THE INPUT: true; the input reads as it did. -/
def diceExplodesSpec : ChangeSpec := { name := "diceExplodes", fn := fun _ => fun
  | [d1, d2] => { results := [.lit (.bool true)], args := [d1, d2] }
  | _ => none }
def diceExplodesRow : OpenClaim := { program := "ytnplejebgbdfpaa", sum := "162e16f37f924ac56b1e19fb90996a106cb960ebc279dd704b2784ed242cb566", func := "gameroom/gameroomlaw.DiceExplodes", spec := "diceExplodes", plainKeys := false, apart := false }
def DiceExplodesSaid : Prop := diceExplodesRow.holds Try.pinned (OpenSpec.ofChange diceExplodesSpec)

/-- ITS FALSE NEIGHBOUR: 'it returns false'. Refute it at one input. -/
def diceExplodesWrong : ChangeSpec := { name := "diceExplodes", fn := fun _ => fun
  | [d1, d2] => { results := [.lit (.bool false)], args := [d1, d2] }
  | _ => none }
def DiceExplodesWrongFalsely : Prop := diceExplodesRow.holds Try.pinned (OpenSpec.ofChange diceExplodesWrong)

/-- 'gameroomlaw.DiceKeeps': WHATEVER THE INPUT: true; the input reads as it did. -/
def diceKeepsSpec : ChangeSpec := { name := "diceKeeps", fn := fun _ => fun
  | [d1, d2, d3] => { results := [.lit (.bool true)], args := [d1, d2, d3] }
  | _ => none }
def diceKeepsRow : OpenClaim := { program := "ytnplejebgbdfpaa", sum := "162e16f37f924ac56b1e19fb90996a106cb960ebc279dd704b2784ed242cb566", func := "gameroom/gameroomlaw.DiceKeeps", spec := "diceKeeps", unfollowed := true, recurses := true, plainKeys := false, apart := false }
def DiceKeepsSaid : Prop := diceKeepsRow.holds Try.pinned (OpenSpec.ofChange diceKeepsSpec)

/-- ITS FALSE NEIGHBOUR: 'it returns false'. Refute it at one input. -/
def diceKeepsWrong : ChangeSpec := { name := "diceKeeps", fn := fun _ => fun
  | [d1, d2, d3] => { results := [.lit (.bool false)], args := [d1, d2, d3] }
  | _ => none }
def DiceKeepsWrongFalsely : Prop := diceKeepsRow.holds Try.pinned (OpenSpec.ofChange diceKeepsWrong)

/-- 'gameroomlaw.DeckOrders': WHATEVER THE INPUT: true; the input reads as it did. -/
def deckOrdersSpec : ChangeSpec := { name := "deckOrders", fn := fun _ => fun
  | [d1, d2] => { results := [.lit (.bool true)], args := [d1, d2] }
  | _ => none }
def deckOrdersRow : OpenClaim := { program := "ytnplejebgbdfpaa", sum := "162e16f37f924ac56b1e19fb90996a106cb960ebc279dd704b2784ed242cb566", func := "gameroom/gameroomlaw.DeckOrders", spec := "deckOrders", plainKeys := false, apart := false }
def DeckOrdersSaid : Prop := deckOrdersRow.holds Try.pinned (OpenSpec.ofChange deckOrdersSpec)

/-- ITS FALSE NEIGHBOUR: 'it returns false'. Refute it at one input. -/
def deckOrdersWrong : ChangeSpec := { name := "deckOrders", fn := fun _ => fun
  | [d1, d2] => { results := [.lit (.bool false)], args := [d1, d2] }
  | _ => none }
def DeckOrdersWrongFalsely : Prop := deckOrdersRow.holds Try.pinned (OpenSpec.ofChange deckOrdersWrong)

/-- 'gameroomlaw.BridgeScores': WHATEVER THE INPUT: true; the input reads as it did. -/
def bridgeScoresSpec : ChangeSpec := { name := "bridgeScores", fn := fun _ => fun
  | [d1, d2, d3] => { results := [.lit (.bool true)], args := [d1, d2, d3] }
  | _ => none }
def bridgeScoresRow : OpenClaim := { program := "ytnplejebgbdfpaa", sum := "162e16f37f924ac56b1e19fb90996a106cb960ebc279dd704b2784ed242cb566", func := "gameroom/gameroomlaw.BridgeScores", spec := "bridgeScores", plainKeys := false, apart := false }
def BridgeScoresSaid : Prop := bridgeScoresRow.holds Try.pinned (OpenSpec.ofChange bridgeScoresSpec)

/-- ITS FALSE NEIGHBOUR: 'it returns false'. Refute it at one input. -/
def bridgeScoresWrong : ChangeSpec := { name := "bridgeScores", fn := fun _ => fun
  | [d1, d2, d3] => { results := [.lit (.bool false)], args := [d1, d2, d3] }
  | _ => none }
def BridgeScoresWrongFalsely : Prop := bridgeScoresRow.holds Try.pinned (OpenSpec.ofChange bridgeScoresWrong)

/-- 'gameroomlaw.FourCounts': WHATEVER THE INPUT: true; the input reads as it did. -/
def fourCountsSpec : ChangeSpec := { name := "fourCounts", fn := fun _ => fun
  | [d1, d2, d3, d4] => { results := [.lit (.bool true)], args := [d1, d2, d3, d4] }
  | _ => none }
def fourCountsRow : OpenClaim := { program := "ytnplejebgbdfpaa", sum := "162e16f37f924ac56b1e19fb90996a106cb960ebc279dd704b2784ed242cb566", func := "gameroom/gameroomlaw.FourCounts", spec := "fourCounts", unfollowed := true, recurses := true, plainKeys := false, apart := false }
def FourCountsSaid : Prop := fourCountsRow.holds Try.pinned (OpenSpec.ofChange fourCountsSpec)

/-- ITS FALSE NEIGHBOUR: 'it returns false'. Refute it at one input. -/
def fourCountsWrong : ChangeSpec := { name := "fourCounts", fn := fun _ => fun
  | [d1, d2, d3, d4] => { results := [.lit (.bool false)], args := [d1, d2, d3, d4] }
  | _ => none }
def FourCountsWrongFalsely : Prop := fourCountsRow.holds Try.pinned (OpenSpec.ofChange fourCountsWrong)

/-- 'gameroomlaw.DeckRiffles': WHATEVER THE INPUT: true; the input reads as it did. -/
def deckRifflesSpec : ChangeSpec := { name := "deckRiffles", fn := fun _ => fun
  | [d1, d2, d3] => { results := [.lit (.bool true)], args := [d1, d2, d3] }
  | _ => none }
def deckRifflesRow : OpenClaim := { program := "ytnplejebgbdfpaa", sum := "162e16f37f924ac56b1e19fb90996a106cb960ebc279dd704b2784ed242cb566", func := "gameroom/gameroomlaw.DeckRiffles", spec := "deckRiffles", plainKeys := false, apart := false }
def DeckRifflesSaid : Prop := deckRifflesRow.holds Try.pinned (OpenSpec.ofChange deckRifflesSpec)

/-- ITS FALSE NEIGHBOUR: 'it returns false'. Refute it at one input. -/
def deckRifflesWrong : ChangeSpec := { name := "deckRiffles", fn := fun _ => fun
  | [d1, d2, d3] => { results := [.lit (.bool false)], args := [d1, d2, d3] }
  | _ => none }
def DeckRifflesWrongFalsely : Prop := deckRifflesRow.holds Try.pinned (OpenSpec.ofChange deckRifflesWrong)

/-- 'gameroomlaw.DominoSets': WHATEVER THE INPUT: true; the input reads as it did. -/
def dominoSetsSpec : ChangeSpec := { name := "dominoSets", fn := fun _ => fun
  | [d1, d2] => { results := [.lit (.bool true)], args := [d1, d2] }
  | _ => none }
def dominoSetsRow : OpenClaim := { program := "ytnplejebgbdfpaa", sum := "162e16f37f924ac56b1e19fb90996a106cb960ebc279dd704b2784ed242cb566", func := "gameroom/gameroomlaw.DominoSets", spec := "dominoSets", unfollowed := true, recurses := true, plainKeys := false, apart := false }
def DominoSetsSaid : Prop := dominoSetsRow.holds Try.pinned (OpenSpec.ofChange dominoSetsSpec)

/-- ITS FALSE NEIGHBOUR: 'it returns false'. Refute it at one input. -/
def dominoSetsWrong : ChangeSpec := { name := "dominoSets", fn := fun _ => fun
  | [d1, d2] => { results := [.lit (.bool false)], args := [d1, d2] }
  | _ => none }
def DominoSetsWrongFalsely : Prop := dominoSetsRow.holds Try.pinned (OpenSpec.ofChange dominoSetsWrong)

/-- 'gameroomlaw.DiceSums': WHATEVER THE INPUT: true; the input reads as it did. -/
def diceSumsSpec : ChangeSpec := { name := "diceSums", fn := fun _ => fun
  | [d1, d2, d3] => { results := [.lit (.bool true)], args := [d1, d2, d3] }
  | _ => none }
def diceSumsRow : OpenClaim := { program := "ytnplejebgbdfpaa", sum := "162e16f37f924ac56b1e19fb90996a106cb960ebc279dd704b2784ed242cb566", func := "gameroom/gameroomlaw.DiceSums", spec := "diceSums", unfollowed := true, recurses := true, plainKeys := false, apart := false }
def DiceSumsSaid : Prop := diceSumsRow.holds Try.pinned (OpenSpec.ofChange diceSumsSpec)

/-- ITS FALSE NEIGHBOUR: 'it returns false'. Refute it at one input. -/
def diceSumsWrong : ChangeSpec := { name := "diceSums", fn := fun _ => fun
  | [d1, d2, d3] => { results := [.lit (.bool false)], args := [d1, d2, d3] }
  | _ => none }
def DiceSumsWrongFalsely : Prop := diceSumsRow.holds Try.pinned (OpenSpec.ofChange diceSumsWrong)

/-- 'gameroomlaw.BridgeAuctions': WHATEVER THE INPUT: true; the input reads as it did. -/
def bridgeAuctionsSpec : ChangeSpec := { name := "bridgeAuctions", fn := fun _ => fun
  | [d] => { results := [.lit (.bool true)], args := [d] }
  | _ => none }
def bridgeAuctionsRow : OpenClaim := { program := "ytnplejebgbdfpaa", sum := "162e16f37f924ac56b1e19fb90996a106cb960ebc279dd704b2784ed242cb566", func := "gameroom/gameroomlaw.BridgeAuctions", spec := "bridgeAuctions", plainKeys := false, apart := false }
def BridgeAuctionsSaid : Prop := bridgeAuctionsRow.holds Try.pinned (OpenSpec.ofChange bridgeAuctionsSpec)

/-- ITS FALSE NEIGHBOUR: 'it returns false'. Refute it at one input. -/
def bridgeAuctionsWrong : ChangeSpec := { name := "bridgeAuctions", fn := fun _ => fun
  | [d] => { results := [.lit (.bool false)], args := [d] }
  | _ => none }
def BridgeAuctionsWrongFalsely : Prop := bridgeAuctionsRow.holds Try.pinned (OpenSpec.ofChange bridgeAuctionsWrong)

/-- 'gameroomlaw.CoverSquares': WHATEVER THE INPUT: true; the input reads as it did. -/
def coverSquaresSpec : ChangeSpec := { name := "coverSquares", fn := fun _ => fun
  | [d1, d2, d3] => { results := [.lit (.bool true)], args := [d1, d2, d3] }
  | _ => none }
def coverSquaresRow : OpenClaim := { program := "ytnplejebgbdfpaa", sum := "162e16f37f924ac56b1e19fb90996a106cb960ebc279dd704b2784ed242cb566", func := "gameroom/gameroomlaw.CoverSquares", spec := "coverSquares", unfollowed := true, recurses := true, plainKeys := false, apart := false }
def CoverSquaresSaid : Prop := coverSquaresRow.holds Try.pinned (OpenSpec.ofChange coverSquaresSpec)

/-- ITS FALSE NEIGHBOUR: 'it returns false'. Refute it at one input. -/
def coverSquaresWrong : ChangeSpec := { name := "coverSquares", fn := fun _ => fun
  | [d1, d2, d3] => { results := [.lit (.bool false)], args := [d1, d2, d3] }
  | _ => none }
def CoverSquaresWrongFalsely : Prop := coverSquaresRow.holds Try.pinned (OpenSpec.ofChange coverSquaresWrong)

/- THE SECOND FORM. 'bulk': how many values and letters a reading holds, each counted each time it is reached (what is shared counts as often as it is met; a slice's spare places count too). A statement '..UptoSaid' is the law's where the arguments, and the package variables that the reading takes, are together of bulk at most 1048576: NARROWER than '..Said'. Prove '..Said' where nothing that the law and all that it calls make is longer than what came in: it says more and counts as full. Else prove '..UptoSaid'. A law counts once. -/
mutual
def uptoBulk {H : Type} : DataW H → Nat
  | .lit (.string bytes) => bytes.length + 1
  | .lit _ => 1
  | .nil => 1
  | .ptr d => uptoBulk d + 1
  | .slice elems spare => uptoBulkAll elems + uptoBulkAll spare + 1
  | .agg parts => uptoBulkAll parts + 1
  | .iface _ d => uptoBulk d + 1
  | .map entries => uptoBulkEntries entries + 1
  | .held _ => 1
def uptoBulkAll {H : Type} : List (DataW H) → Nat
  | [] => 0
  | d :: r => uptoBulk d + uptoBulkAll r
def uptoBulkEntries {H : Type} : List (Lit × DataW H) → Nat
  | [] => 0
  | x :: r => uptoBulkEntry x + uptoBulkEntries r
def uptoBulkEntry {H : Type} : Lit × DataW H → Nat
  | (.string bytes, d) => bytes.length + uptoBulk d + 1
  | (_, d) => uptoBulk d + 1
 end
def uptoSmall : (H : Type) → List (DataW H) → Bool := fun _ ds => decide (uptoBulkAll ds ≤ 1048576)
def OpenSpec.upto (s : _root_.Go.ChangeSpec) : _root_.Go.OpenSpec := { _root_.Go.OpenSpec.ofChange s with cond := some uptoSmall }

/-- 'gameroomlaw.DeckDeals', WHERE WHAT IT READS IS OF BULK AT MOST 1048576: true; the input reads as it did. -/
def deckDealsUptoRow : OpenClaim := { program := "ytnplejebgbdfpaa", sum := "162e16f37f924ac56b1e19fb90996a106cb960ebc279dd704b2784ed242cb566", func := "gameroom/gameroomlaw.DeckDeals", spec := "deckDeals", plainKeys := false, apart := false, narrowed := true }
def DeckDealsUptoSaid : Prop := deckDealsUptoRow.holds Try.pinned (OpenSpec.upto deckDealsSpec)

/-- 'gameroomlaw.PokerCounts', WHERE WHAT IT READS IS OF BULK AT MOST 1048576: true; the input reads as it did. -/
def pokerCountsUptoRow : OpenClaim := { program := "ytnplejebgbdfpaa", sum := "162e16f37f924ac56b1e19fb90996a106cb960ebc279dd704b2784ed242cb566", func := "gameroom/gameroomlaw.PokerCounts", spec := "pokerCounts", recurses := true, plainKeys := false, apart := false, narrowed := true }
def PokerCountsUptoSaid : Prop := pokerCountsUptoRow.holds Try.pinned (OpenSpec.upto pokerCountsSpec)

/-- 'gameroomlaw.DiceExplodes', WHERE WHAT IT READS IS OF BULK AT MOST 1048576: true; the input reads as it did. -/
def diceExplodesUptoRow : OpenClaim := { program := "ytnplejebgbdfpaa", sum := "162e16f37f924ac56b1e19fb90996a106cb960ebc279dd704b2784ed242cb566", func := "gameroom/gameroomlaw.DiceExplodes", spec := "diceExplodes", plainKeys := false, apart := false, narrowed := true }
def DiceExplodesUptoSaid : Prop := diceExplodesUptoRow.holds Try.pinned (OpenSpec.upto diceExplodesSpec)

/-- 'gameroomlaw.DiceKeeps', WHERE WHAT IT READS IS OF BULK AT MOST 1048576: true; the input reads as it did. -/
def diceKeepsUptoRow : OpenClaim := { program := "ytnplejebgbdfpaa", sum := "162e16f37f924ac56b1e19fb90996a106cb960ebc279dd704b2784ed242cb566", func := "gameroom/gameroomlaw.DiceKeeps", spec := "diceKeeps", unfollowed := true, recurses := true, plainKeys := false, apart := false, narrowed := true }
def DiceKeepsUptoSaid : Prop := diceKeepsUptoRow.holds Try.pinned (OpenSpec.upto diceKeepsSpec)

/-- 'gameroomlaw.DeckOrders', WHERE WHAT IT READS IS OF BULK AT MOST 1048576: true; the input reads as it did. -/
def deckOrdersUptoRow : OpenClaim := { program := "ytnplejebgbdfpaa", sum := "162e16f37f924ac56b1e19fb90996a106cb960ebc279dd704b2784ed242cb566", func := "gameroom/gameroomlaw.DeckOrders", spec := "deckOrders", plainKeys := false, apart := false, narrowed := true }
def DeckOrdersUptoSaid : Prop := deckOrdersUptoRow.holds Try.pinned (OpenSpec.upto deckOrdersSpec)

/-- 'gameroomlaw.BridgeScores', WHERE WHAT IT READS IS OF BULK AT MOST 1048576: true; the input reads as it did. -/
def bridgeScoresUptoRow : OpenClaim := { program := "ytnplejebgbdfpaa", sum := "162e16f37f924ac56b1e19fb90996a106cb960ebc279dd704b2784ed242cb566", func := "gameroom/gameroomlaw.BridgeScores", spec := "bridgeScores", plainKeys := false, apart := false, narrowed := true }
def BridgeScoresUptoSaid : Prop := bridgeScoresUptoRow.holds Try.pinned (OpenSpec.upto bridgeScoresSpec)

/-- 'gameroomlaw.FourCounts', WHERE WHAT IT READS IS OF BULK AT MOST 1048576: true; the input reads as it did. -/
def fourCountsUptoRow : OpenClaim := { program := "ytnplejebgbdfpaa", sum := "162e16f37f924ac56b1e19fb90996a106cb960ebc279dd704b2784ed242cb566", func := "gameroom/gameroomlaw.FourCounts", spec := "fourCounts", unfollowed := true, recurses := true, plainKeys := false, apart := false, narrowed := true }
def FourCountsUptoSaid : Prop := fourCountsUptoRow.holds Try.pinned (OpenSpec.upto fourCountsSpec)

/-- 'gameroomlaw.DeckRiffles', WHERE WHAT IT READS IS OF BULK AT MOST 1048576: true; the input reads as it did. -/
def deckRifflesUptoRow : OpenClaim := { program := "ytnplejebgbdfpaa", sum := "162e16f37f924ac56b1e19fb90996a106cb960ebc279dd704b2784ed242cb566", func := "gameroom/gameroomlaw.DeckRiffles", spec := "deckRiffles", plainKeys := false, apart := false, narrowed := true }
def DeckRifflesUptoSaid : Prop := deckRifflesUptoRow.holds Try.pinned (OpenSpec.upto deckRifflesSpec)

/-- 'gameroomlaw.DominoSets', WHERE WHAT IT READS IS OF BULK AT MOST 1048576: true; the input reads as it did. -/
def dominoSetsUptoRow : OpenClaim := { program := "ytnplejebgbdfpaa", sum := "162e16f37f924ac56b1e19fb90996a106cb960ebc279dd704b2784ed242cb566", func := "gameroom/gameroomlaw.DominoSets", spec := "dominoSets", unfollowed := true, recurses := true, plainKeys := false, apart := false, narrowed := true }
def DominoSetsUptoSaid : Prop := dominoSetsUptoRow.holds Try.pinned (OpenSpec.upto dominoSetsSpec)

/-- 'gameroomlaw.DiceSums', WHERE WHAT IT READS IS OF BULK AT MOST 1048576: true; the input reads as it did. -/
def diceSumsUptoRow : OpenClaim := { program := "ytnplejebgbdfpaa", sum := "162e16f37f924ac56b1e19fb90996a106cb960ebc279dd704b2784ed242cb566", func := "gameroom/gameroomlaw.DiceSums", spec := "diceSums", unfollowed := true, recurses := true, plainKeys := false, apart := false, narrowed := true }
def DiceSumsUptoSaid : Prop := diceSumsUptoRow.holds Try.pinned (OpenSpec.upto diceSumsSpec)

/-- 'gameroomlaw.BridgeAuctions', WHERE WHAT IT READS IS OF BULK AT MOST 1048576: true; the input reads as it did. -/
def bridgeAuctionsUptoRow : OpenClaim := { program := "ytnplejebgbdfpaa", sum := "162e16f37f924ac56b1e19fb90996a106cb960ebc279dd704b2784ed242cb566", func := "gameroom/gameroomlaw.BridgeAuctions", spec := "bridgeAuctions", plainKeys := false, apart := false, narrowed := true }
def BridgeAuctionsUptoSaid : Prop := bridgeAuctionsUptoRow.holds Try.pinned (OpenSpec.upto bridgeAuctionsSpec)

/-- 'gameroomlaw.CoverSquares', WHERE WHAT IT READS IS OF BULK AT MOST 1048576: true; the input reads as it did. -/
def coverSquaresUptoRow : OpenClaim := { program := "ytnplejebgbdfpaa", sum := "162e16f37f924ac56b1e19fb90996a106cb960ebc279dd704b2784ed242cb566", func := "gameroom/gameroomlaw.CoverSquares", spec := "coverSquares", unfollowed := true, recurses := true, plainKeys := false, apart := false, narrowed := true }
def CoverSquaresUptoSaid : Prop := coverSquaresUptoRow.holds Try.pinned (OpenSpec.upto coverSquaresSpec)

end Rows
end Go.Proofs.Ytnplejebgbdfpaa
