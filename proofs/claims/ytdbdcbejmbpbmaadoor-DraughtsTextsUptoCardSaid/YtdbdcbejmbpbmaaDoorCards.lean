/-
  DERIVED. GIVEN WITH THE SEED: THE CARDS: each row of YtdbdcbejmbpbmaaDoorRows.lean that lists a variable, with what it lists TIED to the program's text (the seventh form; the later family's looks); each row that meets fmt, with fmt's text TOLD by the authors' own Lean function (tested against real Go, not proved from fmt's source: count such statements apart). THE CARD IS WHAT COUNTS. Prove the row's statement (the work); the ties are given (YtdbdcbejmbpbmaaDoorTie.lean); close each card by the builder's one call (the guide's Derived/Test/ToyasCard.lean, 'card_holds'). Laid BY PROGRAM, IN A SANDBOX (cutbox-door.mjs). By AI agents, Wed Nov 11 2026. No macro, syntax, notation, axiom, sorry.
-/
import Derived.Test.YtdbdcbejmbpbmaaDoorRows
import GoSem.ClaimSeven
namespace Go.Proofs.YtdbdcbejmbpbmaaDoor
namespace Rows

/-- THE TIED CARD OF 'gameroomlaw.WordsHints'. -/
def wordsHintsCard : Claim7 := { stood := { row := wordsHintsRow, standIns := [], harness := (true, "60052bceb8abf31b7e9fe1c8b0a935e90839f0c62fca816e811c7318d3b4b1cf"), looks := true }, kinds := [], alts := [], laidByText := true, laidKinds := [.data, .pinned], laidTests := true, laidLooks := .later }
def WordsHintsCardSaid : Prop := Claim7.holds Tryd.pinned (.plain (OpenSpec.ofChange wordsHintsSpec)) wordsHintsCard

/-- THE TIED CARD OF 'gameroomlaw.ClockTexts'. -/
def clockTextsCard : Claim7 := { stood := { row := clockTextsRow, standIns := [], harness := (true, "60052bceb8abf31b7e9fe1c8b0a935e90839f0c62fca816e811c7318d3b4b1cf"), looks := true }, kinds := [], alts := [], laidByText := true, laidKinds := [.data, .data, .data, .data, .sentinel, .sentinel, .pinned], laidTests := true, laidLooks := .later }
def ClockTextsCardSaid : Prop := Claim7.holds Tryd.pinned (.plain (OpenSpec.ofChange clockTextsSpec)) clockTextsCard

/-- THE TIED CARD OF 'gameroomlaw.WordsSorted'. -/
def wordsSortedCard : Claim7 := { stood := { row := wordsSortedRow, standIns := [], harness := (true, "60052bceb8abf31b7e9fe1c8b0a935e90839f0c62fca816e811c7318d3b4b1cf"), looks := true }, kinds := [], alts := [], laidByText := true, laidKinds := [.data, .pinned], laidTests := true, laidLooks := .later }
def WordsSortedCardSaid : Prop := Claim7.holds Tryd.pinned (.plain (OpenSpec.ofChange wordsSortedSpec)) wordsSortedCard

/-- THE TIED CARD OF 'gameroomlaw.WordsFit'. -/
def wordsFitCard : Claim7 := { stood := { row := wordsFitRow, standIns := [], harness := (true, "60052bceb8abf31b7e9fe1c8b0a935e90839f0c62fca816e811c7318d3b4b1cf"), looks := true }, kinds := [], alts := [], laidByText := true, laidKinds := [.data, .pinned], laidTests := true, laidLooks := .later }
def WordsFitCardSaid : Prop := Claim7.holds Tryd.pinned (.plain (OpenSpec.ofChange wordsFitSpec)) wordsFitCard

/-- THE TIED CARD OF 'gameroomlaw.RowsTexts'. -/
def rowsTextsCard : Claim7 := { stood := { row := rowsTextsRow, standIns := [], harness := (true, "60052bceb8abf31b7e9fe1c8b0a935e90839f0c62fca816e811c7318d3b4b1cf"), looks := true }, kinds := [], alts := [], laidByText := true, laidKinds := [.data, .pinned], laidTests := true, laidLooks := .later }
def RowsTextsCardSaid : Prop := Claim7.holds Tryd.pinned (.plain (OpenSpec.ofChange rowsTextsSpec)) rowsTextsCard

/-- THE TIED CARD OF 'gameroomlaw.DraughtsTexts'. -/
def draughtsTextsCard : Claim7 := { stood := { row := draughtsTextsRow, standIns := [], harness := (true, "60052bceb8abf31b7e9fe1c8b0a935e90839f0c62fca816e811c7318d3b4b1cf"), looks := true }, kinds := [], alts := [], laidByText := true, laidKinds := [.data, .data, .data, .data, .sentinel, .sentinel, .pinned], laidTests := true, laidLooks := .later }
def DraughtsTextsCardSaid : Prop := Claim7.holds Tryd.pinned (.plain (OpenSpec.ofChange draughtsTextsSpec)) draughtsTextsCard

/-- THE SECOND FORM's CARD OF 'gameroomlaw.WordsHints'. -/
def wordsHintsUptoCard : Claim7 := { stood := { row := wordsHintsUptoRow, standIns := [], harness := (true, "60052bceb8abf31b7e9fe1c8b0a935e90839f0c62fca816e811c7318d3b4b1cf"), looks := true }, kinds := [], alts := [], laidByText := true, laidKinds := [.data, .pinned], laidTests := true, laidLooks := .later }
def WordsHintsUptoCardSaid : Prop := Claim7.holds Tryd.pinned (.plain (OpenSpec.upto wordsHintsSpec)) wordsHintsUptoCard

/-- THE SECOND FORM's CARD OF 'gameroomlaw.ClockTexts'. -/
def clockTextsUptoCard : Claim7 := { stood := { row := clockTextsUptoRow, standIns := [], harness := (true, "60052bceb8abf31b7e9fe1c8b0a935e90839f0c62fca816e811c7318d3b4b1cf"), looks := true }, kinds := [], alts := [], laidByText := true, laidKinds := [.data, .data, .data, .data, .sentinel, .sentinel, .pinned], laidTests := true, laidLooks := .later }
def ClockTextsUptoCardSaid : Prop := Claim7.holds Tryd.pinned (.plain (OpenSpec.upto clockTextsSpec)) clockTextsUptoCard

/-- THE SECOND FORM's CARD OF 'gameroomlaw.WordsSorted'. -/
def wordsSortedUptoCard : Claim7 := { stood := { row := wordsSortedUptoRow, standIns := [], harness := (true, "60052bceb8abf31b7e9fe1c8b0a935e90839f0c62fca816e811c7318d3b4b1cf"), looks := true }, kinds := [], alts := [], laidByText := true, laidKinds := [.data, .pinned], laidTests := true, laidLooks := .later }
def WordsSortedUptoCardSaid : Prop := Claim7.holds Tryd.pinned (.plain (OpenSpec.upto wordsSortedSpec)) wordsSortedUptoCard

/-- THE SECOND FORM's CARD OF 'gameroomlaw.WordsFit'. -/
def wordsFitUptoCard : Claim7 := { stood := { row := wordsFitUptoRow, standIns := [], harness := (true, "60052bceb8abf31b7e9fe1c8b0a935e90839f0c62fca816e811c7318d3b4b1cf"), looks := true }, kinds := [], alts := [], laidByText := true, laidKinds := [.data, .pinned], laidTests := true, laidLooks := .later }
def WordsFitUptoCardSaid : Prop := Claim7.holds Tryd.pinned (.plain (OpenSpec.upto wordsFitSpec)) wordsFitUptoCard

/-- THE SECOND FORM's CARD OF 'gameroomlaw.RowsTexts'. -/
def rowsTextsUptoCard : Claim7 := { stood := { row := rowsTextsUptoRow, standIns := [], harness := (true, "60052bceb8abf31b7e9fe1c8b0a935e90839f0c62fca816e811c7318d3b4b1cf"), looks := true }, kinds := [], alts := [], laidByText := true, laidKinds := [.data, .pinned], laidTests := true, laidLooks := .later }
def RowsTextsUptoCardSaid : Prop := Claim7.holds Tryd.pinned (.plain (OpenSpec.upto rowsTextsSpec)) rowsTextsUptoCard

/-- THE SECOND FORM's CARD OF 'gameroomlaw.DraughtsTexts'. -/
def draughtsTextsUptoCard : Claim7 := { stood := { row := draughtsTextsUptoRow, standIns := [], harness := (true, "60052bceb8abf31b7e9fe1c8b0a935e90839f0c62fca816e811c7318d3b4b1cf"), looks := true }, kinds := [], alts := [], laidByText := true, laidKinds := [.data, .data, .data, .data, .sentinel, .sentinel, .pinned], laidTests := true, laidLooks := .later }
def DraughtsTextsUptoCardSaid : Prop := Claim7.holds Tryd.pinned (.plain (OpenSpec.upto draughtsTextsSpec)) draughtsTextsUptoCard
end Rows
end Go.Proofs.YtdbdcbejmbpbmaaDoor
