/-
  DERIVED. GIVEN WITH THE SEED: THE CARDS: each row of YtlpaklmfgldkoaaDoorRows.lean that lists a variable, with what it lists TIED to the program's text (the seventh form; the later family's looks); each row that meets fmt, with fmt's text TOLD by the authors' own Lean function (tested against real Go, not proved from fmt's source: count such statements apart). THE CARD IS WHAT COUNTS. Prove the row's statement (the work); the ties are given (YtlpaklmfgldkoaaDoorTie.lean); close each card by the builder's one call (the guide's Derived/Test/ToyasCard.lean, 'card_holds'). Laid BY PROGRAM, IN A SANDBOX (cutbox-door.mjs). By AI agents, Wed Nov 11 2026. No macro, syntax, notation, axiom, sorry.
-/
import Derived.Test.YtlpaklmfgldkoaaDoorRows
import GoSem.ClaimSeven
namespace Go.Proofs.YtlpaklmfgldkoaaDoor
namespace Rows

/-- THE TIED CARD OF 'gameroomlaw.TourWays'. -/
def tourWaysCard : Claim7 := { stood := { row := tourWaysRow, standIns := [], harness := (true, "39dfd7786436e48738e3b6cf44a5ded338e26ae9d3b5514f249f3f476287c733"), looks := false }, kinds := [], alts := [], laidByText := true, laidKinds := [.data], laidTests := true, laidLooks := .later }
def TourWaysCardSaid : Prop := Claim7.holds Tryd.pinned (.plain (OpenSpec.ofChange tourWaysSpec)) tourWaysCard

/-- THE TIED CARD OF 'gameroomlaw.TourCounts'. -/
def tourCountsCard : Claim7 := { stood := { row := tourCountsRow, standIns := [], harness := (true, "39dfd7786436e48738e3b6cf44a5ded338e26ae9d3b5514f249f3f476287c733"), looks := false }, kinds := [], alts := [], laidByText := true, laidKinds := [.data], laidTests := true, laidLooks := .later }
def TourCountsCardSaid : Prop := Claim7.holds Tryd.pinned (.plain (OpenSpec.ofChange tourCountsSpec)) tourCountsCard

/-- THE TIED CARD OF 'gameroomlaw.WordsHints'. -/
def wordsHintsCard : Claim7 := { stood := { row := wordsHintsRow, standIns := [], harness := (true, "39dfd7786436e48738e3b6cf44a5ded338e26ae9d3b5514f249f3f476287c733"), looks := false }, kinds := [], alts := [], laidByText := true, laidKinds := [.data, .pinned], laidTests := true, laidLooks := .later }
def WordsHintsCardSaid : Prop := Claim7.holds Tryd.pinned (.plain (OpenSpec.ofChange wordsHintsSpec)) wordsHintsCard

/-- THE SECOND FORM's CARD OF 'gameroomlaw.TourWays'. -/
def tourWaysUptoCard : Claim7 := { stood := { row := tourWaysUptoRow, standIns := [], harness := (true, "39dfd7786436e48738e3b6cf44a5ded338e26ae9d3b5514f249f3f476287c733"), looks := false }, kinds := [], alts := [], laidByText := true, laidKinds := [.data], laidTests := true, laidLooks := .later }
def TourWaysUptoCardSaid : Prop := Claim7.holds Tryd.pinned (.plain (OpenSpec.upto tourWaysSpec)) tourWaysUptoCard

/-- THE SECOND FORM's CARD OF 'gameroomlaw.TourCounts'. -/
def tourCountsUptoCard : Claim7 := { stood := { row := tourCountsUptoRow, standIns := [], harness := (true, "39dfd7786436e48738e3b6cf44a5ded338e26ae9d3b5514f249f3f476287c733"), looks := false }, kinds := [], alts := [], laidByText := true, laidKinds := [.data], laidTests := true, laidLooks := .later }
def TourCountsUptoCardSaid : Prop := Claim7.holds Tryd.pinned (.plain (OpenSpec.upto tourCountsSpec)) tourCountsUptoCard

/-- THE SECOND FORM's CARD OF 'gameroomlaw.WordsHints'. -/
def wordsHintsUptoCard : Claim7 := { stood := { row := wordsHintsUptoRow, standIns := [], harness := (true, "39dfd7786436e48738e3b6cf44a5ded338e26ae9d3b5514f249f3f476287c733"), looks := false }, kinds := [], alts := [], laidByText := true, laidKinds := [.data, .pinned], laidTests := true, laidLooks := .later }
def WordsHintsUptoCardSaid : Prop := Claim7.holds Tryd.pinned (.plain (OpenSpec.upto wordsHintsSpec)) wordsHintsUptoCard
end Rows
end Go.Proofs.YtlpaklmfgldkoaaDoor
