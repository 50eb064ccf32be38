/-
  NARROWER THAN 'FOR EVERY INPUT', by the rows' own cells (each row's printed sentence says how): TourWays: laid · TourCounts: laid · WordsHints: laid.
  DERIVED. THE GIVEN ROWS OF THIS SEAT. 3 by the template 'for every input the law returns true; each argument reads behind the call as it read before'; 0 by the template 'total and deterministic' (their statements: YtlpaklmfgldkoaaDoorTotals.lean).
  GIVEN WITH THE SEED: the statements are not yours to turn. If you find one false, say at which input.
  Laid BY PROGRAM, IN A SANDBOX (cutbox-rows.mjs): the forced cells as the released guide's own fill.sh prints them over the translation f1b8f0bfddd3b5b1… (all of the seat's roots in one cut). By AI agents, Wed Nov 11 2026. No macro, syntax, notation, axiom, sorry.
-/
import Derived.Test.YtlpaklmfgldkoaaDoorChecked
import GoSem.PinnedTables
import GoSem.Claim
import GoSem.ClaimJoined
import GoSem.ClaimMapViews
import Derived.JoinedTies
import Derived.KernelRfl
namespace Go.Proofs.YtlpaklmfgldkoaaDoor
/- THE CELL 'sum', in the pinned program and in every row, IS THE sha256 OF THE DUMP (.gsa) THAT YtlpaklmfgldkoaaDoorProg.lean LOADS. Nothing in Lean hashes anything: it is a label: what it is worth is what the hold of that sum in a sandbox is worth. -/
noncomputable def Tryd.pinned : Pinned := { name := "ytlpaklmfgldkoaadoor", sum := "f1b8f0bfddd3b5b1cec53c8413269e435f5c75a89ef52698ad3e371c7eccbe09", checked := Tryd.checked }
namespace Rows
def none {H : Type} : Left H := { results := [], args := [] }

/- WHAT THE LISTED PACKAGE-LEVEL VARIABLES READ AS WHEN THE CALL BEGINS. Each datum BY PROGRAM (the guide's laid-datum.mjs) off the statement by which the dump's own 'gosem.cut.vars' lays the variable. In a bare row this is a premise. The card (YtlpaklmfgldkoaaDoorCards.lean) ties it to the program's text. -/
def laid_gameroom_tour_leaps {H : Type} : DataW H := .agg [.agg [.lit (.int .i64 (-1)), .lit (.int .i64 (-2))], .agg [.lit (.int .i64 1), .lit (.int .i64 (-2))], .agg [.lit (.int .i64 (-2)), .lit (.int .i64 (-1))], .agg [.lit (.int .i64 2), .lit (.int .i64 (-1))], .agg [.lit (.int .i64 (-2)), .lit (.int .i64 1)], .agg [.lit (.int .i64 2), .lit (.int .i64 1)], .agg [.lit (.int .i64 (-1)), .lit (.int .i64 2)], .agg [.lit (.int .i64 1), .lit (.int .i64 2)]]
def laid_unicode_utf8_acceptRanges {H : Type} : DataW H := .agg [.agg [.lit (.int .u8 128), .lit (.int .u8 191)], .agg [.lit (.int .u8 160), .lit (.int .u8 191)], .agg [.lit (.int .u8 128), .lit (.int .u8 159)], .agg [.lit (.int .u8 144), .lit (.int .u8 191)], .agg [.lit (.int .u8 128), .lit (.int .u8 143)], .agg [.lit (.int .u8 0), .lit (.int .u8 0)], .agg [.lit (.int .u8 0), .lit (.int .u8 0)], .agg [.lit (.int .u8 0), .lit (.int .u8 0)], .agg [.lit (.int .u8 0), .lit (.int .u8 0)], .agg [.lit (.int .u8 0), .lit (.int .u8 0)], .agg [.lit (.int .u8 0), .lit (.int .u8 0)], .agg [.lit (.int .u8 0), .lit (.int .u8 0)], .agg [.lit (.int .u8 0), .lit (.int .u8 0)], .agg [.lit (.int .u8 0), .lit (.int .u8 0)], .agg [.lit (.int .u8 0), .lit (.int .u8 0)], .agg [.lit (.int .u8 0), .lit (.int .u8 0)]]
/-- One of Go's own tables, pinned by name: the form's constant. -/
def laid_unicode_utf8_first : DataW Unit := Go.Pinned.utf8First

/-- 'gameroomlaw.TourWays': WHATEVER THE INPUT: true; the input reads as it did. -/
def tourWaysSpec : ChangeSpec := { name := "tourWays", fn := fun _ => fun
  | [d1, d2, d3, d4] => { results := [.lit (.bool true)], args := [d1, d2, d3, d4] }
  | _ => none }
def tourWaysRow : OpenClaim := { program := "ytlpaklmfgldkoaadoor", sum := "f1b8f0bfddd3b5b1cec53c8413269e435f5c75a89ef52698ad3e371c7eccbe09", func := "gameroom/gameroomlaw.TourWays", spec := "tourWays", named := ["gameroom/tour.leaps"], apart := false, laid := [("gameroom/tour.leaps", laid_gameroom_tour_leaps)] }
def TourWaysSaid : Prop := tourWaysRow.holds Tryd.pinned (OpenSpec.ofChange tourWaysSpec)

/-- ITS FALSE NEIGHBOUR: 'it returns false'. Refute it at one input. -/
def tourWaysWrong : ChangeSpec := { name := "tourWays", fn := fun _ => fun
  | [d1, d2, d3, d4] => { results := [.lit (.bool false)], args := [d1, d2, d3, d4] }
  | _ => none }
def TourWaysWrongFalsely : Prop := tourWaysRow.holds Tryd.pinned (OpenSpec.ofChange tourWaysWrong)

/-- 'gameroomlaw.TourCounts': WHATEVER THE INPUT: true; the input reads as it did. -/
def tourCountsSpec : ChangeSpec := { name := "tourCounts", fn := fun _ => fun
  | [d1, d2, d3, d4, d5] => { results := [.lit (.bool true)], args := [d1, d2, d3, d4, d5] }
  | _ => none }
def tourCountsRow : OpenClaim := { program := "ytlpaklmfgldkoaadoor", sum := "f1b8f0bfddd3b5b1cec53c8413269e435f5c75a89ef52698ad3e371c7eccbe09", func := "gameroom/gameroomlaw.TourCounts", spec := "tourCounts", unfollowed := true, recurses := true, named := ["gameroom/tour.leaps"], apart := false, laid := [("gameroom/tour.leaps", laid_gameroom_tour_leaps)] }
def TourCountsSaid : Prop := tourCountsRow.holds Tryd.pinned (OpenSpec.ofChange tourCountsSpec)

/-- ITS FALSE NEIGHBOUR: 'it returns false'. Refute it at one input. -/
def tourCountsWrong : ChangeSpec := { name := "tourCounts", fn := fun _ => fun
  | [d1, d2, d3, d4, d5] => { results := [.lit (.bool false)], args := [d1, d2, d3, d4, d5] }
  | _ => none }
def TourCountsWrongFalsely : Prop := tourCountsRow.holds Tryd.pinned (OpenSpec.ofChange tourCountsWrong)

/-- 'gameroomlaw.WordsHints': WHATEVER THE INPUT: true; the input reads as it did. -/
def wordsHintsSpec : ChangeSpec := { name := "wordsHints", fn := fun _ => fun
  | [d1, d2, d3, d4] => { results := [.lit (.bool true)], args := [d1, d2, d3, d4] }
  | _ => none }
def wordsHintsRow : OpenClaim := { program := "ytlpaklmfgldkoaadoor", sum := "f1b8f0bfddd3b5b1cec53c8413269e435f5c75a89ef52698ad3e371c7eccbe09", func := "gameroom/gameroomlaw.WordsHints", spec := "wordsHints", unfollowed := true, recurses := true, named := ["unicode/utf8.first", "unicode/utf8.acceptRanges"], apart := false, laid := [("unicode/utf8.acceptRanges", laid_unicode_utf8_acceptRanges), ("unicode/utf8.first", laid_unicode_utf8_first)] }
def WordsHintsSaid : Prop := wordsHintsRow.holds Tryd.pinned (OpenSpec.ofChange wordsHintsSpec)

/-- ITS FALSE NEIGHBOUR: 'it returns false'. Refute it at one input. -/
def wordsHintsWrong : ChangeSpec := { name := "wordsHints", fn := fun _ => fun
  | [d1, d2, d3, d4] => { results := [.lit (.bool false)], args := [d1, d2, d3, d4] }
  | _ => none }
def WordsHintsWrongFalsely : Prop := wordsHintsRow.holds Tryd.pinned (OpenSpec.ofChange wordsHintsWrong)

/- THE SECOND FORM. 'bulk': how many values and letters a reading holds, each counted each time it is reached (what is shared counts as often as it is met; a slice's spare places count too). A statement '..UptoSaid' is the law's where the arguments, and the package variables that the reading takes, are together of bulk at most 1048576: NARROWER than '..Said'. Prove '..Said' where nothing that the law and all that it calls make is longer than what came in: it says more and counts as full. Else prove '..UptoSaid'. A law counts once. -/
mutual
def uptoBulk {H : Type} : DataW H → Nat
  | .lit (.string bytes) => bytes.length + 1
  | .lit _ => 1
  | .nil => 1
  | .ptr d => uptoBulk d + 1
  | .slice elems spare => uptoBulkAll elems + uptoBulkAll spare + 1
  | .agg parts => uptoBulkAll parts + 1
  | .iface _ d => uptoBulk d + 1
  | .map entries => uptoBulkEntries entries + 1
  | .held _ => 1
def uptoBulkAll {H : Type} : List (DataW H) → Nat
  | [] => 0
  | d :: r => uptoBulk d + uptoBulkAll r
def uptoBulkEntries {H : Type} : List (Lit × DataW H) → Nat
  | [] => 0
  | x :: r => uptoBulkEntry x + uptoBulkEntries r
def uptoBulkEntry {H : Type} : Lit × DataW H → Nat
  | (.string bytes, d) => bytes.length + uptoBulk d + 1
  | (_, d) => uptoBulk d + 1
 end
def uptoSmall : (H : Type) → List (DataW H) → Bool := fun _ ds => decide (uptoBulkAll ds ≤ 1048576)
def OpenSpec.upto (s : _root_.Go.ChangeSpec) : _root_.Go.OpenSpec := { _root_.Go.OpenSpec.ofChange s with cond := some uptoSmall }

/-- 'gameroomlaw.TourWays', WHERE WHAT IT READS IS OF BULK AT MOST 1048576: true; the input reads as it did. -/
def tourWaysUptoRow : OpenClaim := { program := "ytlpaklmfgldkoaadoor", sum := "f1b8f0bfddd3b5b1cec53c8413269e435f5c75a89ef52698ad3e371c7eccbe09", func := "gameroom/gameroomlaw.TourWays", spec := "tourWays", named := ["gameroom/tour.leaps"], apart := false, laid := [("gameroom/tour.leaps", laid_gameroom_tour_leaps)], narrowed := true }
def TourWaysUptoSaid : Prop := tourWaysUptoRow.holds Tryd.pinned (OpenSpec.upto tourWaysSpec)

/-- 'gameroomlaw.TourCounts', WHERE WHAT IT READS IS OF BULK AT MOST 1048576: true; the input reads as it did. -/
def tourCountsUptoRow : OpenClaim := { program := "ytlpaklmfgldkoaadoor", sum := "f1b8f0bfddd3b5b1cec53c8413269e435f5c75a89ef52698ad3e371c7eccbe09", func := "gameroom/gameroomlaw.TourCounts", spec := "tourCounts", unfollowed := true, recurses := true, named := ["gameroom/tour.leaps"], apart := false, laid := [("gameroom/tour.leaps", laid_gameroom_tour_leaps)], narrowed := true }
def TourCountsUptoSaid : Prop := tourCountsUptoRow.holds Tryd.pinned (OpenSpec.upto tourCountsSpec)

/-- 'gameroomlaw.WordsHints', WHERE WHAT IT READS IS OF BULK AT MOST 1048576: true; the input reads as it did. -/
def wordsHintsUptoRow : OpenClaim := { program := "ytlpaklmfgldkoaadoor", sum := "f1b8f0bfddd3b5b1cec53c8413269e435f5c75a89ef52698ad3e371c7eccbe09", func := "gameroom/gameroomlaw.WordsHints", spec := "wordsHints", unfollowed := true, recurses := true, named := ["unicode/utf8.first", "unicode/utf8.acceptRanges"], apart := false, laid := [("unicode/utf8.acceptRanges", laid_unicode_utf8_acceptRanges), ("unicode/utf8.first", laid_unicode_utf8_first)], narrowed := true }
def WordsHintsUptoSaid : Prop := wordsHintsUptoRow.holds Tryd.pinned (OpenSpec.upto wordsHintsSpec)

end Rows
end Go.Proofs.YtlpaklmfgldkoaaDoor
