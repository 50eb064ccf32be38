/-
  No cell of these rows narrows 'for every input' (looked for: loops, veiled, ifaces, maps, wideKeys, modest, calm, conditions, laid).
  DERIVED. THE GIVEN ROWS OF THIS SEAT. 5 by the template 'for every input the law returns true; each argument reads behind the call as it read before'; 0 by the template 'total and deterministic' (their statements: YtkpkkdpfcbnfdaaTotals.lean).
  GIVEN WITH THE SEED: the statements are not yours to turn. If you find one false, say at which input.
  Laid BY PROGRAM, IN A SANDBOX (cutbox-rows.mjs): the forced cells as the released guide's own fill.sh prints them over the translation 5dd6f3a50b254cc9… (all of the seat's roots in one cut). By AI agents, Wed Nov 11 2026. No macro, syntax, notation, axiom, sorry.
-/
import Derived.Test.YtkpkkdpfcbnfdaaChecked
import GoSem.Claim
import GoSem.ClaimJoined
import GoSem.ClaimMapViews
import Derived.JoinedTies
import Derived.KernelRfl
namespace Go.Proofs.Ytkpkkdpfcbnfdaa
/- THE CELL 'sum', in the pinned program and in every row, IS THE sha256 OF THE DUMP (.gsa) THAT YtkpkkdpfcbnfdaaProg.lean LOADS. Nothing in Lean hashes anything: it is a label: what it is worth is what the hold of that sum in a sandbox is worth. -/
noncomputable def Try.pinned : Pinned := { name := "ytkpkkdpfcbnfdaa", sum := "5dd6f3a50b254cc909b6109034719e95b6d97ccad9f27694c29da2fa86392e0f", checked := Try.checked }
namespace Rows
def none {H : Type} : Left H := { results := [], args := [] }

/-- 'gameroomlaw.CoverSudokus': WHATEVER THE INPUT: true; the input reads as it did. -/
def coverSudokusSpec : ChangeSpec := { name := "coverSudokus", fn := fun _ => fun
  | [d1, d2] => { results := [.lit (.bool true)], args := [d1, d2] }
  | _ => none }
def coverSudokusRow : OpenClaim := { program := "ytkpkkdpfcbnfdaa", sum := "5dd6f3a50b254cc909b6109034719e95b6d97ccad9f27694c29da2fa86392e0f", func := "gameroom/gameroomlaw.CoverSudokus", spec := "coverSudokus", unfollowed := true, recurses := true, plainKeys := false, apart := false }
def CoverSudokusSaid : Prop := coverSudokusRow.holds Try.pinned (OpenSpec.ofChange coverSudokusSpec)

/-- ITS FALSE NEIGHBOUR: 'it returns false'. Refute it at one input. -/
def coverSudokusWrong : ChangeSpec := { name := "coverSudokus", fn := fun _ => fun
  | [d1, d2] => { results := [.lit (.bool false)], args := [d1, d2] }
  | _ => none }
def CoverSudokusWrongFalsely : Prop := coverSudokusRow.holds Try.pinned (OpenSpec.ofChange coverSudokusWrong)

/-- 'gameroomlaw.SlideHomes': WHATEVER THE INPUT: true; the input reads as it did. -/
def slideHomesSpec : ChangeSpec := { name := "slideHomes", fn := fun _ => fun
  | [d1, d2, d3, d4] => { results := [.lit (.bool true)], args := [d1, d2, d3, d4] }
  | _ => none }
def slideHomesRow : OpenClaim := { program := "ytkpkkdpfcbnfdaa", sum := "5dd6f3a50b254cc909b6109034719e95b6d97ccad9f27694c29da2fa86392e0f", func := "gameroom/gameroomlaw.SlideHomes", spec := "slideHomes", unfollowed := true, recurses := true, plainKeys := false, apart := false }
def SlideHomesSaid : Prop := slideHomesRow.holds Try.pinned (OpenSpec.ofChange slideHomesSpec)

/-- ITS FALSE NEIGHBOUR: 'it returns false'. Refute it at one input. -/
def slideHomesWrong : ChangeSpec := { name := "slideHomes", fn := fun _ => fun
  | [d1, d2, d3, d4] => { results := [.lit (.bool false)], args := [d1, d2, d3, d4] }
  | _ => none }
def SlideHomesWrongFalsely : Prop := slideHomesRow.holds Try.pinned (OpenSpec.ofChange slideHomesWrong)

/-- 'gameroomlaw.EndingsTell': WHATEVER THE INPUT: true; the input reads as it did. -/
def endingsTellSpec : ChangeSpec := { name := "endingsTell", fn := fun _ => fun
  | [d1, d2, d3] => { results := [.lit (.bool true)], args := [d1, d2, d3] }
  | _ => none }
def endingsTellRow : OpenClaim := { program := "ytkpkkdpfcbnfdaa", sum := "5dd6f3a50b254cc909b6109034719e95b6d97ccad9f27694c29da2fa86392e0f", func := "gameroom/gameroomlaw.EndingsTell", spec := "endingsTell", unfollowed := true, recurses := true, plainKeys := false, apart := false }
def EndingsTellSaid : Prop := endingsTellRow.holds Try.pinned (OpenSpec.ofChange endingsTellSpec)

/-- ITS FALSE NEIGHBOUR: 'it returns false'. Refute it at one input. -/
def endingsTellWrong : ChangeSpec := { name := "endingsTell", fn := fun _ => fun
  | [d1, d2, d3] => { results := [.lit (.bool false)], args := [d1, d2, d3] }
  | _ => none }
def EndingsTellWrongFalsely : Prop := endingsTellRow.holds Try.pinned (OpenSpec.ofChange endingsTellWrong)

/-- 'gameroomlaw.MovesPlays': WHATEVER THE INPUT: true; the input reads as it did. -/
def movesPlaysSpec : ChangeSpec := { name := "movesPlays", fn := fun _ => fun
  | [d1, d2] => { results := [.lit (.bool true)], args := [d1, d2] }
  | _ => none }
def movesPlaysRow : OpenClaim := { program := "ytkpkkdpfcbnfdaa", sum := "5dd6f3a50b254cc909b6109034719e95b6d97ccad9f27694c29da2fa86392e0f", func := "gameroom/gameroomlaw.MovesPlays", spec := "movesPlays", unfollowed := true, recurses := true, plainKeys := false, apart := false }
def MovesPlaysSaid : Prop := movesPlaysRow.holds Try.pinned (OpenSpec.ofChange movesPlaysSpec)

/-- ITS FALSE NEIGHBOUR: 'it returns false'. Refute it at one input. -/
def movesPlaysWrong : ChangeSpec := { name := "movesPlays", fn := fun _ => fun
  | [d1, d2] => { results := [.lit (.bool false)], args := [d1, d2] }
  | _ => none }
def MovesPlaysWrongFalsely : Prop := movesPlaysRow.holds Try.pinned (OpenSpec.ofChange movesPlaysWrong)

/-- 'gameroomlaw.CoverCounts': WHATEVER THE INPUT: true; the input reads as it did. -/
def coverCountsSpec : ChangeSpec := { name := "coverCounts", fn := fun _ => fun
  | [d1, d2, d3] => { results := [.lit (.bool true)], args := [d1, d2, d3] }
  | _ => none }
def coverCountsRow : OpenClaim := { program := "ytkpkkdpfcbnfdaa", sum := "5dd6f3a50b254cc909b6109034719e95b6d97ccad9f27694c29da2fa86392e0f", func := "gameroom/gameroomlaw.CoverCounts", spec := "coverCounts", unfollowed := true, recurses := true, plainKeys := false, apart := false }
def CoverCountsSaid : Prop := coverCountsRow.holds Try.pinned (OpenSpec.ofChange coverCountsSpec)

/-- ITS FALSE NEIGHBOUR: 'it returns false'. Refute it at one input. -/
def coverCountsWrong : ChangeSpec := { name := "coverCounts", fn := fun _ => fun
  | [d1, d2, d3] => { results := [.lit (.bool false)], args := [d1, d2, d3] }
  | _ => none }
def CoverCountsWrongFalsely : Prop := coverCountsRow.holds Try.pinned (OpenSpec.ofChange coverCountsWrong)

/- THE SECOND FORM. 'bulk': how many values and letters a reading holds, each counted each time it is reached (what is shared counts as often as it is met; a slice's spare places count too). A statement '..UptoSaid' is the law's where the arguments, and the package variables that the reading takes, are together of bulk at most 1048576: NARROWER than '..Said'. Prove '..Said' where nothing that the law and all that it calls make is longer than what came in: it says more and counts as full. Else prove '..UptoSaid'. A law counts once. -/
mutual
def uptoBulk {H : Type} : DataW H → Nat
  | .lit (.string bytes) => bytes.length + 1
  | .lit _ => 1
  | .nil => 1
  | .ptr d => uptoBulk d + 1
  | .slice elems spare => uptoBulkAll elems + uptoBulkAll spare + 1
  | .agg parts => uptoBulkAll parts + 1
  | .iface _ d => uptoBulk d + 1
  | .map entries => uptoBulkEntries entries + 1
  | .held _ => 1
def uptoBulkAll {H : Type} : List (DataW H) → Nat
  | [] => 0
  | d :: r => uptoBulk d + uptoBulkAll r
def uptoBulkEntries {H : Type} : List (Lit × DataW H) → Nat
  | [] => 0
  | x :: r => uptoBulkEntry x + uptoBulkEntries r
def uptoBulkEntry {H : Type} : Lit × DataW H → Nat
  | (.string bytes, d) => bytes.length + uptoBulk d + 1
  | (_, d) => uptoBulk d + 1
 end
def uptoSmall : (H : Type) → List (DataW H) → Bool := fun _ ds => decide (uptoBulkAll ds ≤ 1048576)
def OpenSpec.upto (s : _root_.Go.ChangeSpec) : _root_.Go.OpenSpec := { _root_.Go.OpenSpec.ofChange s with cond := some uptoSmall }

/-- 'gameroomlaw.CoverSudokus', WHERE WHAT IT READS IS OF BULK AT MOST 1048576: true; the input reads as it did. -/
def coverSudokusUptoRow : OpenClaim := { program := "ytkpkkdpfcbnfdaa", sum := "5dd6f3a50b254cc909b6109034719e95b6d97ccad9f27694c29da2fa86392e0f", func := "gameroom/gameroomlaw.CoverSudokus", spec := "coverSudokus", unfollowed := true, recurses := true, plainKeys := false, apart := false, narrowed := true }
def CoverSudokusUptoSaid : Prop := coverSudokusUptoRow.holds Try.pinned (OpenSpec.upto coverSudokusSpec)

/-- 'gameroomlaw.SlideHomes', WHERE WHAT IT READS IS OF BULK AT MOST 1048576: true; the input reads as it did. -/
def slideHomesUptoRow : OpenClaim := { program := "ytkpkkdpfcbnfdaa", sum := "5dd6f3a50b254cc909b6109034719e95b6d97ccad9f27694c29da2fa86392e0f", func := "gameroom/gameroomlaw.SlideHomes", spec := "slideHomes", unfollowed := true, recurses := true, plainKeys := false, apart := false, narrowed := true }
def SlideHomesUptoSaid : Prop := slideHomesUptoRow.holds Try.pinned (OpenSpec.upto slideHomesSpec)

/-- 'gameroomlaw.EndingsTell', WHERE WHAT IT READS IS OF BULK AT MOST 1048576: true; the input reads as it did. -/
def endingsTellUptoRow : OpenClaim := { program := "ytkpkkdpfcbnfdaa", sum := "5dd6f3a50b254cc909b6109034719e95b6d97ccad9f27694c29da2fa86392e0f", func := "gameroom/gameroomlaw.EndingsTell", spec := "endingsTell", unfollowed := true, recurses := true, plainKeys := false, apart := false, narrowed := true }
def EndingsTellUptoSaid : Prop := endingsTellUptoRow.holds Try.pinned (OpenSpec.upto endingsTellSpec)

/-- 'gameroomlaw.MovesPlays', WHERE WHAT IT READS IS OF BULK AT MOST 1048576: true; the input reads as it did. -/
def movesPlaysUptoRow : OpenClaim := { program := "ytkpkkdpfcbnfdaa", sum := "5dd6f3a50b254cc909b6109034719e95b6d97ccad9f27694c29da2fa86392e0f", func := "gameroom/gameroomlaw.MovesPlays", spec := "movesPlays", unfollowed := true, recurses := true, plainKeys := false, apart := false, narrowed := true }
def MovesPlaysUptoSaid : Prop := movesPlaysUptoRow.holds Try.pinned (OpenSpec.upto movesPlaysSpec)

/-- 'gameroomlaw.CoverCounts', WHERE WHAT IT READS IS OF BULK AT MOST 1048576: true; the input reads as it did. -/
def coverCountsUptoRow : OpenClaim := { program := "ytkpkkdpfcbnfdaa", sum := "5dd6f3a50b254cc909b6109034719e95b6d97ccad9f27694c29da2fa86392e0f", func := "gameroom/gameroomlaw.CoverCounts", spec := "coverCounts", unfollowed := true, recurses := true, plainKeys := false, apart := false, narrowed := true }
def CoverCountsUptoSaid : Prop := coverCountsUptoRow.holds Try.pinned (OpenSpec.upto coverCountsSpec)

end Rows
end Go.Proofs.Ytkpkkdpfcbnfdaa
