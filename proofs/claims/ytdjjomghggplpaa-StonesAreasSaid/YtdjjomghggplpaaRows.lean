/-
  No cell of these rows narrows 'for every input' (looked for: loops, veiled, ifaces, maps, wideKeys, modest, calm, conditions, laid).
  DERIVED. THE GIVEN ROWS OF THIS SEAT. 6 by the template 'for every input the law returns true; each argument reads behind the call as it read before'; 0 by the template 'total and deterministic' (their statements: YtdjjomghggplpaaTotals.lean).
  GIVEN WITH THE SEED: the statements are not yours to turn. If you find one false, say at which input.
  Laid BY PROGRAM, IN A SANDBOX (cutbox-rows.mjs): the forced cells as the released guide's own fill.sh prints them over the translation acdac2a2f2bbaeb9… (all of the seat's roots in one cut). By AI agents, Wed Nov 11 2026. No macro, syntax, notation, axiom, sorry.
-/
import Derived.Test.YtdjjomghggplpaaChecked
import GoSem.Claim
import GoSem.ClaimJoined
import GoSem.ClaimMapViews
import Derived.JoinedTies
import Derived.KernelRfl
namespace Go.Proofs.Ytdjjomghggplpaa
/- THE CELL 'sum', in the pinned program and in every row, IS THE sha256 OF THE DUMP (.gsa) THAT YtdjjomghggplpaaProg.lean LOADS. Nothing in Lean hashes anything: it is a label: what it is worth is what the hold of that sum in a sandbox is worth. -/
noncomputable def Try.pinned : Pinned := { name := "ytdjjomghggplpaa", sum := "acdac2a2f2bbaeb9e24f081082adb1713c4a1eca008fdc82911d510ceef5255d", checked := Try.checked }
namespace Rows
def none {H : Type} : Left H := { results := [], args := [] }

/-- 'gameroomlaw.StonesAreas': WHATEVER THE INPUT: true; the input reads as it did. -/
def stonesAreasSpec : ChangeSpec := { name := "stonesAreas", fn := fun _ => fun
  | [d1, d2] => { results := [.lit (.bool true)], args := [d1, d2] }
  | _ => none }
def stonesAreasRow : OpenClaim := { program := "ytdjjomghggplpaa", sum := "acdac2a2f2bbaeb9e24f081082adb1713c4a1eca008fdc82911d510ceef5255d", func := "gameroom/gameroomlaw.StonesAreas", spec := "stonesAreas", unfollowed := true, recurses := true, plainKeys := false, apart := false }
def StonesAreasSaid : Prop := stonesAreasRow.holds Try.pinned (OpenSpec.ofChange stonesAreasSpec)

/-- ITS FALSE NEIGHBOUR: 'it returns false'. Refute it at one input. -/
def stonesAreasWrong : ChangeSpec := { name := "stonesAreas", fn := fun _ => fun
  | [d1, d2] => { results := [.lit (.bool false)], args := [d1, d2] }
  | _ => none }
def StonesAreasWrongFalsely : Prop := stonesAreasRow.holds Try.pinned (OpenSpec.ofChange stonesAreasWrong)

/-- 'gameroomlaw.NonoPictures': WHATEVER THE INPUT: true; the input reads as it did. -/
def nonoPicturesSpec : ChangeSpec := { name := "nonoPictures", fn := fun _ => fun
  | [d1, d2, d3] => { results := [.lit (.bool true)], args := [d1, d2, d3] }
  | _ => none }
def nonoPicturesRow : OpenClaim := { program := "ytdjjomghggplpaa", sum := "acdac2a2f2bbaeb9e24f081082adb1713c4a1eca008fdc82911d510ceef5255d", func := "gameroom/gameroomlaw.NonoPictures", spec := "nonoPictures", unfollowed := true, recurses := true, plainKeys := false, apart := false }
def NonoPicturesSaid : Prop := nonoPicturesRow.holds Try.pinned (OpenSpec.ofChange nonoPicturesSpec)

/-- ITS FALSE NEIGHBOUR: 'it returns false'. Refute it at one input. -/
def nonoPicturesWrong : ChangeSpec := { name := "nonoPictures", fn := fun _ => fun
  | [d1, d2, d3] => { results := [.lit (.bool false)], args := [d1, d2, d3] }
  | _ => none }
def NonoPicturesWrongFalsely : Prop := nonoPicturesRow.holds Try.pinned (OpenSpec.ofChange nonoPicturesWrong)

/-- 'gameroomlaw.GammonMoves': WHATEVER THE INPUT: true; the input reads as it did. -/
def gammonMovesSpec : ChangeSpec := { name := "gammonMoves", fn := fun _ => fun
  | [d1, d2, d3] => { results := [.lit (.bool true)], args := [d1, d2, d3] }
  | _ => none }
def gammonMovesRow : OpenClaim := { program := "ytdjjomghggplpaa", sum := "acdac2a2f2bbaeb9e24f081082adb1713c4a1eca008fdc82911d510ceef5255d", func := "gameroom/gameroomlaw.GammonMoves", spec := "gammonMoves", unfollowed := true, recurses := true, plainKeys := false, apart := false }
def GammonMovesSaid : Prop := gammonMovesRow.holds Try.pinned (OpenSpec.ofChange gammonMovesSpec)

/-- ITS FALSE NEIGHBOUR: 'it returns false'. Refute it at one input. -/
def gammonMovesWrong : ChangeSpec := { name := "gammonMoves", fn := fun _ => fun
  | [d1, d2, d3] => { results := [.lit (.bool false)], args := [d1, d2, d3] }
  | _ => none }
def GammonMovesWrongFalsely : Prop := gammonMovesRow.holds Try.pinned (OpenSpec.ofChange gammonMovesWrong)

/-- 'gameroomlaw.CoverSudokus': WHATEVER THE INPUT: true; the input reads as it did. -/
def coverSudokusSpec : ChangeSpec := { name := "coverSudokus", fn := fun _ => fun
  | [d1, d2] => { results := [.lit (.bool true)], args := [d1, d2] }
  | _ => none }
def coverSudokusRow : OpenClaim := { program := "ytdjjomghggplpaa", sum := "acdac2a2f2bbaeb9e24f081082adb1713c4a1eca008fdc82911d510ceef5255d", func := "gameroom/gameroomlaw.CoverSudokus", spec := "coverSudokus", unfollowed := true, recurses := true, plainKeys := false, apart := false }
def CoverSudokusSaid : Prop := coverSudokusRow.holds Try.pinned (OpenSpec.ofChange coverSudokusSpec)

/-- ITS FALSE NEIGHBOUR: 'it returns false'. Refute it at one input. -/
def coverSudokusWrong : ChangeSpec := { name := "coverSudokus", fn := fun _ => fun
  | [d1, d2] => { results := [.lit (.bool false)], args := [d1, d2] }
  | _ => none }
def CoverSudokusWrongFalsely : Prop := coverSudokusRow.holds Try.pinned (OpenSpec.ofChange coverSudokusWrong)

/-- 'gameroomlaw.EndingsTell': WHATEVER THE INPUT: true; the input reads as it did. -/
def endingsTellSpec : ChangeSpec := { name := "endingsTell", fn := fun _ => fun
  | [d1, d2, d3] => { results := [.lit (.bool true)], args := [d1, d2, d3] }
  | _ => none }
def endingsTellRow : OpenClaim := { program := "ytdjjomghggplpaa", sum := "acdac2a2f2bbaeb9e24f081082adb1713c4a1eca008fdc82911d510ceef5255d", func := "gameroom/gameroomlaw.EndingsTell", spec := "endingsTell", unfollowed := true, recurses := true, plainKeys := false, apart := false }
def EndingsTellSaid : Prop := endingsTellRow.holds Try.pinned (OpenSpec.ofChange endingsTellSpec)

/-- ITS FALSE NEIGHBOUR: 'it returns false'. Refute it at one input. -/
def endingsTellWrong : ChangeSpec := { name := "endingsTell", fn := fun _ => fun
  | [d1, d2, d3] => { results := [.lit (.bool false)], args := [d1, d2, d3] }
  | _ => none }
def EndingsTellWrongFalsely : Prop := endingsTellRow.holds Try.pinned (OpenSpec.ofChange endingsTellWrong)

/-- 'gameroomlaw.CoverCounts': WHATEVER THE INPUT: true; the input reads as it did. -/
def coverCountsSpec : ChangeSpec := { name := "coverCounts", fn := fun _ => fun
  | [d1, d2, d3] => { results := [.lit (.bool true)], args := [d1, d2, d3] }
  | _ => none }
def coverCountsRow : OpenClaim := { program := "ytdjjomghggplpaa", sum := "acdac2a2f2bbaeb9e24f081082adb1713c4a1eca008fdc82911d510ceef5255d", func := "gameroom/gameroomlaw.CoverCounts", spec := "coverCounts", unfollowed := true, recurses := true, plainKeys := false, apart := false }
def CoverCountsSaid : Prop := coverCountsRow.holds Try.pinned (OpenSpec.ofChange coverCountsSpec)

/-- ITS FALSE NEIGHBOUR: 'it returns false'. Refute it at one input. -/
def coverCountsWrong : ChangeSpec := { name := "coverCounts", fn := fun _ => fun
  | [d1, d2, d3] => { results := [.lit (.bool false)], args := [d1, d2, d3] }
  | _ => none }
def CoverCountsWrongFalsely : Prop := coverCountsRow.holds Try.pinned (OpenSpec.ofChange coverCountsWrong)

/- THE SECOND FORM. 'bulk': how many values and letters a reading holds, each counted each time it is reached (what is shared counts as often as it is met; a slice's spare places count too). A statement '..UptoSaid' is the law's where the arguments, and the package variables that the reading takes, are together of bulk at most 1048576: NARROWER than '..Said'. Prove '..Said' where nothing that the law and all that it calls make is longer than what came in: it says more and counts as full. Else prove '..UptoSaid'. A law counts once. -/
mutual
def uptoBulk {H : Type} : DataW H → Nat
  | .lit (.string bytes) => bytes.length + 1
  | .lit _ => 1
  | .nil => 1
  | .ptr d => uptoBulk d + 1
  | .slice elems spare => uptoBulkAll elems + uptoBulkAll spare + 1
  | .agg parts => uptoBulkAll parts + 1
  | .iface _ d => uptoBulk d + 1
  | .map entries => uptoBulkEntries entries + 1
  | .held _ => 1
def uptoBulkAll {H : Type} : List (DataW H) → Nat
  | [] => 0
  | d :: r => uptoBulk d + uptoBulkAll r
def uptoBulkEntries {H : Type} : List (Lit × DataW H) → Nat
  | [] => 0
  | x :: r => uptoBulkEntry x + uptoBulkEntries r
def uptoBulkEntry {H : Type} : Lit × DataW H → Nat
  | (.string bytes, d) => bytes.length + uptoBulk d + 1
  | (_, d) => uptoBulk d + 1
 end
def uptoSmall : (H : Type) → List (DataW H) → Bool := fun _ ds => decide (uptoBulkAll ds ≤ 1048576)
def OpenSpec.upto (s : _root_.Go.ChangeSpec) : _root_.Go.OpenSpec := { _root_.Go.OpenSpec.ofChange s with cond := some uptoSmall }

/-- 'gameroomlaw.StonesAreas', WHERE WHAT IT READS IS OF BULK AT MOST 1048576: true; the input reads as it did. -/
def stonesAreasUptoRow : OpenClaim := { program := "ytdjjomghggplpaa", sum := "acdac2a2f2bbaeb9e24f081082adb1713c4a1eca008fdc82911d510ceef5255d", func := "gameroom/gameroomlaw.StonesAreas", spec := "stonesAreas", unfollowed := true, recurses := true, plainKeys := false, apart := false, narrowed := true }
def StonesAreasUptoSaid : Prop := stonesAreasUptoRow.holds Try.pinned (OpenSpec.upto stonesAreasSpec)

/-- 'gameroomlaw.NonoPictures', WHERE WHAT IT READS IS OF BULK AT MOST 1048576: true; the input reads as it did. -/
def nonoPicturesUptoRow : OpenClaim := { program := "ytdjjomghggplpaa", sum := "acdac2a2f2bbaeb9e24f081082adb1713c4a1eca008fdc82911d510ceef5255d", func := "gameroom/gameroomlaw.NonoPictures", spec := "nonoPictures", unfollowed := true, recurses := true, plainKeys := false, apart := false, narrowed := true }
def NonoPicturesUptoSaid : Prop := nonoPicturesUptoRow.holds Try.pinned (OpenSpec.upto nonoPicturesSpec)

/-- 'gameroomlaw.GammonMoves', WHERE WHAT IT READS IS OF BULK AT MOST 1048576: true; the input reads as it did. -/
def gammonMovesUptoRow : OpenClaim := { program := "ytdjjomghggplpaa", sum := "acdac2a2f2bbaeb9e24f081082adb1713c4a1eca008fdc82911d510ceef5255d", func := "gameroom/gameroomlaw.GammonMoves", spec := "gammonMoves", unfollowed := true, recurses := true, plainKeys := false, apart := false, narrowed := true }
def GammonMovesUptoSaid : Prop := gammonMovesUptoRow.holds Try.pinned (OpenSpec.upto gammonMovesSpec)

/-- 'gameroomlaw.CoverSudokus', WHERE WHAT IT READS IS OF BULK AT MOST 1048576: true; the input reads as it did. -/
def coverSudokusUptoRow : OpenClaim := { program := "ytdjjomghggplpaa", sum := "acdac2a2f2bbaeb9e24f081082adb1713c4a1eca008fdc82911d510ceef5255d", func := "gameroom/gameroomlaw.CoverSudokus", spec := "coverSudokus", unfollowed := true, recurses := true, plainKeys := false, apart := false, narrowed := true }
def CoverSudokusUptoSaid : Prop := coverSudokusUptoRow.holds Try.pinned (OpenSpec.upto coverSudokusSpec)

/-- 'gameroomlaw.EndingsTell', WHERE WHAT IT READS IS OF BULK AT MOST 1048576: true; the input reads as it did. -/
def endingsTellUptoRow : OpenClaim := { program := "ytdjjomghggplpaa", sum := "acdac2a2f2bbaeb9e24f081082adb1713c4a1eca008fdc82911d510ceef5255d", func := "gameroom/gameroomlaw.EndingsTell", spec := "endingsTell", unfollowed := true, recurses := true, plainKeys := false, apart := false, narrowed := true }
def EndingsTellUptoSaid : Prop := endingsTellUptoRow.holds Try.pinned (OpenSpec.upto endingsTellSpec)

/-- 'gameroomlaw.CoverCounts', WHERE WHAT IT READS IS OF BULK AT MOST 1048576: true; the input reads as it did. -/
def coverCountsUptoRow : OpenClaim := { program := "ytdjjomghggplpaa", sum := "acdac2a2f2bbaeb9e24f081082adb1713c4a1eca008fdc82911d510ceef5255d", func := "gameroom/gameroomlaw.CoverCounts", spec := "coverCounts", unfollowed := true, recurses := true, plainKeys := false, apart := false, narrowed := true }
def CoverCountsUptoSaid : Prop := coverCountsUptoRow.holds Try.pinned (OpenSpec.upto coverCountsSpec)

end Rows
end Go.Proofs.Ytdjjomghggplpaa
