/-
  No cell of these rows narrows 'for every input' (looked for: loops, veiled, ifaces, maps, wideKeys, modest, calm, conditions, laid).
  DERIVED. THE GIVEN ROWS OF THIS SEAT. 8 by the template 'for every input the law returns true; each argument reads behind the call as it read before'; 0 by the template 'total and deterministic' (their statements: YtogecbgngnjhgaaTotals.lean).
  GIVEN WITH THE SEED: the statements are not yours to turn. If you find one false, say at which input.
  Laid BY PROGRAM, IN A SANDBOX (cutbox-rows.mjs): the forced cells as the released guide's own fill.sh prints them over the translation 39954366290ade39… (all of the seat's roots in one cut). By AI agents, Wed Nov 11 2026. No macro, syntax, notation, axiom, sorry.
-/
import Derived.Test.YtogecbgngnjhgaaChecked
import GoSem.Claim
import GoSem.ClaimJoined
import GoSem.ClaimMapViews
import Derived.JoinedTies
import Derived.KernelRfl
namespace Go.Proofs.Ytogecbgngnjhgaa
/- THE CELL 'sum', in the pinned program and in every row, IS THE sha256 OF THE DUMP (.gsa) THAT YtogecbgngnjhgaaProg.lean LOADS. Nothing in Lean hashes anything: it is a label: what it is worth is what the hold of that sum in a sandbox is worth. -/
noncomputable def Try.pinned : Pinned := { name := "ytogecbgngnjhgaa", sum := "39954366290ade3961065cb1e251109544ecd2e9c4b5b20d2f9feabdf69a59c5", checked := Try.checked }
namespace Rows
def none {H : Type} : Left H := { results := [], args := [] }

/-- 'gameroomlaw.OthelloPuts': WHATEVER THE INPUT: true; the input reads as it did. -/
def othelloPutsSpec : ChangeSpec := { name := "othelloPuts", fn := fun _ => fun
  | [d1, d2, d3, d4, d5] => { results := [.lit (.bool true)], args := [d1, d2, d3, d4, d5] }
  | _ => none }
def othelloPutsRow : OpenClaim := { program := "ytogecbgngnjhgaa", sum := "39954366290ade3961065cb1e251109544ecd2e9c4b5b20d2f9feabdf69a59c5", func := "gameroom/gameroomlaw.OthelloPuts", spec := "othelloPuts", unfollowed := true, recurses := true, plainKeys := false, apart := false }
def OthelloPutsSaid : Prop := othelloPutsRow.holds Try.pinned (OpenSpec.ofChange othelloPutsSpec)

/-- ITS FALSE NEIGHBOUR: 'it returns false'. Refute it at one input. -/
def othelloPutsWrong : ChangeSpec := { name := "othelloPuts", fn := fun _ => fun
  | [d1, d2, d3, d4, d5] => { results := [.lit (.bool false)], args := [d1, d2, d3, d4, d5] }
  | _ => none }
def OthelloPutsWrongFalsely : Prop := othelloPutsRow.holds Try.pinned (OpenSpec.ofChange othelloPutsWrong)

/-- 'gameroomlaw.MancalaValues': WHATEVER THE INPUT: true; the input reads as it did. -/
def mancalaValuesSpec : ChangeSpec := { name := "mancalaValues", fn := fun _ => fun
  | [d] => { results := [.lit (.bool true)], args := [d] }
  | _ => none }
def mancalaValuesRow : OpenClaim := { program := "ytogecbgngnjhgaa", sum := "39954366290ade3961065cb1e251109544ecd2e9c4b5b20d2f9feabdf69a59c5", func := "gameroom/gameroomlaw.MancalaValues", spec := "mancalaValues", recurses := true, plainKeys := false, apart := false }
def MancalaValuesSaid : Prop := mancalaValuesRow.holds Try.pinned (OpenSpec.ofChange mancalaValuesSpec)

/-- ITS FALSE NEIGHBOUR: 'it returns false'. Refute it at one input. -/
def mancalaValuesWrong : ChangeSpec := { name := "mancalaValues", fn := fun _ => fun
  | [d] => { results := [.lit (.bool false)], args := [d] }
  | _ => none }
def MancalaValuesWrongFalsely : Prop := mancalaValuesRow.holds Try.pinned (OpenSpec.ofChange mancalaValuesWrong)

/-- 'gameroomlaw.FourDrops': WHATEVER THE INPUT: true; the input reads as it did. -/
def fourDropsSpec : ChangeSpec := { name := "fourDrops", fn := fun _ => fun
  | [d1, d2, d3, d4] => { results := [.lit (.bool true)], args := [d1, d2, d3, d4] }
  | _ => none }
def fourDropsRow : OpenClaim := { program := "ytogecbgngnjhgaa", sum := "39954366290ade3961065cb1e251109544ecd2e9c4b5b20d2f9feabdf69a59c5", func := "gameroom/gameroomlaw.FourDrops", spec := "fourDrops", unfollowed := true, recurses := true, plainKeys := false, apart := false }
def FourDropsSaid : Prop := fourDropsRow.holds Try.pinned (OpenSpec.ofChange fourDropsSpec)

/-- ITS FALSE NEIGHBOUR: 'it returns false'. Refute it at one input. -/
def fourDropsWrong : ChangeSpec := { name := "fourDrops", fn := fun _ => fun
  | [d1, d2, d3, d4] => { results := [.lit (.bool false)], args := [d1, d2, d3, d4] }
  | _ => none }
def FourDropsWrongFalsely : Prop := fourDropsRow.holds Try.pinned (OpenSpec.ofChange fourDropsWrong)

/-- 'gameroomlaw.FourBests': WHATEVER THE INPUT: true; the input reads as it did. -/
def fourBestsSpec : ChangeSpec := { name := "fourBests", fn := fun _ => fun
  | [d1, d2, d3] => { results := [.lit (.bool true)], args := [d1, d2, d3] }
  | _ => none }
def fourBestsRow : OpenClaim := { program := "ytogecbgngnjhgaa", sum := "39954366290ade3961065cb1e251109544ecd2e9c4b5b20d2f9feabdf69a59c5", func := "gameroom/gameroomlaw.FourBests", spec := "fourBests", unfollowed := true, recurses := true, plainKeys := false, apart := false }
def FourBestsSaid : Prop := fourBestsRow.holds Try.pinned (OpenSpec.ofChange fourBestsSpec)

/-- ITS FALSE NEIGHBOUR: 'it returns false'. Refute it at one input. -/
def fourBestsWrong : ChangeSpec := { name := "fourBests", fn := fun _ => fun
  | [d1, d2, d3] => { results := [.lit (.bool false)], args := [d1, d2, d3] }
  | _ => none }
def FourBestsWrongFalsely : Prop := fourBestsRow.holds Try.pinned (OpenSpec.ofChange fourBestsWrong)

/-- 'gameroomlaw.OthelloBests': WHATEVER THE INPUT: true; the input reads as it did. -/
def othelloBestsSpec : ChangeSpec := { name := "othelloBests", fn := fun _ => fun
  | [d1, d2, d3] => { results := [.lit (.bool true)], args := [d1, d2, d3] }
  | _ => none }
def othelloBestsRow : OpenClaim := { program := "ytogecbgngnjhgaa", sum := "39954366290ade3961065cb1e251109544ecd2e9c4b5b20d2f9feabdf69a59c5", func := "gameroom/gameroomlaw.OthelloBests", spec := "othelloBests", unfollowed := true, recurses := true, plainKeys := false, apart := false }
def OthelloBestsSaid : Prop := othelloBestsRow.holds Try.pinned (OpenSpec.ofChange othelloBestsSpec)

/-- ITS FALSE NEIGHBOUR: 'it returns false'. Refute it at one input. -/
def othelloBestsWrong : ChangeSpec := { name := "othelloBests", fn := fun _ => fun
  | [d1, d2, d3] => { results := [.lit (.bool false)], args := [d1, d2, d3] }
  | _ => none }
def OthelloBestsWrongFalsely : Prop := othelloBestsRow.holds Try.pinned (OpenSpec.ofChange othelloBestsWrong)

/-- 'gameroomlaw.NonoLines': WHATEVER THE INPUT: true; the input reads as it did. -/
def nonoLinesSpec : ChangeSpec := { name := "nonoLines", fn := fun _ => fun
  | [d1, d2] => { results := [.lit (.bool true)], args := [d1, d2] }
  | _ => none }
def nonoLinesRow : OpenClaim := { program := "ytogecbgngnjhgaa", sum := "39954366290ade3961065cb1e251109544ecd2e9c4b5b20d2f9feabdf69a59c5", func := "gameroom/gameroomlaw.NonoLines", spec := "nonoLines", unfollowed := true, recurses := true, plainKeys := false, apart := false }
def NonoLinesSaid : Prop := nonoLinesRow.holds Try.pinned (OpenSpec.ofChange nonoLinesSpec)

/-- ITS FALSE NEIGHBOUR: 'it returns false'. Refute it at one input. -/
def nonoLinesWrong : ChangeSpec := { name := "nonoLines", fn := fun _ => fun
  | [d1, d2] => { results := [.lit (.bool false)], args := [d1, d2] }
  | _ => none }
def NonoLinesWrongFalsely : Prop := nonoLinesRow.holds Try.pinned (OpenSpec.ofChange nonoLinesWrong)

/-- 'gameroomlaw.MagicMakes': WHATEVER THE INPUT: true; the input reads as it did. -/
def magicMakesSpec : ChangeSpec := { name := "magicMakes", fn := fun _ => fun
  | [d1, d2, d3] => { results := [.lit (.bool true)], args := [d1, d2, d3] }
  | _ => none }
def magicMakesRow : OpenClaim := { program := "ytogecbgngnjhgaa", sum := "39954366290ade3961065cb1e251109544ecd2e9c4b5b20d2f9feabdf69a59c5", func := "gameroom/gameroomlaw.MagicMakes", spec := "magicMakes", unfollowed := true, recurses := true, plainKeys := false, apart := false }
def MagicMakesSaid : Prop := magicMakesRow.holds Try.pinned (OpenSpec.ofChange magicMakesSpec)

/-- ITS FALSE NEIGHBOUR: 'it returns false'. Refute it at one input. -/
def magicMakesWrong : ChangeSpec := { name := "magicMakes", fn := fun _ => fun
  | [d1, d2, d3] => { results := [.lit (.bool false)], args := [d1, d2, d3] }
  | _ => none }
def MagicMakesWrongFalsely : Prop := magicMakesRow.holds Try.pinned (OpenSpec.ofChange magicMakesWrong)

/-- 'gameroomlaw.CoverSudokus': WHATEVER THE INPUT: true; the input reads as it did. -/
def coverSudokusSpec : ChangeSpec := { name := "coverSudokus", fn := fun _ => fun
  | [d1, d2] => { results := [.lit (.bool true)], args := [d1, d2] }
  | _ => none }
def coverSudokusRow : OpenClaim := { program := "ytogecbgngnjhgaa", sum := "39954366290ade3961065cb1e251109544ecd2e9c4b5b20d2f9feabdf69a59c5", func := "gameroom/gameroomlaw.CoverSudokus", spec := "coverSudokus", unfollowed := true, recurses := true, plainKeys := false, apart := false }
def CoverSudokusSaid : Prop := coverSudokusRow.holds Try.pinned (OpenSpec.ofChange coverSudokusSpec)

/-- ITS FALSE NEIGHBOUR: 'it returns false'. Refute it at one input. -/
def coverSudokusWrong : ChangeSpec := { name := "coverSudokus", fn := fun _ => fun
  | [d1, d2] => { results := [.lit (.bool false)], args := [d1, d2] }
  | _ => none }
def CoverSudokusWrongFalsely : Prop := coverSudokusRow.holds Try.pinned (OpenSpec.ofChange coverSudokusWrong)

/- THE SECOND FORM. 'bulk': how many values and letters a reading holds, each counted each time it is reached (what is shared counts as often as it is met; a slice's spare places count too). A statement '..UptoSaid' is the law's where the arguments, and the package variables that the reading takes, are together of bulk at most 1048576: NARROWER than '..Said'. Prove '..Said' where nothing that the law and all that it calls make is longer than what came in: it says more and counts as full. Else prove '..UptoSaid'. A law counts once. -/
mutual
def uptoBulk {H : Type} : DataW H → Nat
  | .lit (.string bytes) => bytes.length + 1
  | .lit _ => 1
  | .nil => 1
  | .ptr d => uptoBulk d + 1
  | .slice elems spare => uptoBulkAll elems + uptoBulkAll spare + 1
  | .agg parts => uptoBulkAll parts + 1
  | .iface _ d => uptoBulk d + 1
  | .map entries => uptoBulkEntries entries + 1
  | .held _ => 1
def uptoBulkAll {H : Type} : List (DataW H) → Nat
  | [] => 0
  | d :: r => uptoBulk d + uptoBulkAll r
def uptoBulkEntries {H : Type} : List (Lit × DataW H) → Nat
  | [] => 0
  | x :: r => uptoBulkEntry x + uptoBulkEntries r
def uptoBulkEntry {H : Type} : Lit × DataW H → Nat
  | (.string bytes, d) => bytes.length + uptoBulk d + 1
  | (_, d) => uptoBulk d + 1
 end
def uptoSmall : (H : Type) → List (DataW H) → Bool := fun _ ds => decide (uptoBulkAll ds ≤ 1048576)
def OpenSpec.upto (s : _root_.Go.ChangeSpec) : _root_.Go.OpenSpec := { _root_.Go.OpenSpec.ofChange s with cond := some uptoSmall }

/-- 'gameroomlaw.OthelloPuts', WHERE WHAT IT READS IS OF BULK AT MOST 1048576: true; the input reads as it did. -/
def othelloPutsUptoRow : OpenClaim := { program := "ytogecbgngnjhgaa", sum := "39954366290ade3961065cb1e251109544ecd2e9c4b5b20d2f9feabdf69a59c5", func := "gameroom/gameroomlaw.OthelloPuts", spec := "othelloPuts", unfollowed := true, recurses := true, plainKeys := false, apart := false, narrowed := true }
def OthelloPutsUptoSaid : Prop := othelloPutsUptoRow.holds Try.pinned (OpenSpec.upto othelloPutsSpec)

/-- 'gameroomlaw.MancalaValues', WHERE WHAT IT READS IS OF BULK AT MOST 1048576: true; the input reads as it did. -/
def mancalaValuesUptoRow : OpenClaim := { program := "ytogecbgngnjhgaa", sum := "39954366290ade3961065cb1e251109544ecd2e9c4b5b20d2f9feabdf69a59c5", func := "gameroom/gameroomlaw.MancalaValues", spec := "mancalaValues", recurses := true, plainKeys := false, apart := false, narrowed := true }
def MancalaValuesUptoSaid : Prop := mancalaValuesUptoRow.holds Try.pinned (OpenSpec.upto mancalaValuesSpec)

/-- 'gameroomlaw.FourDrops', WHERE WHAT IT READS IS OF BULK AT MOST 1048576: true; the input reads as it did. -/
def fourDropsUptoRow : OpenClaim := { program := "ytogecbgngnjhgaa", sum := "39954366290ade3961065cb1e251109544ecd2e9c4b5b20d2f9feabdf69a59c5", func := "gameroom/gameroomlaw.FourDrops", spec := "fourDrops", unfollowed := true, recurses := true, plainKeys := false, apart := false, narrowed := true }
def FourDropsUptoSaid : Prop := fourDropsUptoRow.holds Try.pinned (OpenSpec.upto fourDropsSpec)

/-- 'gameroomlaw.FourBests', WHERE WHAT IT READS IS OF BULK AT MOST 1048576: true; the input reads as it did. -/
def fourBestsUptoRow : OpenClaim := { program := "ytogecbgngnjhgaa", sum := "39954366290ade3961065cb1e251109544ecd2e9c4b5b20d2f9feabdf69a59c5", func := "gameroom/gameroomlaw.FourBests", spec := "fourBests", unfollowed := true, recurses := true, plainKeys := false, apart := false, narrowed := true }
def FourBestsUptoSaid : Prop := fourBestsUptoRow.holds Try.pinned (OpenSpec.upto fourBestsSpec)

/-- 'gameroomlaw.OthelloBests', WHERE WHAT IT READS IS OF BULK AT MOST 1048576: true; the input reads as it did. -/
def othelloBestsUptoRow : OpenClaim := { program := "ytogecbgngnjhgaa", sum := "39954366290ade3961065cb1e251109544ecd2e9c4b5b20d2f9feabdf69a59c5", func := "gameroom/gameroomlaw.OthelloBests", spec := "othelloBests", unfollowed := true, recurses := true, plainKeys := false, apart := false, narrowed := true }
def OthelloBestsUptoSaid : Prop := othelloBestsUptoRow.holds Try.pinned (OpenSpec.upto othelloBestsSpec)

/-- 'gameroomlaw.NonoLines', WHERE WHAT IT READS IS OF BULK AT MOST 1048576: true; the input reads as it did. -/
def nonoLinesUptoRow : OpenClaim := { program := "ytogecbgngnjhgaa", sum := "39954366290ade3961065cb1e251109544ecd2e9c4b5b20d2f9feabdf69a59c5", func := "gameroom/gameroomlaw.NonoLines", spec := "nonoLines", unfollowed := true, recurses := true, plainKeys := false, apart := false, narrowed := true }
def NonoLinesUptoSaid : Prop := nonoLinesUptoRow.holds Try.pinned (OpenSpec.upto nonoLinesSpec)

/-- 'gameroomlaw.MagicMakes', WHERE WHAT IT READS IS OF BULK AT MOST 1048576: true; the input reads as it did. -/
def magicMakesUptoRow : OpenClaim := { program := "ytogecbgngnjhgaa", sum := "39954366290ade3961065cb1e251109544ecd2e9c4b5b20d2f9feabdf69a59c5", func := "gameroom/gameroomlaw.MagicMakes", spec := "magicMakes", unfollowed := true, recurses := true, plainKeys := false, apart := false, narrowed := true }
def MagicMakesUptoSaid : Prop := magicMakesUptoRow.holds Try.pinned (OpenSpec.upto magicMakesSpec)

/-- 'gameroomlaw.CoverSudokus', WHERE WHAT IT READS IS OF BULK AT MOST 1048576: true; the input reads as it did. -/
def coverSudokusUptoRow : OpenClaim := { program := "ytogecbgngnjhgaa", sum := "39954366290ade3961065cb1e251109544ecd2e9c4b5b20d2f9feabdf69a59c5", func := "gameroom/gameroomlaw.CoverSudokus", spec := "coverSudokus", unfollowed := true, recurses := true, plainKeys := false, apart := false, narrowed := true }
def CoverSudokusUptoSaid : Prop := coverSudokusUptoRow.holds Try.pinned (OpenSpec.upto coverSudokusSpec)

end Rows
end Go.Proofs.Ytogecbgngnjhgaa
