/-
  Models and walks, printed by our own program (wip/gen).
-/
import Derived.Test.YtjfloofoobllaaaFB
import Derived.Test.YtjfloofoobllaaaLibEl
namespace Go.Proofs.Ytjfloofoobllaaa
open Go Go.GL Go.RowKit


abbrev zP24 : (Int × Int × List Int) := ((0, 0, ([] : List Int)) : (Int × Int × List Int))

abbrev rzP24 : (Int × Int × Hd3) := ((0, 0, (none, 0, 0)) : (Int × Int × Hd3))

abbrev encP24 : (Int × Int × Hd3) → List Value := fun p => [Value.int .i64 (p.1), Value.int .i64 (p.2.1), Value.slice p.2.2.1 p.2.2.2.1 p.2.2.2.2]

theorem encPK24 : EncK encP24 3 := ⟨fun _ => rfl, fun _ u hu => by simp at hu; rcases hu with rfl | rfl | rfl <;> rfl, by decide⟩

abbrev Rel24 (p : HP) (g : (Int × Int × Hd3)) (x : (Int × Int × List Int)) : Prop := g.1 = x.1 ∧ g.2.1 = x.2.1 ∧ SlR p g.2.2 x.2.2

theorem RelP24 : RelP Rel24 rzP24 zP24 := ⟨fun k ⟨h0, h1, h2⟩ => ⟨h0, h1, h2.mono k⟩, fun p => ⟨rfl, rfl, SlR.zero p⟩⟩

theorem val24 {p : HP} {g : (Int × Int × Hd3)} {x : (Int × Int × List Int)} (h : Rel24 p g x) : encP24 g = [Value.int .i64 (x.1), Value.int .i64 (x.2.1), Value.slice g.2.2.1 x.2.2.length g.2.2.2.2] := by
  obtain ⟨h0, h1, h2⟩ := h
  simp only [encP24, h0, h1, h2.1]

end Go.Proofs.Ytjfloofoobllaaa
