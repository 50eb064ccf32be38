/-
  Models and walks, printed by our own program (wip/gen).
-/
import Derived.Test.YtkpkkdpfcbnfdaaFB
import Derived.Test.YtkpkkdpfcbnfdaaLibEl
import Derived.Test.YtkpkkdpfcbnfdaaLibPf
namespace Go.Proofs.Ytkpkkdpfcbnfdaa
open Go Go.GL Go.RowKit


abbrev zP32 : (Int × Int × List Int) := ((0, 0, ([] : List Int)) : (Int × Int × List Int))

abbrev rzP32 : (Int × Int × Hd3) := ((0, 0, (none, 0, 0)) : (Int × Int × Hd3))

abbrev encP32 : (Int × Int × Hd3) → List Value := fun p => [Value.int .i64 (p.1), Value.int .i64 (p.2.1), Value.slice p.2.2.1 p.2.2.2.1 p.2.2.2.2]

theorem encPK32 : EncK encP32 3 := ⟨fun _ => rfl, fun _ u hu => by simp at hu; rcases hu with rfl | rfl | rfl <;> rfl, by decide⟩

abbrev Rel32 (p : HP) (g : (Int × Int × Hd3)) (x : (Int × Int × List Int)) : Prop := g.1 = x.1 ∧ g.2.1 = x.2.1 ∧ SlR p g.2.2 x.2.2

theorem RelP32 : RelP Rel32 rzP32 zP32 := ⟨fun k ⟨h0, h1, h2⟩ => ⟨h0, h1, h2.mono k⟩, fun p => ⟨rfl, rfl, SlR.zero p⟩⟩

theorem val32 {p : HP} {g : (Int × Int × Hd3)} {x : (Int × Int × List Int)} (h : Rel32 p g x) : encP32 g = [Value.int .i64 (x.1), Value.int .i64 (x.2.1), Value.slice g.2.2.1 x.2.2.length g.2.2.2.2] := by
  obtain ⟨h0, h1, h2⟩ := h
  simp only [encP32, h0, h1, h2.1]

abbrev zP100 : (Int × Int × List Int × Int) := ((0, 0, ([] : List Int), 0) : (Int × Int × List Int × Int))

abbrev rzP100 : (Nat × Hd3) := ((0, (none, 0, 0)) : (Nat × Hd3))

abbrev encP100 : (Nat × Hd3) → List Value := fun p => [Value.pointer (some ⟨p.1, 0, none⟩)]

theorem encPK100 : EncK encP100 1 := ⟨fun _ => rfl, fun _ u hu => by simp at hu; subst hu; rfl, by decide⟩

abbrev Rel100 (p : HP) (g : (Nat × Hd3)) (x : (Int × Int × List Int × Int)) : Prop := PoolB p g.1 [Value.int .i64 (x.1), Value.int .i64 (x.2.1), Value.slice g.2.1 x.2.2.1.length g.2.2.2, Value.int .i64 (x.2.2.2)] ∧ SlR p g.2 x.2.2.1

theorem RelM100 : RelM Rel100 := ⟨fun k ⟨h0, h1⟩ => ⟨h0.mono k, h1.mono k⟩⟩

theorem val100 {p : HP} {g : (Nat × Hd3)} {x : (Int × Int × List Int × Int)} (h : Rel100 p g x) : encP100 g = [Value.pointer (some ⟨g.1, 0, none⟩)] := rfl

end Go.Proofs.Ytkpkkdpfcbnfdaa
