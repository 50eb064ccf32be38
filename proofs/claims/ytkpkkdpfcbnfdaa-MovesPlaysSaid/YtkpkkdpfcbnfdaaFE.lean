import Derived.Test.YtkpkkdpfcbnfdaaFB
import Derived.Test.YtkpkkdpfcbnfdaaLibEl
namespace Go.Proofs.Ytkpkkdpfcbnfdaa
open Go Go.GL Go.RowKit
abbrev zP65 : (List Int × Int × Int × Int × Int × Int) := ((([] : List Int), 0, 0, 0, 0, 0) : (List Int × Int × Int × Int × Int × Int))
abbrev rzP65 : (Hd3 × Int × Int × Int × Int × Int) := (((none, 0, 0), 0, 0, 0, 0, 0) : (Hd3 × Int × Int × Int × Int × Int))
abbrev encP65 : (Hd3 × Int × Int × Int × Int × Int) → List Value := fun p => [Value.slice p.1.1 p.1.2.1 p.1.2.2, Value.int .i64 (p.2.1), Value.int .i64 (p.2.2.1), Value.int .i64 (p.2.2.2.1), Value.int .i64 (p.2.2.2.2.1), Value.int .i64 (p.2.2.2.2.2)]
theorem encPK65 : EncK encP65 6 := ⟨fun _ => rfl, fun _ u hu => by simp at hu; rcases hu with rfl | rfl | rfl | rfl | rfl | rfl <;> rfl, by decide⟩
abbrev Rel65 (p : HP) (g : (Hd3 × Int × Int × Int × Int × Int)) (x : (List Int × Int × Int × Int × Int × Int)) : Prop := SlR p g.1 x.1 ∧ g.2.1 = x.2.1 ∧ g.2.2.1 = x.2.2.1 ∧ g.2.2.2.1 = x.2.2.2.1 ∧ g.2.2.2.2.1 = x.2.2.2.2.1 ∧ g.2.2.2.2.2 = x.2.2.2.2.2
theorem RelP65 : RelP Rel65 rzP65 zP65 := ⟨fun k ⟨h0, h1, h2, h3, h4, h5⟩ => ⟨h0.mono k, h1, h2, h3, h4, h5⟩, fun p => ⟨SlR.zero p, rfl, rfl, rfl, rfl, rfl⟩⟩
theorem val65 {p : HP} {g : (Hd3 × Int × Int × Int × Int × Int)} {x : (List Int × Int × Int × Int × Int × Int)} (h : Rel65 p g x) : encP65 g = [Value.slice g.1.1 x.1.length g.1.2.2, Value.int .i64 (x.2.1), Value.int .i64 (x.2.2.1), Value.int .i64 (x.2.2.2.1), Value.int .i64 (x.2.2.2.2.1), Value.int .i64 (x.2.2.2.2.2)] := by
 obtain ⟨h0, h1, h2, h3, h4, h5⟩ := h
 simp only [encP65, h0.1, h1, h2, h3, h4, h5]
end Go.Proofs.Ytkpkkdpfcbnfdaa
