/-
  Models and walks, printed by our own program (wip/gen).
-/
import Derived.Test.YtdjjomghggplpaaFB
import Derived.Test.YtdjjomghggplpaaLibEl
import Derived.Test.YtdjjomghggplpaaLibPr
namespace Go.Proofs.Ytdjjomghggplpaa
open Go Go.GL Go.RowKit


abbrev zP92 : (List Int × List Int × Bool) := ((([] : List Int), ([] : List Int), false) : (List Int × List Int × Bool))

abbrev rzP92 : (Nat × Hd3 × Hd3) := ((0, (none, 0, 0), (none, 0, 0)) : (Nat × Hd3 × Hd3))

abbrev encP92 : (Nat × Hd3 × Hd3) → List Value := fun p => [Value.pointer (some ⟨p.1, 0, none⟩)]

theorem encPK92 : EncK encP92 1 := ⟨fun _ => rfl, fun _ u hu => by simp at hu; subst hu; rfl, by decide⟩

abbrev gfP92 : (Nat × Hd3 × Hd3) → Nat := fun g => g.1

abbrev cfP92 : (Nat × Hd3 × Hd3) → (List Int × List Int × Bool) → List Value := fun g x => [Value.slice g.2.1.1 x.1.length g.2.1.2.2, Value.slice g.2.2.1 x.2.1.length g.2.2.2.2, Value.bool (x.2.2)]

abbrev RelQ92 (p : HP) (g : (Nat × Hd3 × Hd3)) (x : (List Int × List Int × Bool)) : Prop := SlR p g.2.1 x.1 ∧ SlR p g.2.2 x.2.1

theorem RelMQ92 : RelM RelQ92 := ⟨fun k ⟨h0, h1⟩ => ⟨h0.mono k, h1.mono k⟩⟩

end Go.Proofs.Ytdjjomghggplpaa
