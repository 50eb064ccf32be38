/-
  Plain facts on lists in the order of a comparison; the order of moves (three numbers, one behind the other).
-/
import Derived.Test.YtoickcchcjehdaaLibV
import Derived.Shelf.SlSortCmp.InsertionK
namespace Go.GL
open Go Go.Sort Go.Proofs
variable {Ds : List Nat} {ro : Option Nat}

/-- In the order of a comparison. -/
def sortK {α : Type} (cf : α → α → Int) (l : List α) : List α := l.mergeSort fun x y => !(ltOf cf y x)
theorem sortK_length {α : Type} (cf : α → α → Int) (l : List α) : (sortK cf l).length = l.length := by unfold sortK; exact List.length_mergeSort l

theorem strict_extR {α : Type} {lt : α → α → Prop} (irr : ∀ x, ¬ lt x x) (tr : ∀ x y z, lt x y → lt y z → lt x z) : ∀ {a b : List α}, a.Pairwise lt → b.Pairwise lt → (∀ x, x ∈ a ↔ x ∈ b) → a = b
  | [], [], _, _, _ => rfl
  | [], y :: b, _, _, h => absurd ((h y).2 (by simp)) (by simp)
  | x :: a, [], _, _, h => absurd ((h x).1 (by simp)) (by simp)
  | x :: a, y :: b, ha, hb, h => by
    rw [List.pairwise_cons] at ha hb
    have hxy : x = y := by
      rcases List.mem_cons.1 ((h x).1 (by simp)) with e | e
      · exact e
      · rcases List.mem_cons.1 ((h y).2 (by simp)) with e2 | e2
        · exact e2.symm
        · exact absurd (tr _ _ _ (hb.1 x e) (ha.1 y e2)) (irr y)
    subst hxy
    congr 1
    refine strict_extR irr tr ha.2 hb.2 fun z => ?_
    constructor
    · intro hz
      rcases List.mem_cons.1 ((h z).1 (List.mem_cons_of_mem _ hz)) with e | e
      · subst e; exact absurd (ha.1 z hz) (irr z)
      · exact e
    · intro hz
      rcases List.mem_cons.1 ((h z).2 (List.mem_cons_of_mem _ hz)) with e | e
      · subst e; exact absurd (hb.1 z hz) (irr z)
      · exact e

theorem sortK_mem {α : Type} {cf : α → α → Int} {l : List α} {x : α} : x ∈ sortK cf l ↔ x ∈ l := List.mem_mergeSort

/-- The order of two numbers, and what comes behind where they are one. -/
def cmpI (x y : Int) : Int := if x < y then -1 else if y < x then 1 else 0
end Go.GL
