/-
  Plain facts on lists in the order of a comparison; the order of moves (three numbers, one behind the other).
-/
import Derived.Test.YtjfloofoobllaaaLibV
import Derived.Shelf.SlSortCmp.InsertionK
namespace Go.GL
open Go Go.Sort Go.Proofs
variable {Ds : List Nat} {ro : Option Nat}

/-- In the order of a comparison. -/
def sortK {α : Type} (cf : α → α → Int) (l : List α) : List α := l.mergeSort fun x y => !(ltOf cf y x)
theorem sortK_length {α : Type} (cf : α → α → Int) (l : List α) : (sortK cf l).length = l.length := by unfold sortK; exact List.length_mergeSort l

theorem strict_extR {α : Type} {lt : α → α → Prop} (irr : ∀ x, ¬ lt x x) (tr : ∀ x y z, lt x y → lt y z → lt x z) : ∀ {a b : List α}, a.Pairwise lt → b.Pairwise lt → (∀ x, x ∈ a ↔ x ∈ b) → a = b
  | [], [], _, _, _ => rfl
  | [], y :: b, _, _, h => absurd ((h y).2 (by simp)) (by simp)
  | x :: a, [], _, _, h => absurd ((h x).1 (by simp)) (by simp)
  | x :: a, y :: b, ha, hb, h => by
    rw [List.pairwise_cons] at ha hb
    have hxy : x = y := by
      rcases List.mem_cons.1 ((h x).1 (by simp)) with e | e
      · exact e
      · rcases List.mem_cons.1 ((h y).2 (by simp)) with e2 | e2
        · exact e2.symm
        · exact absurd (tr _ _ _ (hb.1 x e) (ha.1 y e2)) (irr y)
    subst hxy
    congr 1
    refine strict_extR irr tr ha.2 hb.2 fun z => ?_
    constructor
    · intro hz
      rcases List.mem_cons.1 ((h z).1 (List.mem_cons_of_mem _ hz)) with e | e
      · subst e; exact absurd (ha.1 z hz) (irr z)
      · exact e
    · intro hz
      rcases List.mem_cons.1 ((h z).2 (List.mem_cons_of_mem _ hz)) with e | e
      · subst e; exact absurd (hb.1 z hz) (irr z)
      · exact e

theorem sortK_mem {α : Type} {cf : α → α → Int} {l : List α} {x : α} : x ∈ sortK cf l ↔ x ∈ l := List.mem_mergeSort

theorem sortK_lt {α : Type} {cf : α → α → Int} (hO : SWO (ltOf cf)) (hT : ∀ x y, (ltOf cf) x y = false → (ltOf cf) y x = false → x = y) {l : List α} (h : l.Nodup) : (sortK cf l).Pairwise (fun x y => ltOf cf x y = true) := by
  have hn : (sortK cf l).Nodup := (List.mergeSort_perm l _).nodup_iff.2 h
  have hs : (sortK cf l).Pairwise (fun x y => (!(ltOf cf y x)) = true) := by
    refine List.pairwise_mergeSort (le := fun x y => !(ltOf cf y x)) (fun a b c h1 h2 => ?_) (fun a b => ?_) l
    · simp only [Bool.not_eq_true'] at h1 h2 ⊢
      exact hO.ntrans _ _ _ h2 h1
    · cases h1 : ltOf cf b a <;> cases h2 : ltOf cf a b <;> simp
      have := hO.trans _ _ _ h1 h2
      rw [hO.irrefl] at this
      exact absurd this (by simp)
  refine hs.imp₂ (fun x y h1 h2 => ?_) hn
  simp only [Bool.not_eq_true'] at h1
  cases h3 : ltOf cf x y with
  | true => rfl
  | false => exact absurd (hT x y h3 h1) h2

/-- What sorts to a list in order. -/
theorem sortK_eq {α : Type} {cf : α → α → Int} (hO : SWO (ltOf cf)) (hT : ∀ x y, (ltOf cf) x y = false → (ltOf cf) y x = false → x = y) {l r : List α} (h : l.Nodup) (hr : r.Pairwise (fun x y => ltOf cf x y = true)) (hm : ∀ x, x ∈ l ↔ x ∈ r) : sortK cf l = r :=
  strict_extR (lt := fun x y => ltOf cf x y = true) (fun x e => by rw [hO.irrefl] at e; exact absurd e (by simp)) (fun x y z => hO.trans x y z) (sortK_lt hO hT h) hr (fun x => sortK_mem.trans (hm x))

/-- The order of two numbers, and what comes behind where they are one. -/
def cmpI (x y : Int) : Int := if x < y then -1 else if y < x then 1 else 0
def orI (a b : Int) : Int := if a = 0 then b else a
end Go.GL
