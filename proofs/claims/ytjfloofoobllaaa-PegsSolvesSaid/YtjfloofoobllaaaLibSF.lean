/-
  slices.SortFunc on a row of the call's own whose elements have several cells, under a comparison that parts whatever two are not one: what the shelf's contract leaves.
-/
import Derived.Test.YtjfloofoobllaaaLibV
import Derived.Test.YtjfloofoobllaaaLibST
import Derived.Shelf.SlSortCmp.NoneTotal
namespace Go.GL
open Go Go.RowKit Go.Sort Go.Proofs Go.Shelf
variable {Ds : List Nat} {ro : Option Nat}

/-- What is asked of a comparison: in whatever world it is called it tells; it may draw and lay blocks. -/
def CmpOk {α : Type} (P : Program) (g : Nat) (F : α → List Value) (cf : α → α → Int) : Prop :=
  ∀ x y W, Calls P g #[.agg (F x).toArray, .agg (F y).toArray] W fun e w' => e = .returned (.int .i64 (cf x y)) ∧ ∃ q os', w' = grow (W.drewN q) os'

section
variable {α : Type} [Inhabited α] {F : α → List Value} {k : Nat}

theorem flatK_list (hF : EncK F k) (m : List α) : (flatK F k m.toArray).toList = m.flatMap F := by
  apply List.ext_getElem?
  intro t
  by_cases ht : t < m.length * k
  · have h1 : t / k < m.length := (Nat.div_lt_iff_lt_mul hF.pos).2 ht
    have h2 : t % k < k := Nat.mod_lt _ hF.pos
    have h3 := flatMap_get hF (default : α) m (t / k) (t % k) h1 h2
    rw [Nat.div_add_mod' t k] at h3
    have h4 : (flatK F k m.toArray)[t]! = (F m.toArray[t / k]!)[t % k]! := get_flatK F k m.toArray t (by simpa using ht)
    have h5 : t < (flatK F k m.toArray).size := by rw [size_flatK]; simpa using ht
    rw [h3, Array.getElem?_toList, Array.getElem?_eq_getElem h5]
    rw [getElem!_pos (flatK F k m.toArray) t h5] at h4
    rw [h4]
    have h6 : m.toArray[t / k]! = m.getD (t / k) default := by
      rw [getElem!_pos m.toArray (t / k) (by simpa using h1)]
      simp [List.getD_eq_getElem?_getD, List.getElem?_eq_getElem h1]
    rw [h6]
    have h7 : t % k < (F (m.getD (t / k) default)).length := by rw [hF.len]; exact h2
    rw [getElem!_pos (F (m.getD (t / k) default)) (t % k) h7, List.getElem?_eq_getElem h7]
  · rw [List.getElem?_eq_none (by rw [Array.length_toList, size_flatK]; simpa using ht), List.getElem?_eq_none (by rw [flatMap_len hF]; omega)]

theorem holds_of_blockV {w : World} {g : Nat} {cur : Array Value} {e : TypeId} {d : Array Value} (hb : w.heap[g]? = some (.cells cur e (0, 0))) (ht : cur.toList.take d.size = d.toList) : Holds id w g 0 d := by
  intro j hj
  refine ⟨?_, by simp [World.frozen?, hb]⟩
  have h1 : (cur.toList.take d.size)[j]? = d.toList[j]? := by rw [ht]
  rw [List.getElem?_take_of_lt hj] at h1
  simp only [World.cell?, hb, Nat.zero_add]
  simp only [Option.isSome_none, Bool.false_eq_true, if_false]
  rw [← Array.getElem?_toList, h1]
  simp [hj]

theorem heap_sortedV {w : World} {g n : Nat} {os : Array Obj} {cur : Array Value} {e : TypeId} {fr : Nat × Nat} (d : Array Value) (hb : w.heap[g]? = some (.cells cur e fr)) :
    (grow (putRow id (Sort.ahead w n) g 0 d) os).heap[g]? = some (.cells (putCells id 0 d cur) e fr) := by
  have hg : g < w.heap.size := (Array.getElem?_eq_some_iff.1 hb).1
  rw [heap_grow_old _ _ (by simpa using hg)]
  simp [putRow, mapBlock, Sort.ahead, Array.getElem?_modify, hb, onCells]

theorem grownBy_sortedV {w : World} {g n : Nat} {os : Array Obj} (d : Array Value) : w.grownBy (grow (putRow id (Sort.ahead w n) g 0 d) os) (some g) := by
  refine ⟨rfl, rfl, rfl, by simp, fun k hk hne => ?_⟩
  rw [heap_grow_old _ _ (by simpa using hk)]
  have : g ≠ k := fun e => hne (by rw [e])
  simp [putRow, mapBlock, Sort.ahead, Array.getElem?_modify, this]

theorem take_putCellsV (cur : Array Value) (d : Array Value) (h : d.size ≤ cur.size) : (putCells id 0 d cur).toList.take d.size = d.toList := by
  apply List.ext_getElem?
  intro j
  by_cases hj : j < d.size
  · rw [List.getElem?_take_of_lt hj, Array.getElem?_toList]
    simp [putCells, hj, show j < cur.size by omega]
  · rw [List.getElem?_take_eq_none (by omega), List.getElem?_eq_none (by simp; omega)]

theorem sortF_own {P : Program} {ρ : Ren} (Ly : SlLaysF0.n6 P ρ) (hF : EncK F k) (aE : ∀ w, (isAgg (ρ.t 24)).run P w = .ok true w) (zE : ∀ w, (Go.sizeOf (ρ.t 24)).run P w = .ok k w) {cf : α → α → Int} (hO : SWO (ltOf cf)) (hT : ∀ x y, (ltOf cf) x y = false → (ltOf cf) y x = false → x = y)
    {g : Nat} (eg : ∀ args w, (callFunc g args).run P w = .ok (.enter g args) w) (hcmp : CmpOk P g F cf)
    {et : TypeId} {A : Option Addr} {n c : Nat} {m : List α} {w0 w : World} {B : Nat} {fs : List HP} (hS : Sep w0 B w (ownK et k A n c (m.flatMap F) :: fs)) (hmx : (m.length : Int) ≤ bigN) :
    Calls P (ρ.f 6) #[.slice A n c, .func (.func g) #[] #[]] w fun e w' => ∃ v, e = .returned v ∧ v = .tuple #[] ∧ Sep w0 B w' (ownK et k A n c ((sortK cf m).flatMap F) :: fs) := by
  obtain ⟨f, ⟨hown, hf⟩, hb⟩ := Sep.get (l := []) hS
  have hn : n = m.length := Sep.lenK (l := []) hF hS
  rcases hown.2 with ⟨hv, hn0⟩ | ⟨b, cap, cur, hv, h1, h2, h3, h4, h5, h6⟩
  · have hm : m = [] := List.eq_nil_of_length_eq_zero (by omega)
    subst hm
    cases hv
    refine (AnyF.slices_SortFunc_none { Ly with } none 0 _ w).mono ?_
    rintro e w' ⟨rfl, rfl⟩
    refine ⟨_, rfl, rfl, ?_⟩
    have : sortK cf [] = [] := List.eq_nil_of_length_eq_zero (sortK_length cf [])
    rw [this]; exact hS
  · cases hv
    subst hn
    have hmx : m.length < 4611686018427387904 := by unfold bigN at hmx; omega
    have hg : b < w.heap.size := (Array.getElem?_eq_some_iff.1 h2).1
    have hH : HoldsK F k w b 0 m.toArray := by
      refine holds_of_blockV h2 ?_
      rw [flatK_list hF, size_flatK]
      simpa using h6
    have hC := AnyQ.slices_SortFunc_total Ly k aE zE F hF.len hF.one cf hO g #[] b 0 c m.toArray w eg (fun _ _ _ _ x y => hcmp x y _) hH hg (by simpa using hmx) hT
    refine (show Calls P (ρ.f 6) #[.slice (some ⟨b, 0, none⟩) m.length c, .func (.func g) #[] #[]] w _ from hC).mono ?_
    rintro e w' ⟨rfl, q, os, rfl⟩
    refine ⟨_, rfl, rfl, Sep.upd (l := []) hS fun f' hf' hb' => ⟨f', ?_⟩⟩
    have hfe : f' = [b] := by rw [hf'.2]; rfl
    have hsz : (flatK F k (sortK cf m).toArray).size = m.length * k := by rw [size_flatK]; simp [sortK_length]
    have hw : sortWorldK F k w b 0 q (List.mergeSort m.toArray.toList fun x y => !(ltOf cf) y x).toArray os = grow (putRow id (Sort.ahead w q) b 0 (flatK F k (sortK cf m).toArray)) os := rfl
    rw [hw]
    refine ⟨⟨⟨?_, .inr ⟨b, c, _, rfl, h1, heap_sortedV _ h2, h3, h4, by simp [putCells, h5], ?_⟩⟩, ?_⟩, ?_, ?_, ?_⟩
    · rw [flatMap_len hF, sortK_length]
    · rw [← hsz, take_putCellsV _ _ (by rw [hsz, h5]; exact Nat.mul_le_mul_right k h3), flatK_list hF]
    · rw [hfe]; rfl
    · rw [hfe]
      exact Ex.of_grown (grownBy_sortedV _)
    · intro j hj; exact Or.inl hj
    · intro j hj
      exact Nat.lt_of_lt_of_le (hb' j hj).2 (Ex.of_grown (grownBy_sortedV (w := w) (g := b) (n := q) (os := os) (flatK F k (sortK cf m).toArray))).size
end
end Go.GL
