/-
  A small library of our own: rows that are written no more, kept in a pool; whoever has the pool may read them.
-/
import Derived.Test.YtdjjomghggplpaaLibBg
import Derived.Test.YtdjjomghggplpaaLibRt
namespace Go.GL
open Go Go.RowKit

/-- Where the pool is, the rows may be read. -/
def PoolR (g : HP) (A : Option Addr) (hd : List Hd) (m : List (List Int)) : Prop := ∀ w f, g.at_ w f → RdRows w w.heap.size A hd m
def PoolW (g : HP) (A : Option Addr) (x : List Int) : Prop := ∀ w f, g.at_ w f → Rd w w.heap.size A (vI x)
def PoolA (g : HP) (hd : List Hd) (m : List (List Int)) : Prop := ∀ w f, g.at_ w f → RowsAll w w.heap.size hd m
/-- A pool that holds another. -/
def PoolLe (g g' : HP) : Prop := ∀ w f, g'.at_ w f → ∃ f', g.at_ w f'

section
variable {w0 w : World} {B : Nat} {ps fs l r : List HP} {a b g g' g'' : HP} {A : Option Addr} {hd hd2 : List Hd} {m m2 : List (List Int)} {x : List Int} {e ei : TypeId} {n c : Nat}

theorem PoolLe.refl (g : HP) : PoolLe g g := fun _ f h => ⟨f, h⟩
theorem PoolLe.trans (h : PoolLe g g') (k : PoolLe g' g'') : PoolLe g g'' := fun w f hf => by
  obtain ⟨f', h'⟩ := k w f hf
  exact h w f' h'
theorem PoolLe.right : PoolLe b (twoB a b) := fun w f hf => by
  have hf' : SepL w [a, b] f := hf
  cases hf' with
  | cons _ h1 _ =>
    cases h1 with
    | cons hb _ _ => exact ⟨_, hb⟩
theorem PoolLe.left : PoolLe a (twoB a b) := fun w f hf => by
  have hf' : SepL w [a, b] f := hf
  cases hf' with
  | cons ha _ _ => exact ⟨_, ha⟩
theorem PoolR.mono (k : PoolLe g g') (h : PoolR g A hd m) : PoolR g' A hd m := fun w f hf => by
  obtain ⟨f', h'⟩ := k w f hf
  exact h w f' h'
theorem PoolW.mono (k : PoolLe g g') (h : PoolW g A x) : PoolW g' A x := fun w f hf => by
  obtain ⟨f', h'⟩ := k w f hf
  exact h w f' h'
theorem PoolA.mono (k : PoolLe g g') (h : PoolA g hd m) : PoolA g' hd m := fun w f hf => by
  obtain ⟨f', h'⟩ := k w f hf
  exact h w f' h'

theorem PoolR.at_ (h : PoolR g A hd m) (hS : Sep w0 B w ps) (i : Nat) (hi : ps[i]? = some g) : RdRows w w.heap.size A hd m := by
  obtain ⟨f, hf, _⟩ := (hS.at_ i hi).get
  exact h w f hf
theorem PoolW.at_ (h : PoolW g A x) (hS : Sep w0 B w ps) (i : Nat) (hi : ps[i]? = some g) : Rd w w.heap.size A (vI x) := by
  obtain ⟨f, hf, _⟩ := (hS.at_ i hi).get
  exact h w f hf

theorem PoolR.nil (g : HP) : PoolR g none [] [] := fun w f _ => ⟨rfl, Rd.nil _ _ _, fun i hi => by simp at hi; omega⟩
theorem PoolW.nil (g : HP) : PoolW g none [] := fun w f _ => Rd.nil _ _ _
theorem PoolR.rows : PoolR (twoB (rows e ei (.slice A n c) hd m) g) A hd m := fun w f hf => by
  obtain ⟨f', hl, hf'⟩ := PoolLe.left w f hf
  refine ⟨hl, ?_, fun i hi => ?_⟩
  · cases hf' with
    | cons h1 _ _ => exact own_rd h1
  · obtain ⟨F, h1, _, _⟩ := hf'.fn
    have h2 := h1 (i.toNat + 1) _ (by simpa using rowHP_get (ei := ei) hl hi)
    exact ⟨own_rd h2, by simpa using own_cap h2⟩
theorem PoolW.own : PoolW (twoB (GL.own e (.slice A n c) (vI x)) g) A x := fun w f hf => by
  obtain ⟨f', hf'⟩ := PoolLe.left w f hf
  exact own_rd hf'
theorem PoolR.row {i : Int} (h : PoolR g A hd m) (hi : 0 ≤ i ∧ i < m.length) : PoolW g (hdA hd i) (geti2 m i) := fun w f hf => ((h w f hf).row i hi).1
theorem PoolR.all (h : PoolR g A hd m) : PoolA g hd m := fun w f hf => (h w f hf).all
theorem PoolA.nil (g : HP) : PoolA g [] [] := fun _ _ _ => trivial
theorem PoolA.app (h : PoolA g hd m) (k : PoolA g hd2 m2) : PoolA g (hd ++ hd2) (m ++ m2) := fun w f hf => (h w f hf).app (k w f hf)
theorem PoolA.one (h : PoolW g A x) (hc : x.length ≤ c) : PoolA g [(A, c)] [x] := fun w f hf => ⟨⟨h w f hf, hc⟩, trivial⟩
theorem PoolR.hdrs (h : PoolA g hd m) : PoolR (twoB (GL.hdrs e A n c hd m) g) A hd m := fun w f hf => by
  obtain ⟨f1, hh⟩ := PoolLe.left w f hf
  obtain ⟨f2, hg⟩ := PoolLe.right w f hf
  have ha := h w f2 hg
  refine ⟨ha.len, own_rd hh.1, fun j hj => ?_⟩
  obtain ⟨k, rfl⟩ := Int.eq_ofNat_of_zero_le hj.1
  exact ha.get k (by omega)

theorem hdV_cut (hd : List Hd) (m : List (List Int)) (lo hi : Int) : hdV (cut hd lo hi) (cut m lo hi) = cut (hdV hd m) lo hi := by
  unfold hdV cut
  rw [List.drop_zipWith, List.take_zipWith]
theorem cut_lenI {α : Type} {m : List α} {lo hi : Int} (h : 0 ≤ lo ∧ lo ≤ hi ∧ hi ≤ (m.length : Int)) : ((cut m lo hi).length : Int) = hi - lo := by
  unfold cut
  rw [List.length_take, List.length_drop]
  omega
theorem RdRows.cut {c : Nat} {lo hi : Int} (h : RdRows w B A hd m) (hb : 0 ≤ lo ∧ lo ≤ hi ∧ hi ≤ (m.length : Int)) (hc : m.length ≤ c) : RdRows w B (cutAddr A c lo) (GL.cut hd lo hi) (GL.cut m lo hi) := by
  have hl := h.len
  have h1 := cut_lenI hb
  have h2 : ((GL.cut hd lo hi).length : Int) = hi - lo := cut_lenI (by omega)
  refine ⟨by omega, ?_, fun j hj => ?_⟩
  · rw [hdV_cut]
    exact h.out.cut hb.1 hb.2.1 (by rw [hdV_length hl]; exact hb.2.2) (by rw [hdV_length hl]; exact hc)
  · have h3 := h.row (lo + j) (by omega)
    have e1 : (lo + j).toNat = lo.toNat + j.toNat := by omega
    have e2 : hdA (GL.cut hd lo hi) j = hdA hd (lo + j) ∧ hdC (GL.cut hd lo hi) j = hdC hd (lo + j) := by
      unfold hdA hdC GL.cut
      rw [List.getD_eq_getElem?_getD, List.getD_eq_getElem?_getD, List.getElem?_take, if_pos (by omega), List.getElem?_drop, e1]
      exact ⟨rfl, rfl⟩
    have e3 : geti2 (GL.cut m lo hi) j = geti2 m (lo + j) := by
      unfold geti2 GL.cut
      rw [List.getD_eq_getElem?_getD, List.getD_eq_getElem?_getD, List.getElem?_take, if_pos (by omega), List.getElem?_drop, e1]
    rw [e2.1, e2.2, e3]
    exact h3
theorem PoolR.cut {lo hi : Int} (h : PoolR g A hd m) (hb : 0 ≤ lo ∧ lo ≤ hi ∧ hi ≤ (m.length : Int)) (hc : m.length ≤ c) : PoolR g (cutAddr A c lo) (GL.cut hd lo hi) (GL.cut m lo hi) := fun w f hf => (h w f hf).cut hb hc
end

section
variable {P : Program} {w0 w : World} {B : Nat} {l r ps : List HP} {t e ei : TypeId} {inf : TypeInfo} {A : Option Addr} {n c : Nat} {hd hd2 : List Hd} {m m2 : List (List Int)}

end
end Go.GL
