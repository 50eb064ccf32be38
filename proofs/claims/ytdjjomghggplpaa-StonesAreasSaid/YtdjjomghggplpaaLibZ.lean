/-
  slices.Sort on a row of integers of the call's own: what the shelf's contract leaves.
-/
import Derived.Test.YtdjjomghggplpaaLibW
import Derived.Shelf.Sort.Plain
import Derived.Shelf.Slices.In.SortNone
import Derived.Sort.OwnSortedInts
import Derived.Shelf.Slices.CompactI
namespace Go.GL
open Go Go.RowKit Go.Sort Go.Proofs Go.Shelf
variable {Ds : List Nat} {ro : Option Nat}

/-- In rising order. -/
def sortI (l : List Int) : List Int := l.mergeSort fun x y => decide (x ≤ y)
theorem sortI_length (l : List Int) : (sortI l).length = l.length := by unfold sortI; exact List.length_mergeSort l

theorem sort_own {P : Program} {ρ : Ren} (Ly : Lays.n189 P ρ) {et : TypeId} {A : Option Addr} {n c : Nat} {m : List Int} {w0 w : World} {B : Nat} {fs : List HP} (hS : Sep w0 B w (own et (.slice A n c) (vI m) :: fs)) (hmx : (m.length : Int) ≤ bigN) :
    Calls P (ρ.f 189) #[.slice A n c] w fun e w' => ∃ v, e = .returned v ∧ v = .tuple #[] ∧ Sep w0 B w' (own et (.slice A n c) (vI (sortI m)) :: fs) := by
  obtain ⟨f, ⟨hown, hf⟩, hb⟩ := Sep.get (l := []) hS
  rcases hown.2 with ⟨hv, hn⟩ | ⟨g, cap, cur, hv, h1, h2, h3, h4, h5, h6⟩
  · have hm : m = [] := by
      have : (vI m).length = 0 := hn
      rw [List.length_map] at this
      exact List.length_eq_zero_iff.1 this
    subst hm
    cases hv
    refine (Any.slices_Sort_int_none Ly none 0 w).mono ?_
    rintro e w' ⟨rfl, rfl⟩
    refine ⟨_, rfl, rfl, ?_⟩
    have : sortI [] = [] := List.eq_nil_of_length_eq_zero (sortI_length [])
    rw [this]; exact hS
  · cases hv
    have hlen : (vI m).length = m.length := List.length_map ..
    rw [hlen] at h3 h6 hS hf
    rw [hlen]
    rw [Nat.mul_one] at h6
    have hmx : m.length < 4611686018427387904 := by unfold bigN at hmx; omega
    have hg : g < w.heap.size := (Array.getElem?_eq_some_iff.1 h2).1
    refine (Any.slices_Sort_int Ly g 0 c m w (holds_of_blockI h2 h6) hg hmx).mono ?_
    rintro e w' ⟨rfl, k, os, rfl⟩
    refine ⟨_, rfl, rfl, Sep.upd (l := []) hS fun f' hf' hb' => ⟨f', ?_⟩⟩
    have hr := ownsRow_sortedI (w := w) (base := 0) (n := k) (os := os) (ts := sortI m) (ss := m) (sortI_length m) (Nat.zero_le g) h2 h3 h4 h5
    have hfe : f' = [g] := by rw [hf'.2]; rfl
    refine ⟨⟨?_, ?_⟩, ?_, ?_, ?_⟩
    · have e : (vI (sortI m)).length = m.length := by rw [List.length_map, sortI_length]
      rw [e]
      exact hr
    · rw [hfe]; rfl
    · rw [hfe]
      exact Ex.of_grown (grownBy_sortedI _)
    · intro j hj; exact Or.inl hj
    · intro j hj
      exact Nat.lt_of_lt_of_le (hb' j hj).2 (Ex.of_grown (grownBy_sortedI (w := w) (g := g) (n := k) (os := os) (sortI m).toArray)).size

end Go.GL
