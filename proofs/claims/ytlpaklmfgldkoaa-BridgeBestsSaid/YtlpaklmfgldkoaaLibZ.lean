/-
  slices.Sort on a row of integers of the call's own: what the shelf's contract leaves.
-/
import Derived.Test.YtlpaklmfgldkoaaLibW
import Derived.Shelf.Sort.Plain
import Derived.Shelf.Slices.In.SortNone
import Derived.Sort.OwnSortedInts
import Derived.Shelf.Slices.CompactI
namespace Go.GL
open Go Go.RowKit Go.Sort Go.Proofs Go.Shelf
variable {Ds : List Nat} {ro : Option Nat}

/-- In rising order. -/
def sortI (l : List Int) : List Int := l.mergeSort fun x y => decide (x ≤ y)
theorem sortI_length (l : List Int) : (sortI l).length = l.length := by unfold sortI; exact List.length_mergeSort l

/-- Neighbours that are the same but once. -/
def compI (l : List Int) : List Int := Lib.compact l
theorem compI_length (l : List Int) : (compI l).length ≤ l.length := by
  unfold compI Lib.compact Lib.compactUpTo
  rw [List.length_map]
  refine Nat.le_trans (List.length_filter_le _ _) ?_
  rw [List.length_range]
  exact Nat.le_refl _

theorem compact_own {P : Program} {ρ : Ren} (Ly : Lays2.n20 P ρ) {et : TypeId} {A : Option Addr} {n c : Nat} {m : List Int} {w0 w : World} {B : Nat} {fs : List HP} (hS : Sep w0 B w (own et (.slice A n c) (vI m) :: fs)) (hmx : (m.length : Int) ≤ bigN) :
    Calls P (ρ.f 20) #[.slice A n c] w fun e w' => ∃ v, e = .returned v ∧ ∃ (A' : Option Addr) (c' : Nat), v = .slice A' (compI m).length c' ∧ Sep w0 B w' (own et (.slice A' (compI m).length c') (vI (compI m)) :: fs) := by
  obtain ⟨f, ⟨hown, hf⟩, hb⟩ := Sep.get (l := []) hS
  rcases hown.2 with ⟨hv, hn⟩ | ⟨g, cap, cur, hv, h1, h2, h3, h4, h5, h6⟩
  · have hm : m = [] := by
      have : (vI m).length = 0 := hn
      rw [List.length_map] at this
      exact List.length_eq_zero_iff.1 this
    subst hm
    cases hv
    refine (Any.slices_Compact_int_empty Ly none 0 w).mono ?_
    rintro e w' ⟨rfl, rfl⟩
    exact ⟨_, rfl, none, 0, rfl, hS⟩
  · cases hv
    have hlen : (vI m).length = m.length := List.length_map ..
    rw [hlen] at h3 h6 hS hf
    rw [hlen]
    rw [Nat.mul_one] at h6
    have hmx : m.length ≤ 9223372036854775807 := by unfold bigN at hmx; omega
    have hg : g < w.heap.size := (Array.getElem?_eq_some_iff.1 h2).1
    refine (Any.slices_Compact_int Ly g 0 c m w (holds_of_blockI h2 h6) hmx h3).mono ?_
    rintro e w' ⟨rfl, k, rfl⟩
    refine ⟨_, rfl, some ⟨g, 0, none⟩, c, rfl, Sep.upd (l := []) hS fun f' hf' hb' => ⟨f', ?_⟩⟩
    have hfe : f' = [g] := by rw [hf'.2]; rfl
    have hcl := compI_length m
    have hzl : (compI m ++ List.replicate (m.length - (compI m).length) 0).length = m.length := by
      rw [List.length_append, List.length_replicate]; omega
    have hgr : putRow (Value.int .i64) (Sort.ahead w k) g 0 (Lib.compact m ++ List.replicate (m.length - (Lib.compact m).length) 0).toArray = grow (putRow (Value.int .i64) (Sort.ahead w k) g 0 (compI m ++ List.replicate (m.length - (compI m).length) 0).toArray) #[] := by
      exact (grow_empty _).symm
    rw [hgr]
    have hr := ownsRow_sortedI (w := w) (base := 0) (n := k) (os := #[]) (ts := compI m ++ List.replicate (m.length - (compI m).length) 0) (ss := m) hzl (Nat.zero_le g) h2 h3 h4 h5
    have hx := Ex.of_grown (grownBy_sortedI (w := w) (g := g) (n := k) (os := #[]) (compI m ++ List.replicate (m.length - (compI m).length) 0).toArray)
    refine ⟨⟨?_, ?_⟩, ?_, ?_, ?_⟩
    · have e : (vI (compI m)).length = (compI m).length := List.length_map ..
      rw [e]
      refine ⟨by rw [e, Nat.mul_one], ?_⟩
      rcases hr.2 with ⟨hv, _⟩ | ⟨g2, cap2, cur2, hv, r1, r2, r3, r4, r5, r6⟩
      · cases hv
      · cases hv
        refine .inr ⟨g, c, cur2, rfl, r1, r2, by omega, r4, r5, ?_⟩
        rw [Nat.mul_one] at r6 ⊢
        have := congrArg (List.take (compI m).length) r6
        rw [List.take_take, Nat.min_eq_left hcl, List.map_append, List.take_append_of_le_length (by rw [List.length_map]; exact Nat.le_refl _)] at this
        rw [this]
        rw [List.take_of_length_le (by rw [List.length_map]; exact Nat.le_refl _)]
    · rw [hfe]; rfl
    · rw [hfe]
      exact hx
    · intro j hj; exact Or.inl hj
    · intro j hj
      exact Nat.lt_of_lt_of_le (hb' j hj).2 hx.size
end Go.GL
