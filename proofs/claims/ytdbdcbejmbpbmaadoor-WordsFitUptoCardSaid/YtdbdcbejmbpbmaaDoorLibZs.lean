/-
  slices.Sort and slices.Compact on a row of strings of the call's own: what the shelf's contract leaves.
-/
import Derived.Test.YtdbdcbejmbpbmaaDoorLibSu
import Derived.Shelf.Sort.Plain
import Derived.Shelf.Slices.In.SortNone
import Derived.Sort.OwnSorted
import Derived.Shelf.Slices.CompactS
namespace Go.GL
open Go Go.RowKit Go.Sort Go.Proofs Go.Shelf

/-- A row of strings, as it lies. -/
abbrev vT (m : List (List UInt8)) : List Value := List.map strV m
/-- In rising order. -/
def sortT (l : List (List UInt8)) : List (List UInt8) := l.mergeSort fun x y => decide (x ≤ y)
theorem sortT_length (l : List (List UInt8)) : (sortT l).length = l.length := by unfold sortT; exact List.length_mergeSort l

/-- Neighbours that are the same but once. -/
def compT (l : List (List UInt8)) : List (List UInt8) := Lib.compact l
theorem compT_length (l : List (List UInt8)) : (compT l).length ≤ l.length := by
  unfold compT Lib.compact Lib.compactUpTo
  rw [List.length_map]
  refine Nat.le_trans (List.length_filter_le _ _) ?_
  rw [List.length_range]
  exact Nat.le_refl _

theorem compactT_own {P : Program} {ρ : Ren} (Ly : Lays.n194 P ρ) {et : TypeId} {A : Option Addr} {n c : Nat} {m : List (List UInt8)} {w0 w : World} {B : Nat} {fs : List HP} (hS : Sep w0 B w (own et (.slice A n c) (vT m) :: fs)) (hmx : (m.length : Int) ≤ bigN) :
    Calls P (ρ.f 194) #[.slice A n c] w fun e w' => ∃ v, e = .returned v ∧ ∃ (A' : Option Addr) (c' : Nat), v = .slice A' (compT m).length c' ∧ Sep w0 B w' (own et (.slice A' (compT m).length c') (vT (compT m)) :: fs) := by
  obtain ⟨f, ⟨hown, hf⟩, hb⟩ := Sep.get (l := []) hS
  rcases hown.2 with ⟨hv, hn⟩ | ⟨g, cap, cur, hv, h1, h2, h3, h4, h5, h6⟩
  · have hm : m = [] := by
      have : (vT m).length = 0 := hn
      rw [List.length_map] at this
      exact List.length_eq_zero_iff.1 this
    subst hm
    cases hv
    refine (Any.slices_Compact_string_empty Ly none 0 w).mono ?_
    rintro e w' ⟨rfl, rfl⟩
    exact ⟨_, rfl, none, 0, rfl, hS⟩
  · cases hv
    have hlen : (vT m).length = m.length := List.length_map ..
    rw [hlen] at h3 h6 hS hf
    rw [hlen]
    rw [Nat.mul_one] at h6
    have hmx : m.length ≤ 9223372036854775807 := by unfold bigN at hmx; omega
    have hg : g < w.heap.size := (Array.getElem?_eq_some_iff.1 h2).1
    refine (Any.slices_Compact_string Ly g 0 c m w (holds_of_block h2 h6) hmx h3).mono ?_
    rintro e w' ⟨rfl, k, rfl⟩
    refine ⟨_, rfl, some ⟨g, 0, none⟩, c, rfl, Sep.upd (l := []) hS fun f' hf' hb' => ⟨f', ?_⟩⟩
    have hfe : f' = [g] := by rw [hf'.2]; rfl
    have hcl := compT_length m
    have hzl : (compT m ++ List.replicate (m.length - (compT m).length) []).length = m.length := by
      rw [List.length_append, List.length_replicate]; omega
    have hgr : putRow encStr (Sort.ahead w k) g 0 (Lib.compact m ++ List.replicate (m.length - (Lib.compact m).length) []).toArray = grow (putRow encStr (Sort.ahead w k) g 0 (compT m ++ List.replicate (m.length - (compT m).length) []).toArray) #[] := by
      exact (grow_empty _).symm
    rw [hgr]
    have hr := ownsRow_sorted (w := w) (base := 0) (n := k) (os := #[]) (ts := compT m ++ List.replicate (m.length - (compT m).length) []) (ss := m) hzl (Nat.zero_le g) h2 h3 h4 h5
    have hx := Ex.of_grown (grownBy_sorted (w := w) (g := g) (n := k) (os := #[]) (compT m ++ List.replicate (m.length - (compT m).length) []).toArray)
    refine ⟨⟨?_, ?_⟩, ?_, ?_, ?_⟩
    · have e : (vT (compT m)).length = (compT m).length := List.length_map ..
      rw [e]
      refine ⟨by rw [e, Nat.mul_one], ?_⟩
      rcases hr.2 with ⟨hv, _⟩ | ⟨g2, cap2, cur2, hv, r1, r2, r3, r4, r5, r6⟩
      · cases hv
      · cases hv
        refine .inr ⟨g, c, cur2, rfl, r1, r2, by omega, r4, r5, ?_⟩
        rw [Nat.mul_one] at r6 ⊢
        have := congrArg (List.take (compT m).length) r6
        rw [List.take_take, Nat.min_eq_left hcl, List.map_append, List.take_append_of_le_length (by rw [List.length_map]; exact Nat.le_refl _)] at this
        rw [this]
        rw [List.take_of_length_le (by rw [List.length_map]; exact Nat.le_refl _)]
    · rw [hfe]; rfl
    · rw [hfe]
      exact hx
    · intro j hj; exact Or.inl hj
    · intro j hj
      exact Nat.lt_of_lt_of_le (hb' j hj).2 hx.size
end Go.GL
