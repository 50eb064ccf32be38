/-
  slices.Delete on a row of integers of the call's own: what the shelf's contract leaves.
-/
import Derived.Test.YtlkdblflibgfpaaLibZ
import Derived.Shelf.Slices.Delete
import Derived.Shelf.Slices.Empties
namespace Go.GL
open Go Go.RowKit Go.Sort Go.Proofs Go.Shelf

/-- Without those from i on, up to j. -/
def delI (m : List Int) (i j : Int) : List Int := m.take i.toNat ++ m.drop j.toNat
theorem delI_length {m : List Int} {i j : Int} (h : 0 ≤ i ∧ i ≤ j ∧ j ≤ m.length) : (delI m i j).length = m.length - (j.toNat - i.toNat) := by
  unfold delI
  rw [List.length_append, List.length_take, List.length_drop]
  omega

theorem delete_own {P : Program} {ρ : Ren} (Ly : Lays2.n23 P ρ) {et : TypeId} {A : Option Addr} {n c : Nat} {m : List Int} {i j : Int} {w0 w : World} {B : Nat} {fs : List HP} (hS : Sep w0 B w (own et (.slice A n c) (vI m) :: fs)) (hij : 0 ≤ i ∧ i ≤ j ∧ j ≤ (m.length : Int)) :
    Calls P (ρ.f 23) #[.slice A n c, .int .i64 i, .int .i64 j] w fun e w' => ∃ v, e = .returned v ∧ ∃ (A' : Option Addr) (c' : Nat), v = .slice A' (delI m i j).length c' ∧ Sep w0 B w' (own et (.slice A' (delI m i j).length c') (vI (delI m i j)) :: fs) := by
  obtain ⟨f, ⟨hown, hf⟩, hb⟩ := Sep.get (l := []) hS
  obtain ⟨i, rfl⟩ : ∃ k : Nat, i = (k : Int) := ⟨i.toNat, by omega⟩
  obtain ⟨j, rfl⟩ : ∃ k : Nat, j = (k : Int) := ⟨j.toNat, by omega⟩
  rcases hown.2 with ⟨hv, hn⟩ | ⟨g, cap, cur, hv, h1, h2, h3, h4, h5, h6⟩
  · have hm : m = [] := by
      have : (vI m).length = 0 := hn
      rw [List.length_map] at this
      exact List.length_eq_zero_iff.1 this
    subst hm
    cases hv
    obtain rfl : i = 0 := by simp at hij; omega
    obtain rfl : j = 0 := by simp at hij; omega
    refine (Any.slices_Delete_int_empty Ly none 0 w).mono ?_
    rintro e w' ⟨rfl, rfl⟩
    exact ⟨_, rfl, none, 0, rfl, hS⟩
  · cases hv
    have hlen : (vI m).length = m.length := List.length_map ..
    rw [hlen] at h3 h6 hS hf
    rw [hlen]
    rw [Nat.mul_one] at h6
    have hcm : c ≤ 9223372036854775807 := by unfold maxLen at h4; omega
    have hg : g < w.heap.size := (Array.getElem?_eq_some_iff.1 h2).1
    have hdl := delI_length (m := m) (i := (i : Int)) (j := (j : Int)) hij
    rw [Int.toNat_natCast, Int.toNat_natCast] at hdl
    have hdm : delI m (i : Int) (j : Int) = m.take i ++ m.drop j := rfl
    refine (Any.slices_Delete_int Ly g 0 c i j m w (holds_of_blockI h2 h6) h3 hcm (by omega) (by omega)).mono ?_
    rintro e w' ⟨rfl, k, rfl⟩
    rw [← hdl]
    refine ⟨_, rfl, some ⟨g, 0, none⟩, c, rfl, Sep.upd (l := []) hS fun f' hf' hb' => ⟨f', ?_⟩⟩
    have hfe : f' = [g] := by rw [hf'.2]; rfl
    have hcl : (delI m (i : Int) (j : Int)).length ≤ m.length := by omega
    have hzl : (delI m (i : Int) (j : Int) ++ List.replicate (j - i) 0).length = m.length := by
      rw [List.length_append, List.length_replicate]; omega
    have hgr : putRow (Value.int .i64) (Sort.ahead w k) g 0 (m.take i ++ m.drop j ++ List.replicate (j - i) 0).toArray = grow (putRow (Value.int .i64) (Sort.ahead w k) g 0 (delI m (i : Int) (j : Int) ++ List.replicate (j - i) 0).toArray) #[] := by
      rw [hdm]
      exact (grow_empty _).symm
    rw [hgr]
    have hr := ownsRow_sortedI (w := w) (base := 0) (n := k) (os := #[]) (ts := delI m (i : Int) (j : Int) ++ List.replicate (j - i) 0) (ss := m) hzl (Nat.zero_le g) h2 h3 h4 h5
    have hx := Ex.of_grown (grownBy_sortedI (w := w) (g := g) (n := k) (os := #[]) (delI m (i : Int) (j : Int) ++ List.replicate (j - i) 0).toArray)
    refine ⟨⟨?_, ?_⟩, ?_, ?_, ?_⟩
    · have e : (vI (delI m (i : Int) (j : Int))).length = (delI m (i : Int) (j : Int)).length := List.length_map ..
      rw [e]
      refine ⟨by rw [e, Nat.mul_one], ?_⟩
      rcases hr.2 with ⟨hv, _⟩ | ⟨g2, cap2, cur2, hv, r1, r2, r3, r4, r5, r6⟩
      · cases hv
      · cases hv
        refine .inr ⟨g, c, cur2, rfl, r1, r2, by omega, r4, r5, ?_⟩
        rw [Nat.mul_one] at r6 ⊢
        have := congrArg (List.take (delI m (i : Int) (j : Int)).length) r6
        rw [List.take_take, Nat.min_eq_left hcl, List.map_append, List.take_append_of_le_length (by rw [List.length_map]; exact Nat.le_refl _)] at this
        rw [this]
        rw [List.take_of_length_le (by rw [List.length_map]; exact Nat.le_refl _)]
    · rw [hfe]; rfl
    · rw [hfe]
      exact hx
    · intro q hq; exact Or.inl hq
    · intro q hq
      exact Nat.lt_of_lt_of_le (hb' q hq).2 hx.size
end Go.GL
