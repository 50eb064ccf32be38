/-
  A small library of our own: a row of the call's own that begins behind its block's head (a queue's rest: q = q[1:]), read, cut and appended to.
-/
import Derived.Test.YtoickcchcjehdaaLibSu
namespace Go.GL
open Go Go.RowKit Go.ChangeShapes Go.WideShapes Go.ChangeAt
section
variable {P : Program} {w0 w : World} {B : Nat} {l r ps : List HP} {A : Option Addr} {n c : Nat} {t e : TypeId} {inf : TypeInfo}

theorem addr_off (g o j : Nat) : (⟨g, o, none⟩ : Addr).add j = ⟨g, o + j, none⟩ := by unfold Addr.add; split <;> simp_all

/-- A row of the call's own that begins somewhere in its block. -/
def ownQ (e : TypeId) (A : Option Addr) (n c : Nat) (xs : List Value) : HP where
  at_ w f := n = xs.length ∧ n ≤ c ∧ ((A = none ∧ c = 0 ∧ f = []) ∨ ∃ g o cur, A = some ⟨g, o, none⟩ ∧ w.heap[g]? = some (.cells cur e (0, 0)) ∧ o + c ≤ cur.size ∧ (cur.toList.drop o).take n = xs ∧ f = [g])
  loc := by
    rintro w w' f hk ⟨h1, h2, h | ⟨g, o, cur, hA, hg, h3, h4, rfl⟩⟩
    · exact ⟨h1, h2, .inl h⟩
    · exact ⟨h1, h2, .inr ⟨g, o, cur, hA, (hk g (by simp)).trans hg, h3, h4, rfl⟩⟩

theorem ownQ_cells {g o : Nat} {cur : Array Value} {fz : Nat × Nat} (hg : w.heap[g]? = some (.cells cur e fz)) : ∀ j u, ((cur.toList.drop o).take n)[j]? = some u → w.cell? ((⟨g, o, none⟩ : Addr).add j) = some u := by
  intro j u hu
  rw [addr_off, cell_of_row w g (o + j) _ e fz hg]
  rw [List.getElem?_take] at hu
  split at hu
  · rw [List.getElem?_drop] at hu
    simpa using hu
  · cases hu

theorem Sep.rdQ {xs : List Value} (h : Sep w0 B w (l ++ ownQ e A n c xs :: r)) : Rd w w.heap.size A xs := by
  obtain ⟨f, ⟨h1, h2, hf | ⟨g, o, cur, rfl, hg, h3, h4, rfl⟩⟩, hb⟩ := h.get
  · have : xs = [] := List.eq_nil_of_length_eq_zero (by omega)
    subst this
    exact Rd.nil _ _ _
  · subst h4
    exact fun j u hu => ⟨_, rfl, (hb g (by simp)).2, ownQ_cells hg j u hu⟩
theorem Sep.lenQ {α : Type} {f : α → Value} {m : List α} (h : Sep w0 B w (l ++ ownQ e A n c (m.map f) :: r)) : n = m.length := by
  obtain ⟨fp, ⟨h1, _⟩, _⟩ := h.get
  simpa using h1
theorem Sep.reNQ {n' : Nat} {xs : List Value} (h : Sep w0 B w (l ++ ownQ e A n c xs :: r)) (he : n = n') : Sep w0 B w (l ++ ownQ e A n' c xs :: r) := he ▸ h
theorem Sep.ofOwnQ {xs : List Value} (h : Sep w0 B w (l ++ own e (.slice A n c) xs :: r)) : Sep w0 B w (l ++ ownQ e A n c xs :: r) := by
  refine h.upd fun f hf hfb => ⟨f, ?_, (Ex.refl w).mono (by simp), fun k hk => .inl hk, fun k hk => (hfb k hk).2⟩
  have hl := own_len hf
  have hc := own_cap hf
  obtain ⟨hf1, hf2⟩ := hf
  refine ⟨hl, by omega, ?_⟩
  rcases hf1.2 with ⟨hv, h2⟩ | ⟨g, cap, cur, hv, _, hg, h3, h4, h5, h6⟩
  · injection hv with e1 e2 e3
    subst e1; subst e3
    exact .inl ⟨rfl, rfl, by rw [hf2]; rfl⟩
  · injection hv with e1 e2 e3
    subst e1; subst e3
    exact .inr ⟨g, 0, cur, rfl, hg, by omega, by simpa [hl] using h6, by rw [hf2]; rfl⟩

/-- A cut of such a row, in its place. -/
theorem Sep.cutQ {α : Type} {f : α → Value} {m : List α} {lo hi : Int} (h : Sep w0 B w (l ++ ownQ e A n c (m.map f) :: r)) (hb : 0 ≤ lo ∧ lo ≤ hi ∧ hi ≤ (m.length : Int)) :
    Sep w0 B w (l ++ ownQ e (cutAddr A c lo) (cut m lo hi).length (c - Int.toNat lo) ((cut m lo hi).map f) :: r) := by
  refine h.upd fun fp hf hfb => ⟨fp, ?_, (Ex.refl w).mono (by simp), fun k hk => .inl hk, fun k hk => (hfb k hk).2⟩
  have hcl := cut_length hb.1 hb.2.1 hb.2.2
  obtain ⟨h1, h2, hf | ⟨g, o, cur, rfl, hg, h3, h4, rfl⟩⟩ := hf
  · simp only [List.length_map] at h1
    refine ⟨by simp, by omega, .inl ⟨?_, by omega, hf.2.2⟩⟩
    rw [hf.1]
    unfold cutAddr
    split <;> rfl
  · simp only [List.length_map] at h1
    refine ⟨by simp, by omega, .inr ?_⟩
    have hcutm : (cut m lo hi).map f = ((cur.toList.drop (o + lo.toNat)).take (cut m lo hi).length) := by
      rw [← cut_map, ← h4, hcl]
      unfold cut
      rw [List.drop_take, List.drop_drop, List.take_take]
      congr 1
      omega
    unfold cutAddr
    split
    · rename_i h5
      refine ⟨g, o, cur, rfl, hg, by omega, ?_, rfl⟩
      have : (cut m lo hi).length = 0 := by omega
      rw [this]
      simp only [List.take_zero]
      rw [List.eq_nil_of_length_eq_zero this]
      rfl
    · exact ⟨g, o + lo.toNat, cur, by rw [Option.map_some, addr_off], hg, by omega, hcutm.symm, rfl⟩

end
end Go.GL
