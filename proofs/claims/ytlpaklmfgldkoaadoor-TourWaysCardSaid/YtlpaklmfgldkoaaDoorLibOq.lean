/-
  A small library of our own: a row of the call's own that begins behind its block's head (a queue's rest: q = q[1:]), read, cut and appended to.
-/
import Derived.Test.YtlpaklmfgldkoaaDoorLibSu
namespace Go.GL
open Go Go.RowKit Go.ChangeShapes Go.WideShapes Go.ChangeAt
section
variable {P : Program} {w0 w : World} {B : Nat} {l r ps : List HP} {A : Option Addr} {n c : Nat} {t e : TypeId} {inf : TypeInfo}

theorem addr_off (g o j : Nat) : (⟨g, o, none⟩ : Addr).add j = ⟨g, o + j, none⟩ := by unfold Addr.add; split <;> simp_all

/-- A row of the call's own that begins somewhere in its block. -/
def ownQ (e : TypeId) (A : Option Addr) (n c : Nat) (xs : List Value) : HP where
  at_ w f := n = xs.length ∧ n ≤ c ∧ ((A = none ∧ c = 0 ∧ f = []) ∨ ∃ g o cur, A = some ⟨g, o, none⟩ ∧ w.heap[g]? = some (.cells cur e (0, 0)) ∧ o + c ≤ cur.size ∧ (cur.toList.drop o).take n = xs ∧ f = [g])
  loc := by
    rintro w w' f hk ⟨h1, h2, h | ⟨g, o, cur, hA, hg, h3, h4, rfl⟩⟩
    · exact ⟨h1, h2, .inl h⟩
    · exact ⟨h1, h2, .inr ⟨g, o, cur, hA, (hk g (by simp)).trans hg, h3, h4, rfl⟩⟩

theorem ownQ_cells {g o : Nat} {cur : Array Value} {fz : Nat × Nat} (hg : w.heap[g]? = some (.cells cur e fz)) : ∀ j u, ((cur.toList.drop o).take n)[j]? = some u → w.cell? ((⟨g, o, none⟩ : Addr).add j) = some u := by
  intro j u hu
  rw [addr_off, cell_of_row w g (o + j) _ e fz hg]
  rw [List.getElem?_take] at hu
  split at hu
  · rw [List.getElem?_drop] at hu
    simpa using hu
  · cases hu

theorem Sep.rdQ {xs : List Value} (h : Sep w0 B w (l ++ ownQ e A n c xs :: r)) : Rd w w.heap.size A xs := by
  obtain ⟨f, ⟨h1, h2, hf | ⟨g, o, cur, rfl, hg, h3, h4, rfl⟩⟩, hb⟩ := h.get
  · have : xs = [] := List.eq_nil_of_length_eq_zero (by omega)
    subst this
    exact Rd.nil _ _ _
  · subst h4
    exact fun j u hu => ⟨_, rfl, (hb g (by simp)).2, ownQ_cells hg j u hu⟩
theorem Sep.lenQ {α : Type} {f : α → Value} {m : List α} (h : Sep w0 B w (l ++ ownQ e A n c (m.map f) :: r)) : n = m.length := by
  obtain ⟨fp, ⟨h1, _⟩, _⟩ := h.get
  simpa using h1
theorem Sep.capQ {α : Type} {f : α → Value} {m : List α} (h : Sep w0 B w (l ++ ownQ e A n c (m.map f) :: r)) : m.length ≤ c := by
  obtain ⟨fp, ⟨h1, h2, _⟩, _⟩ := h.get
  simp at h1; omega
theorem Sep.reNQ {n' : Nat} {xs : List Value} (h : Sep w0 B w (l ++ ownQ e A n c xs :: r)) (he : n = n') : Sep w0 B w (l ++ ownQ e A n' c xs :: r) := he ▸ h
theorem Sep.ofOwnQ {xs : List Value} (h : Sep w0 B w (l ++ own e (.slice A n c) xs :: r)) : Sep w0 B w (l ++ ownQ e A n c xs :: r) := by
  refine h.upd fun f hf hfb => ⟨f, ?_, (Ex.refl w).mono (by simp), fun k hk => .inl hk, fun k hk => (hfb k hk).2⟩
  have hl := own_len hf
  have hc := own_cap hf
  obtain ⟨hf1, hf2⟩ := hf
  refine ⟨hl, by omega, ?_⟩
  rcases hf1.2 with ⟨hv, h2⟩ | ⟨g, cap, cur, hv, _, hg, h3, h4, h5, h6⟩
  · injection hv with e1 e2 e3
    subst e1; subst e3
    exact .inl ⟨rfl, rfl, by rw [hf2]; rfl⟩
  · injection hv with e1 e2 e3
    subst e1; subst e3
    exact .inr ⟨g, 0, cur, rfl, hg, by omega, by simpa [hl] using h6, by rw [hf2]; rfl⟩

/-- A cut of such a row, in its place. -/
theorem Sep.cutQ {α : Type} {f : α → Value} {m : List α} {lo hi : Int} (h : Sep w0 B w (l ++ ownQ e A n c (m.map f) :: r)) (hb : 0 ≤ lo ∧ lo ≤ hi ∧ hi ≤ (m.length : Int)) :
    Sep w0 B w (l ++ ownQ e (cutAddr A c lo) (cut m lo hi).length (c - Int.toNat lo) ((cut m lo hi).map f) :: r) := by
  refine h.upd fun fp hf hfb => ⟨fp, ?_, (Ex.refl w).mono (by simp), fun k hk => .inl hk, fun k hk => (hfb k hk).2⟩
  have hcl := cut_length hb.1 hb.2.1 hb.2.2
  obtain ⟨h1, h2, hf | ⟨g, o, cur, rfl, hg, h3, h4, rfl⟩⟩ := hf
  · simp only [List.length_map] at h1
    refine ⟨by simp, by omega, .inl ⟨?_, by omega, hf.2.2⟩⟩
    rw [hf.1]
    unfold cutAddr
    split <;> rfl
  · simp only [List.length_map] at h1
    refine ⟨by simp, by omega, .inr ?_⟩
    have hcutm : (cut m lo hi).map f = ((cur.toList.drop (o + lo.toNat)).take (cut m lo hi).length) := by
      rw [← cut_map, ← h4, hcl]
      unfold cut
      rw [List.drop_take, List.drop_drop, List.take_take]
      congr 1
      omega
    unfold cutAddr
    split
    · rename_i h5
      refine ⟨g, o, cur, rfl, hg, by omega, ?_, rfl⟩
      have : (cut m lo hi).length = 0 := by omega
      rw [this]
      simp only [List.take_zero]
      rw [List.eq_nil_of_length_eq_zero this]
      rfl
    · exact ⟨g, o + lo.toNat, cur, by rw [Option.map_some, addr_off], hg, by omega, hcutm.symm, rfl⟩

/-- append to such a row. -/
theorem run_appQ {α : Type} (f : α → Value) (z : α) (big : Nat) {m ys : List α} {A2 : Option Addr} {m2 c2 : Nat} (hS : Sep w0 B w (l ++ ownQ e A n c (m.map f) :: r)) (hr : Rd w w.heap.size A2 (ys.map f)) (hm : m2 = ys.length) (ty : TypeId)
    (ht : P.underlying t = some (.slice e)) (hi : P.info? e = some inf) (hz : inf.zero = some (f z)) (hs : inf.size = 1) (hby : big * inf.bytes ≤ 140737488355328) (hbig : big ≤ 140737488355328) (hc : (f z).cells = #[f z]) (h1 : ∀ a, (f a).oneCell' = true) (hl : (n : Int) + m2 ≤ (big : Int)) :
    ∃ A' c' w', (vS (Builtin.append_ #[t, t] ty #[.slice A n c, .slice A2 m2 c2])).run P w = .ok (.value (.slice A' (m ++ ys).length c')) w' ∧ Sep w0 B w' (l ++ ownQ e A' (m ++ ys).length c' ((m ++ ys).map f) :: r) := by
  obtain ⟨fp, ⟨hn, hnc, hf⟩, hfb⟩ := hS.get
  simp only [List.length_map] at hn
  rcases hf with ⟨rfl, rfl, rfl⟩ | ⟨g, o, cur, rfl, hg, h3, h4, hfp⟩
  · have hn0 : n = 0 := by omega
    subst hn0
    have hm0 : m = [] := List.eq_nil_of_length_eq_zero hn.symm
    subst hm0
    have hS' : Sep w0 B w (l ++ own e (.slice none 0 0) (([] : List α).map f) :: r) :=
      hS.upd fun f' hf' hfb' => ⟨[], ⟨⟨by simp, .inl ⟨rfl, rfl⟩⟩, rfl⟩, (Ex.refl w).mono (by simp), by simp, by simp⟩
    obtain ⟨A', c', w', h2, h3⟩ := run_appG (P := P) f z big hS' hr hm ty ht hi hz hs hby hbig hc h1 hl
    exact ⟨A', c', w', h2, h3.ofOwnQ⟩
  · subst hn
    subst hm
    cases A2 with
    | none =>
      have hy : ys = [] := hr.none1
      subst hy
      refine ⟨_, c, w, ?_, by simpa using hS⟩
      have h9 : (Builtin.append_ #[t, t] ty #[.slice (some ⟨g, o, none⟩) m.length c, .slice none 0 c2]).run P w = .ok (.slice (some ⟨g, o, none⟩) m.length c) w := by
        simp [Builtin.append_, run_underlying ht, sizeOf, typeInfo, hi, Builtin.lenOf, Builtin.firstCells, hnc, storeCells]
      simpa using vS_run h9
    | some a =>
      have hcells : ∀ j u, (ys.map f)[j]? = some u → w.cell? (a.add j) = some u := fun j u hu => by
        obtain ⟨ad, h, _, hc⟩ := hr j u hu
        injection h with h
        subst h
        exact hc
      have hlen : m.length + ys.length = (m ++ ys).length := by simp
      by_cases hroom : m.length + ys.length ≤ c
      · have hst := run_storeCells_at P g (o + m.length) e (ys.map f) 0 cur w hg (by simp only [List.length_map]; omega) (by
          intro u hu
          obtain ⟨a, _, rfl⟩ := List.mem_map.1 hu
          exact h1 a)
        have hfc := run_firstCells_some (P := P) w inf.size ys.length a ys.length c2 (ys.map f) (by rw [hs]; simp) hcells
        simp only [Nat.add_zero] at hst
        have hrun : (Builtin.append_ #[t, t] ty #[.slice (some ⟨g, o, none⟩) m.length c, .slice (some a) ys.length c2]).run P w = .ok (.slice (some ⟨g, o, none⟩) (m.length + ys.length) c) (w.setRow g (cur.toList.take (o + m.length) ++ ys.map f ++ cur.toList.drop (o + m.length + (ys.map f).length)).toArray) := by
          rw [hs] at hfc
          simp [Builtin.append_, run_underlying ht, sizeOf, typeInfo, hi, hs, Builtin.lenOf, hroom, hfc, addr_off] at hst ⊢
          simp [hst]
        refine ⟨_, _, _, by rw [← hlen]; exact vS_run hrun, ?_⟩
        refine hS.upd fun f' hf' hfb' => ?_
        have hf'' : f' = [g] := by
          obtain ⟨_, _, h9 | ⟨g9, o9, cur9, hA9, _, _, _, h9⟩⟩ := hf'
          · cases h9.1
          · injection hA9 with hA9
            injection hA9 with hA9
            rw [h9, hA9]
        subst hf''
        refine ⟨[g], ⟨by simp, by omega, .inr ⟨g, o, _, rfl, setRow_heap w g cur _ e _ hg, ?_, ?_, rfl⟩⟩, ⟨rfl, rfl, rfl, by simp, fun k _ hk => setRow_other w g k _ (by simpa using hk)⟩, fun k hk => .inl hk, fun k hk => by simpa using (hfb' k hk).2⟩
        · simp only [List.size_toArray, List.length_append, List.length_take, List.length_drop, Array.length_toList, List.length_map]
          omega
        · have e1 : (cur.toList.take (o + m.length)).drop o = m.map f := by
            rw [List.drop_take, ← h4]
            congr 1
            omega
          have e2 : o ≤ (cur.toList.take (o + m.length)).length := by simp only [List.length_take, Array.length_toList]; omega
          simp only [List.append_assoc]
          rw [List.drop_append_of_le_length e2, e1, ← List.append_assoc, ← List.map_append]
          have e3 : (m ++ ys).length = ((m ++ ys).map f).length := by simp
          rw [e3]
          exact List.take_left
      · have hcl : (m.length : Nat) + ys.length ≤ big := by omega
        have hbb : (m.length + ys.length) * inf.bytes ≤ 140737488355328 := Nat.le_trans (Nat.mul_le_mul_right _ hcl) hby
        have hrun := run_append_grow (P := P) w t ty e inf (f z) ht hi hz ⟨g, o, none⟩ m.length c (m.map f) (by rw [hs]; simp) (by rw [← h4]; exact ownQ_cells hg) a ys.length c2 (ys.map f) (by rw [hs]; simp) hcells (by omega) (by omega) (growslice_fits (by omega) hbb)
        have hge := grownCap_ge w (m.length + ys.length) c e
        refine ⟨_, _, _, by rw [← hlen]; exact vS_run hrun, ?_⟩
        refine hS.upd fun f' hf' hfb' => ⟨[w.heap.size], ⟨by simp, by omega, .inr ⟨w.heap.size, 0, _, rfl, heap_alloc_new w.drew _, ?_, ?_, rfl⟩⟩, ⟨rfl, rfl, rfl, by simp, fun k hk _ => heap_alloc_old w.drew _ hk⟩, ?_, ?_⟩
        · have hz1 : (f z).cells.size = 1 := by rw [hc]; rfl
          simp only [Array.size_append, List.size_toArray, size_zeroCells, hz1, List.length_map]
          omega
        · simp only [Array.toList_append, List.append_assoc, List.drop_zero]
          rw [← List.append_assoc, ← List.map_append]
          have e3 : (m ++ ys).length = ((m ++ ys).map f).length := by simp
          rw [e3]
          exact List.take_left
        · intro k hk; simp at hk; exact .inr (by omega)
        · intro k hk; simp at hk; subst hk; simp
end
end Go.GL
