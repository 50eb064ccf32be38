/-
  The whole of an array in a block as a slice that is copied into.
-/
import Derived.Test.YtkpkkdpfcbnfdaaLibD
namespace Go.GL
open Go Go.RowKit
variable {Ds : List Nat} {ro : Option Nat}

/-- A list as an array of so many numbers. -/
def pad (n : Nat) (m : List Int) : List Int := (List.range n).map fun i => m.getD i 0
theorem pad_length (n : Nat) (m : List Int) : (pad n m).length = n := by simp [pad]
theorem pad_get {n i : Nat} {m : List Int} (h : i < n) : (pad n m)[i]? = some (m.getD i 0) := by simp [pad, h]

section
variable {P : Program} {C : World → Prop} {hyps : List (Bool × Bool)} {w0 w : World} {B : Nat} {l r : List HP} {e t t2 ty bt : TypeId} {inf : TypeInfo} {A2 : Option Addr} {n c2 dc n2 : Nat} {m ys : List Int}

theorem ob_sliceB {x : Bool} {a : Addr} {len : Nat} (ht : P.underlying t = some (.array len e)) (hi : P.info? e = some inf) :
    Ob.holds P C x ⟨true, hyps, vS (Instr.sliceAt t (.pointer (some a)) none none none), .slice (some a) len len⟩ :=
  Ob.any fun _ w => by
    have h0 : a.add (0 * inf.size) = a := by rw [Nat.zero_mul]; rfl
    by_cases hl : len = 0
    · simp [Instr.sliceAt, run_underlying ht, Instr.sureAddr, Instr.sliceBounds, sizeOf, typeInfo, hi, hl]
    · simp [Instr.sliceAt, run_underlying ht, Instr.sureAddr, Instr.sliceBounds, sizeOf, typeInfo, hi, hl, h0]
      rfl

theorem blk_stores {g : Nat} : ∀ (us : List Value) (j0 s : Nat) (w : World) (cs : List Value), Sep w0 B w (l ++ blk g bt cs.toArray :: r) → (∀ u ∈ us, u.oneCell' = true) → s + j0 + us.length ≤ cs.length →
    ∃ w', (storeCells ⟨g, s, none⟩ us j0).run P w = .ok () w' ∧ Sep w0 B w' (l ++ blk g bt (setCells cs (s + j0) us).toArray :: r)
  | [], j0, s, w, cs, hS, _, _ => ⟨w, rfl, hS⟩
  | u :: us, j0, s, w, cs, hS, h1, hl => by
    have hj : s + j0 < cs.length := by simp at hl; omega
    have hadd : (⟨g, s, none⟩ : Addr).add j0 = ⟨g, s + j0, none⟩ := by unfold Addr.add; split <;> simp_all
    obtain ⟨f, ⟨hf, hf2⟩, hfb⟩ := hS.get
    have hcell : w.cell? ⟨g, s + j0, none⟩ = some cs[s + j0] := by
      rw [cell_of_row w g (s + j0) cs.toArray bt (0, 0) hf]; simp [hj]
    have hfr : w.frozen? ⟨g, s + j0, none⟩ = false := frozen_of_row w g (s + j0) cs.toArray bt hf
    have hS2 : Sep w0 B (w.setCell ⟨g, s + j0, none⟩ u) (l ++ blk g bt (cs.set (s + j0) u).toArray :: r) := by
      refine hS.upd fun f' hf' hb' => ⟨[g], ⟨by have := heap_setCell_same w g (s + j0) cs.toArray bt u hf; simpa using this, rfl⟩, ?_, ?_, ?_⟩
      · rw [hf'.2]
        exact ⟨rfl, rfl, rfl, by simp, fun k _ hk => heap_setCell_other w ⟨g, s + j0, none⟩ k u (fun h => hk (by simp [h]))⟩
      · intro k hk; rw [hf'.2]; exact .inl hk
      · intro k hk
        have := hb' k (by rw [hf'.2]; exact hk)
        simpa using this.2
    obtain ⟨w', h2, h3⟩ := blk_stores us (j0 + 1) s _ _ hS2 (fun v hv => h1 v (by simp [hv])) (by simp at hl ⊢; omega)
    refine ⟨w', ?_, by simpa [setCells, Nat.add_assoc] using h3⟩
    simp only [storeCells, Sem.run_bind, hadd]
    have : (store ⟨g, s + j0, none⟩ u).run P w = .ok () (w.setCell ⟨g, s + j0, none⟩ u) := by
      have h9 := h1 u (by simp)
      cases u <;> first
        | (simp [Value.oneCell'] at h9; done)
        | simp [store, Sem.run, hcell, hfr]
    rw [this]
    exact h2

theorem arr_vI (n : Nat) (m : List Int) : arr1 (Value.int .i64) 0 n m = vI (pad n m) := by
  simp [arr1, vI, pad]

/-- copy(a[:], s): a an array in a block. -/
theorem run_copyB {g o : Nat} (pre post : List Value) (hS : Sep w0 B w (l ++ blk g bt (pre ++ (arr1 (Value.int .i64) 0 n m ++ post)).toArray :: r)) (ho : pre.length = o) (hr : Rd w w.heap.size A2 (vI ys)) (hn : n2 = ys.length)
    (ht : P.underlying t = some (.slice e)) (hi : P.info? e = some inf) (hs : inf.size = 1) :
    ∃ w', (vS (Builtin.copy_ #[t, t2] ty #[.slice (some ⟨g, o, none⟩) n dc, .slice A2 n2 c2])).run P w = .ok (.value (.int .i64 (minI (n : Int) (n2 : Int)))) w' ∧ Sep w0 B w' (l ++ blk g bt (pre ++ (arr1 (Value.int .i64) 0 n (putL (pad n m) 0 (ys.take n)) ++ post)).toArray :: r) := by
  subst hn ho
  have hmin : minI (n : Int) (ys.length : Int) = ((Nat.min ys.length n : Nat) : Int) := by
    unfold minI
    show _ = ((min ys.length n : Nat) : Int)
    split <;> omega
  have hlen : (ys.take n).length = Nat.min ys.length n := by
    rw [List.length_take]; show min n ys.length = min ys.length n; omega
  have hle : Nat.min ys.length n ≤ n := Nat.min_le_right _ _
  have hsz : (P.info? e).map (·.size) = some 1 := by rw [hi, Option.map_some, hs]
  have hpl : (putL (pad n m) 0 (ys.take n)).length = n := by rw [putL_length (by rw [pad_length, hlen]; omega), pad_length]
  have hpp : pad n (putL (pad n m) 0 (ys.take n)) = putL (pad n m) 0 (ys.take n) := by
    apply List.ext_getElem?
    intro j
    by_cases q : j < n
    · rw [pad_get q, List.getD_eq_getElem?_getD, List.getElem?_eq_getElem (by omega)]; rfl
    · rw [List.getElem?_eq_none (by rw [pad_length]; omega), List.getElem?_eq_none (by omega)]
  rw [hmin, arr_vI, hpp]
  rw [arr_vI] at hS
  by_cases h0 : Nat.min ys.length n = 0
  · have he : ys.take n = [] := List.eq_nil_of_length_eq_zero (by rw [hlen, h0])
    rw [he, putL_nil, h0]
    exact ⟨w, vS_run (run_copy_none w t t2 ty e _ _ n dc ys.length c2 ht hsz h0), hS⟩
  · have hy0 : 0 < ys.length := by
      have : Nat.min ys.length n ≤ ys.length := Nat.min_le_left _ _
      omega
    obtain ⟨ad, rfl, _, _⟩ := hr 0 (.int .i64 (ys.getD 0 0)) (by simp [vI, List.getD_eq_getElem?_getD, hy0])
    have hvl : (vI (ys.take n)).length = Nat.min ys.length n := by simp only [vI, List.length_map]; exact hlen
    have hvp : (vI (pad n m)).length = n := by simp only [vI, List.length_map]; exact pad_length _ _
    obtain ⟨w', h3, h4⟩ := blk_stores (P := P) (vI (ys.take n)) 0 pre.length w _ hS (vI_one _) (by rw [hvl, List.length_append, List.length_append, hvp]; omega)
    have hset : setCells (pre ++ (vI (pad n m) ++ post)) (pre.length + 0) (vI (ys.take n)) = pre ++ (vI (putL (pad n m) 0 (ys.take n)) ++ post) := by
      rw [← setCells_vI (by rw [hlen, pad_length]; omega)]
      apply List.ext_getElem?
      intro j
      rw [setCells_get _ _ _ _ (by rw [hvl, List.length_append, List.length_append, hvp]; omega), hvl, Nat.add_zero]
      rcases Nat.lt_or_ge j pre.length with q | q
      · rw [if_neg (by omega), List.getElem?_append_left q, List.getElem?_append_left q]
      · rw [List.getElem?_append_right q, List.getElem?_append_right q]
        rcases Nat.lt_or_ge (j - pre.length) n with q2 | q2
        · rw [List.getElem?_append_left (by rw [hvp]; exact q2), List.getElem?_append_left (by rw [setCells_len, hvp]; exact q2), setCells_get _ _ _ _ (by rw [hvl, hvp]; omega), hvl]
          by_cases q3 : j < pre.length + Nat.min ys.length n
          · rw [if_pos ⟨q, q3⟩, if_pos (by omega), Nat.sub_zero]
          · rw [if_neg (by omega), if_neg (by omega)]
        · rw [if_neg (by omega), List.getElem?_append_right (by rw [hvp]; exact q2), List.getElem?_append_right (by rw [setCells_len, hvp]; exact q2), setCells_len]
    rw [hset] at h4
    refine ⟨w', vS_run ?_, h4⟩
    have hl := run_loadCells_list (P := P) w ad (vI (ys.take n)) (fun j v hv => by
      have hj : j < n := by
        rcases Nat.lt_or_ge j n with q | q
        · exact q
        · rw [List.getElem?_eq_none (by rw [hvl]; omega)] at hv; cases hv
      obtain ⟨ad', e1, _, hc⟩ := hr j v (by
        simp only [vI, List.map_take] at hv ⊢
        rw [List.getElem?_take, if_pos hj] at hv
        exact hv)
      injection e1 with e1
      subst e1
      exact hc)
    rw [hvl] at hl
    have h3' : (storeCells ⟨g, pre.length, none⟩ (List.take n (List.map (Value.int .i64) ys)) 0).run P w = .ok () w' := by simpa [vI, List.map_take] using h3
    simp [Builtin.copy_, run_underlying ht, Builtin.lenOf, Builtin.firstCells, sizeOf, typeInfo, hi, hs, hl, h3', goInt]
end

end Go.GL
