/-
  slices.Insert at [2]int, one value in front: the law for rows of the call's own.
-/
import Derived.Test.YtgafnmnacolgbaaInA
import Derived.Deep.Upon
namespace Go.Proofs.Ytgafnmnacolgbaa
open Go Go.GL Go.Shelf Go.RowKit Go.Lib

theorem setCells_kept (b : Nat) : ∀ (vs : List Value) (o : Nat) (w : World), (w.setCells b o vs).os = w.os ∧ (w.setCells b o vs).tape = w.tape ∧ (w.setCells b o vs).output = w.output
  | [], _, _ => ⟨rfl, rfl, rfl⟩
  | v :: r, o, w => by
    have ih := setCells_kept b r (o + 1) (w.setCell ⟨b, o, none⟩ v)
    exact ⟨ih.1.trans rfl, ih.2.1.trans rfl, ih.2.2.trans rfl⟩

theorem sizeCells (b : Nat) : ∀ (vs : List Value) (o : Nat) (w : World), (w.setCells b o vs).heap.size = w.heap.size
  | [], _, _ => rfl
  | v :: r, o, w => by
    have ih := sizeCells b r (o + 1) (w.setCell ⟨b, o, none⟩ v)
    exact ih.trans (by simp [World.setCell])
theorem allocHeap (w : World) (o : Obj) : (w.alloc o).drew.heap = w.heap.push o := rfl

theorem ins_take {α : Type} {F : α → List Value} (hF : EncK F 2) {x : α} {m : List α} {cur : Array Value} {f : Nat → Value} {N : Nat} (hs : cur.size = N) (hN : (m.length + 1) * 2 ≤ N)
    (hc : ∀ i, i < N → cur[i]? = some (f i)) (h0 : ∀ j, j < 2 → f j = (F x)[j]?.getD default) (h1 : ∀ j, 2 ≤ j → j < (m.length + 1) * 2 → f j = (m.flatMap F)[j - 2]?.getD default) :
    cur.toList.take ((m.length + 1) * 2) = (x :: m).flatMap F := by
  have hl := flatMap_len hF m
  rw [List.flatMap_cons]
  apply List.ext_getElem?
  intro j
  rw [List.getElem?_take]
  split
  · rename_i hj
    have := hc j (by omega)
    rw [Array.getElem?_toList, this]
    by_cases h2 : j < 2
    · rw [List.getElem?_append_left (by rw [hF.len]; exact h2), h0 j h2]
      rw [List.getElem?_eq_getElem (by rw [hF.len]; exact h2)]
      rfl
    · rw [List.getElem?_append_right (by rw [hF.len]; omega), hF.len, h1 j (by omega) hj]
      rw [List.getElem?_eq_getElem (by rw [hl]; omega)]
      rfl
  · rename_i hj
    rw [List.getElem?_eq_none (by rw [List.length_append, hF.len, hl]; omega)]

theorem insP_w {α : Type} {F : α → List Value} (hF : EncK F 2) {A A2 : Option Addr} {n c n2 c2 : Nat} {m : List α} {x : α} {w0 w : World} {B : Nat} {fs : List HP}
    (hS : Sep w0 B w (ownK 23 2 A n c (m.flatMap F) :: ownK 23 2 A2 n2 c2 ([x].flatMap F) :: fs)) (hm : 0 < m.length) (hb : (m.length : Int) ≤ bigK) :
    Calls Try.prog 73 #[.slice A n c, .int .i64 0, .slice A2 n2 c2] w fun e w' => ∃ A' c', e = .returned (.slice A' (x :: m).length c') ∧ Sep w0 B w' (ownK 23 2 A' (x :: m).length c' ((x :: m).flatMap F) :: ownK 23 2 A2 n2 c2 ([x].flatMap F) :: fs) := by
  have hn := Sep.lenK (l := []) hF hS
  have hn2 : n2 = 1 := Sep.lenK (m := [x]) (l := [ownK 23 2 A n c (m.flatMap F)]) hF hS
  subst hn2
  have hl := flatMap_len hF m
  have hx2 : ([x] : List α).flatMap F = F x := by simp
  obtain ⟨u, hu, hub⟩ := hS.ex
  cases hu with
  | cons hp hs hd =>
    rename_i f u1
    cases hs with
    | cons hp2 hs2 hd2 =>
      rename_i f2 u2
      obtain ⟨hf, hff⟩ := hp
      obtain ⟨hf2, hff2⟩ := hp2
      rcases hf.2 with ⟨_, h⟩ | ⟨g, cap, cur, hv, _, hg, hnc, hcm, hcs, htk⟩
      · omega
      rcases hf2.2 with ⟨_, h⟩ | ⟨g2, cap2, cur2, hv2, _, hg2, hnc2, _, hcs2, htk2⟩
      · omega
      injection hv with hA _ hc
      injection hv2 with hA2 _ hc2
      subst hA hc hA2 hc2
      rw [hx2] at htk2
      have hne : g2 ≠ g := fun h => hd g (by rw [hff]; simp [Value.ownBlock]) (by rw [hff2, h]; simp [Value.ownBlock])
      have hgl : g < w.heap.size := (hub g (by rw [hff]; simp [Value.ownBlock])).2
      have hg2l : g2 < w.heap.size := (hub g2 (by rw [hff2]; simp [Value.ownBlock])).2
      have hcells : ∀ j v, (m.flatMap F)[j]? = some v → w.cell? ⟨g, j, none⟩ = some v := fun j v h => by
        rw [← htk, List.getElem?_take] at h
        split at h
        · simpa [World.cell?, hg] using h
        · cases h
      have hcells2 : ∀ j v, (F x)[j]? = some v → w.cell? ⟨g2, j, none⟩ = some v := fun j v h => by
        rw [← htk2, List.getElem?_take] at h
        split at h
        · simpa [World.cell?, hg2] using h
        · cases h
      have hfzz : ∀ j, w.frozen? ⟨g, j, none⟩ = false := fun j => by simp [World.frozen?, hg]
      have hfzz2 : ∀ j, w.frozen? ⟨g2, j, none⟩ = false := fun j => by simp [World.frozen?, hg2]
      by_cases hroom : n + 1 ≤ c
      · refine Calls.mono (ins_shift g n c g2 c2 (m.flatMap F) (F x) w (by omega) hroom (by unfold maxLen at hcm; omega) hne (by omega) (hF.len x) hcells
          (fun j hj => by simp [World.cell?, hg]; omega) (fun j _ => hfzz j) hcells2 (flatMap_one hF) (hF.one x) 23 23 cur2.size cur.size (by simp [World.shape?, hg2]) (by simp [World.shape?, hg]) (by omega) (hfzz2 0) (hfzz2 _)) ?_
        rintro e w' ⟨rfl, rfl⟩
        refine ⟨some ⟨g, 0, none⟩, c, by rw [List.length_cons, hn], Sep.upd (l := []) hS fun f' hf' hb' => ?_⟩
        have hr0 : w.rowIs g 23 (c * 2) (fun j => cur[j]?.getD default) := ⟨cur, hg, hcs, fun i hi => by show cur[i]? = some (cur[i]?.getD default); rw [Array.getElem?_eq_getElem (by omega)]; rfl⟩
        obtain ⟨cur', h1, h2, h3⟩ := rowIs_setCells (F x) 0 _ _ (rowIs_setCells (m.flatMap F) 2 w.drew _ hr0)
        have hsz : ((w.drew.setCells g 2 (m.flatMap F)).setCells g 0 (F x)).heap.size = w.heap.size := by rw [sizeCells, sizeCells]; rfl
        have k1 := setCells_kept g (F x) 0 (w.drew.setCells g 2 (m.flatMap F))
        have k2 := setCells_kept g (m.flatMap F) 2 w.drew
        refine ⟨[g], ⟨⟨by rw [flatMap_len hF], .inr ⟨g, c, cur', rfl, Nat.zero_le _, h1, by rw [List.length_cons]; omega, hcm, h2, ?_⟩⟩, by simp [Value.ownBlock]⟩, ?_, fun k hk => ?_, fun k hk => ?_⟩
        · rw [List.length_cons]
          refine ins_take hF h2 (by omega) h3 (fun j hj => ?_) (fun j hj1 hj2 => ?_)
          · rw [if_pos (by rw [hF.len]; omega)]
            rfl
          · rw [if_neg (by rw [hF.len]; omega), if_pos (by rw [hl]; omega)]
        · rw [hf'.2]
          refine ⟨k1.1.trans (k2.1.trans rfl), k1.2.1.trans (k2.2.1.trans rfl), k1.2.2.trans (k2.2.2.trans rfl), by rw [hsz]; exact Nat.le_refl _, fun k hk hnk => ?_⟩
          have hkg : k ≠ g := fun h => hnk (by rw [h]; simp [Value.ownBlock])
          rw [World.heap_setCells_other _ _ _ _ (by rw [sizeCells]; exact hk) hkg, World.heap_setCells_other w.drew _ _ _ (show k < w.drew.heap.size from hk) hkg]
          rfl
        · rw [hf'.2]; exact .inl (by simpa [Value.ownBlock] using hk)
        · rw [hsz]; simp at hk; rw [hk]; exact hgl
      · have hbb : (n + 1) * 16 ≤ 140737488355328 := by unfold bigK at hb; omega
        refine Calls.mono (ins_grow g n c g2 c2 (m.flatMap F) (F x) w (by omega) hnc (by omega) hbb (by omega) (hF.len x) hcells hcells2 (flatMap_one hF) (hF.one x)) ?_
        rintro e w' ⟨rfl, rfl⟩
        obtain ⟨G, hG⟩ : ∃ G, G = grownCap w (n + 1) c 23 := ⟨_, rfl⟩
        have hGn : n + 1 ≤ G := by rw [hG]; exact grownCap_ge w _ _ _
        have hGm : G ≤ maxLen := by rw [hG]; exact grownCap_le_maxLen w (n + 1) c 23 (by unfold maxLen; omega)
        rw [← hG]
        obtain ⟨ROW, hROW⟩ : ∃ ROW : Array Value, ROW = Builtin.zeroCells zP.cells (n + 1) ++ Builtin.zeroCells zP.cells (G - (n + 1)) := ⟨_, rfl⟩
        rw [← hROW]
        have hRs : ROW.size = G * 2 := by
          rw [hROW]
          simp [Builtin.zeroCells, Value.cells, zP]
          omega
        refine ⟨some ⟨w.heap.size, 0, none⟩, G, by rw [List.length_cons, hn], Sep.upd (l := []) hS fun f' hf' hb' => ?_⟩
        have hr0 : ((w.alloc (.cells ROW 23)).drew).rowIs w.heap.size 23 (G * 2) (fun j => ROW[j]?.getD default) := ⟨ROW, by rw [allocHeap, Array.getElem?_push, if_pos rfl], hRs, fun i hi => by show ROW[i]? = some (ROW[i]?.getD default); rw [Array.getElem?_eq_getElem (by omega)]; rfl⟩
        obtain ⟨cur', h1, h2, h3⟩ := rowIs_setCells (m.flatMap F) 2 _ _ (show (((w.alloc (.cells ROW 23)).drew.setCells w.heap.size 0 (F x)).drew).rowIs w.heap.size 23 (G * 2) _ from rowIs_setCells (F x) 0 _ _ hr0)
        have hsz : ((((w.alloc (.cells ROW 23)).drew.setCells w.heap.size 0 (F x)).drew).setCells w.heap.size 2 (m.flatMap F)).heap.size = w.heap.size + 1 := by
          rw [sizeCells]
          show ((w.alloc (.cells ROW 23)).drew.setCells w.heap.size 0 (F x)).heap.size = _
          rw [sizeCells]
          rw [allocHeap, Array.size_push]
        have k1 := setCells_kept w.heap.size (m.flatMap F) 2 (((w.alloc (.cells ROW 23)).drew.setCells w.heap.size 0 (F x)).drew)
        have k2 := setCells_kept w.heap.size (F x) 0 ((w.alloc (.cells ROW 23)).drew)
        refine ⟨[w.heap.size], ⟨⟨by rw [flatMap_len hF], .inr ⟨w.heap.size, G, cur', rfl, Nat.zero_le _, h1, by rw [List.length_cons]; omega, hGm, h2, ?_⟩⟩, by simp [Value.ownBlock]⟩, ?_, fun k hk => ?_, fun k hk => ?_⟩
        · rw [List.length_cons]
          refine ins_take hF h2 (by omega) h3 (fun j hj => ?_) (fun j hj1 hj2 => ?_)
          · rw [if_neg (by omega), if_pos (by rw [hF.len]; omega)]
            rfl
          · rw [if_pos (by rw [hl]; omega)]
        · rw [hf'.2]
          refine ⟨k1.1.trans (k2.1.trans rfl), k1.2.1.trans (k2.2.1.trans rfl), k1.2.2.trans (k2.2.2.trans rfl), by rw [hsz]; omega, fun k hk hnk => ?_⟩
          have hkg : k ≠ w.heap.size := by omega
          have hs1 : (w.alloc (.cells ROW 23)).drew.heap.size = w.heap.size + 1 := by rw [allocHeap, Array.size_push]
          rw [World.heap_setCells_other _ _ _ _ (by show k < ((w.alloc (.cells ROW 23)).drew.setCells w.heap.size 0 (F x)).heap.size; rw [sizeCells, hs1]; omega) hkg]
          show ((w.alloc (.cells ROW 23)).drew.setCells w.heap.size 0 (F x)).heap[k]? = _
          rw [World.heap_setCells_other _ _ _ _ (by rw [hs1]; omega) hkg]
          rw [allocHeap, Array.getElem?_push, if_neg hkg]
        · simp at hk; exact .inr (by omega)
        · rw [hsz]; simp at hk; omega

theorem insP_own {α : Type} {F : α → List Value} (hF : EncK F 2) {A A2 : Option Addr} {n c n2 c2 : Nat} {m v : List α} {i : Int} {w0 w : World} {B : Nat} {fs : List HP}
    (hS : Sep w0 B w (ownK 23 2 A n c (m.flatMap F) :: ownK 23 2 A2 n2 c2 (v.flatMap F) :: fs)) (hi : i = 0) (hv : v.length = 1) (hb : 0 < m.length ∧ (m.length : Int) ≤ bigK) :
    Calls Try.prog 73 #[.slice A n c, .int .i64 i, .slice A2 n2 c2] w fun e w' => ∃ u, e = .returned u ∧ ∃ (A' : Option Addr) (c' : Nat), u = .slice A' (v ++ m).length c' ∧ Sep w0 B w' (ownK 23 2 A' (v ++ m).length c' (List.flatMap F (v ++ m)) :: ownK 23 2 A2 n2 c2 (v.flatMap F) :: fs) := by
  subst hi
  obtain ⟨x, rfl⟩ : ∃ x, v = [x] := by
    cases v with
    | nil => cases hv
    | cons x v =>
      cases v with
      | nil => exact ⟨x, rfl⟩
      | cons y v => simp at hv
  refine Calls.mono (insP_w hF hS hb.1 hb.2) ?_
  rintro e w' ⟨A', c', h1, h2⟩
  exact ⟨_, h1, A', c', rfl, h2⟩
end Go.Proofs.Ytgafnmnacolgbaa
