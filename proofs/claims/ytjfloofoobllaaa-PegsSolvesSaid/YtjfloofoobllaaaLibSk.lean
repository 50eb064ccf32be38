/-
  A small library of our own: a row that is appended to again and again from the same beginning (append(row, x) handed on, row kept): a stack of headers over one list.
-/
import Derived.Test.YtjfloofoobllaaaLibOq
import Derived.Test.YtjfloofoobllaaaLibMV
namespace Go.GL
open Go Go.RowKit Go.ChangeShapes Go.WideShapes Go.ChangeAt

structure EncL {α : Type} (E : List α → List Value) (k : Nat) : Prop where
  app : ∀ a b, E (a ++ b) = E a ++ E b
  len : ∀ a, (E a).length = a.length * k
  one : ∀ a, ∀ u ∈ E a, u.oneCell' = true
  pos : 0 < k
theorem EncK.encL {α : Type} {F : α → List Value} {k : Nat} (h : EncK F k) : EncL (fun m => m.flatMap F) k := ⟨fun _ _ => List.flatMap_append, fun a => flatMap_len h a, fun a u hu => flatMap_one h u hu, h.pos⟩
abbrev Sk := Option Addr × Nat × Nat
def skV (h : Sk) : Value := .slice h.1 h.2.1 h.2.2

section
variable {α : Type} {E : List α → List Value} {k : Nat}
/-- The top's header is (A, n, c); below it lie headers of shorter beginnings. -/
def stk (e : TypeId) (k : Nat) (E : List α → List Value) (A : Option Addr) (n c : Nat) (es : List Sk) (m : List α) : HP where
  at_ w f := n = m.length ∧ ((A, n, c) :: es).Pairwise (fun a b => b.2.1 ≤ a.2.1) ∧ (∀ h ∈ (A, n, c) :: es, w.ownsRow 0 e k (skV h) h.2.1 (E (m.take h.2.1))) ∧ f = ((A, n, c) :: es).flatMap (fun h => (skV h).ownBlock.toList)
  loc := by
    rintro w w' f hk ⟨h1, h2, h3, rfl⟩
    refine ⟨h1, h2, fun h hh => ?_, rfl⟩
    obtain ⟨a1, a2⟩ := h3 h hh
    refine ⟨a1, ?_⟩
    rcases a2 with h0 | ⟨g, cap, cur, hv, b1, b2, b3⟩
    · exact .inl h0
    · refine .inr ⟨g, cap, cur, hv, b1, (hk g ?_).trans b2, b3⟩
      rw [List.mem_flatMap]
      exact ⟨h, hh, by rw [hv]; simp [Value.ownBlock]⟩
end

section
variable {P : Program} {α : Type} {E : List α → List Value} {k : Nat} {w0 w : World} {B : Nat} {l r ps : List HP} {e t : TypeId} {inf : TypeInfo} {A : Option Addr} {n c : Nat} {es : List Sk} {m : List α}

theorem Sep.lenSk (h : Sep w0 B w (l ++ stk e k E A n c es m :: r)) : n = m.length := by
  obtain ⟨f, hf, _⟩ := h.get
  exact hf.1
theorem stk_top {f : List Nat} (h : (stk e k E A n c es m).at_ w f) : w.ownsRow 0 e k (.slice A n c) n (E m) := by
  have := h.2.2.1 (A, n, c) (by simp)
  simp only [skV] at this
  rw [h.1, List.take_length, ← h.1] at this
  exact this
theorem Sep.rdSk (h : Sep w0 B w (l ++ stk e k E A n c es m :: r)) : Rd w w.heap.size A (E m) := by
  obtain ⟨f, hf, _⟩ := h.get
  exact ownK_rd (f := (Value.slice A n c).ownBlock.toList) ⟨stk_top hf, rfl⟩
theorem Sep.capSk (h : Sep w0 B w (l ++ stk e k E A n c es m :: r)) : m.length ≤ c := by
  obtain ⟨f, hf, _⟩ := h.get
  obtain ⟨A', c', hv, hc⟩ := own_formK (stk_top hf)
  injection hv with _ h2 h3
  have := hf.1
  omega
theorem Sep.nilSk (hE : EncL E k) (h : Sep w0 B w ps) (e : TypeId) : Sep w0 B w (stk e k E none 0 0 [] ([] : List α) :: ps) :=
  h.add (Ex.refl w) (f := []) ⟨rfl, by simp, fun x hx => by
    simp only [List.mem_singleton] at hx
    subst hx
    have : E ([] : List α) = [] := List.eq_nil_of_length_eq_zero (by rw [hE.len]; simp)
    simp only [List.take_nil]
    rw [this]
    exact World.ownsRow_nil w 0 e k, by simp [skV, Value.ownBlock]⟩ (by simp)
/-- The top goes. -/
theorem Sep.popSk {A' : Option Addr} {n' c' : Nat} {ys : List α} (h : Sep w0 B w (l ++ stk e k E A' n' c' ((A, n, c) :: es) (m ++ ys) :: r)) (hn : n = m.length) : Sep w0 B w (l ++ stk e k E A n c es m :: r) := by
  refine h.upd fun f hf hfb => ?_
  obtain ⟨h1, h2, h3, h4⟩ := hf
  have h5 := (List.pairwise_cons.1 h2).2
  refine ⟨((A, n, c) :: es).flatMap (fun h => (skV h).ownBlock.toList), ⟨hn, h5, fun x hx => ?_, rfl⟩, (Ex.refl w).mono (by simp), fun j hj => .inl ?_, fun j hj => (hfb j ?_).2⟩
  · have h6 := h3 x (List.mem_cons_of_mem _ hx)
    have h7 : x.2.1 ≤ m.length := by
      rcases List.mem_cons.1 hx with rfl | hx
      · simp only; omega
      · have := (List.pairwise_cons.1 h5).1 x hx
        simp only at this
        omega
    rw [List.take_append_of_le_length h7] at h6
    exact h6
  · rw [h4, List.flatMap_cons]
    exact List.mem_append_right _ hj
  · rw [h4, List.flatMap_cons]
    exact List.mem_append_right _ hj

theorem ownsRow_store {v : Value} {n1 : Nat} {xs : List Value} {g cap n : Nat} {cur : Array Value} {us : List Value} (hg : w.heap[g]? = some (.cells cur e (0, 0))) (hsz : cur.size = cap * k) (hle : n1 * k ≤ n * k) (hr : n * k + us.length ≤ cap * k) (h : w.ownsRow 0 e k v n1 xs) :
    (w.setRow g (cur.toList.take (n * k) ++ us ++ cur.toList.drop (n * k + us.length)).toArray).ownsRow 0 e k v n1 xs := by
  refine ⟨h.1, ?_⟩
  rcases h.2 with h0 | ⟨g1, cap1, cur1, hv, b1, b2, b3, b4, b5, b6⟩
  · exact .inl h0
  · by_cases hgg : g1 = g
    · subst hgg
      rw [hg] at b2
      injection b2 with b2
      injection b2 with b2 _ _
      subst b2
      refine .inr ⟨g1, cap1, _, hv, b1, setRow_heap w g1 cur _ e _ hg, b3, b4, ?_, ?_⟩
      · simp only [List.size_toArray, List.length_append, List.length_take, List.length_drop, Array.length_toList]
        omega
      · have hl : n1 * k ≤ (cur.toList.take (n * k)).length := by
          simp only [List.length_take, Array.length_toList]
          omega
        simp only [List.append_assoc]
        rw [List.take_append_of_le_length hl, List.take_take, Nat.min_eq_left hle]
        exact b6
    · exact .inr ⟨g1, cap1, cur1, hv, b1, by rw [setRow_other w g g1 _ hgg]; exact b2, b3, b4, b5, b6⟩

/-- append: the old header stays, below the new one. -/
theorem run_appSk (big : Nat) {ys : List α} {A2 : Option Addr} {m2 c2 : Nat} {z : Value} (hE : EncL E k) (hS : Sep w0 B w (l ++ stk e k E A n c es m :: r)) (hr : Rd w w.heap.size A2 (E ys)) (hpos : 0 < ys.length) (hm : m2 = ys.length) (ty : TypeId)
    (ht : P.underlying t = some (.slice e)) (hi : P.info? e = some inf) (hz : inf.zero = some z) (hs : inf.size = k) (hzs : z.cells.size = k) (hby : big * inf.bytes ≤ 140737488355328) (hbig : big ≤ 140737488355328) (hl : (n : Int) + m2 ≤ (big : Int)) :
    ∃ A' c' w', (vS (Builtin.append_ #[t, t] ty #[.slice A n c, .slice A2 m2 c2])).run P w = .ok (.value (.slice A' (m ++ ys).length c')) w' ∧ Sep w0 B w' (l ++ stk e k E A' (m ++ ys).length c' ((A, n, c) :: es) (m ++ ys) :: r) := by
  subst hm
  obtain ⟨fp, hf, hfb⟩ := hS.get
  have htop := stk_top hf
  obtain ⟨hn, hpw, hrows, hff⟩ := hf
  obtain ⟨a, rfl⟩ : ∃ a, A2 = some a := by
    have h9 : (E ys).length ≠ 0 := by
      rw [hE.len]
      have := Nat.mul_pos hpos hE.pos
      omega
    obtain ⟨ad, h1, _⟩ := hr 0 _ (List.getElem?_eq_getElem (Nat.pos_of_ne_zero h9))
    exact ⟨ad, h1⟩
  have hcells : ∀ j u, (E ys)[j]? = some u → w.cell? (a.add j) = some u := fun j u hu => by
    obtain ⟨ad, h, _, hc⟩ := hr j u hu
    injection h with h
    subst h
    exact hc
  have hlen : n + ys.length = (m ++ ys).length := by rw [List.length_append, hn]
  have hcl : n + ys.length ≤ big := by omega
  have hbb : (n + ys.length) * inf.bytes ≤ 140737488355328 := Nat.le_trans (Nat.mul_le_mul_right _ hcl) hby
  -- what both roads end with
  have fin : ∀ (A' : Option Addr) (c' : Nat) (w' : World), w'.ownsRow 0 e k (.slice A' (m ++ ys).length c') (m ++ ys).length (E (m ++ ys)) → (∀ h ∈ (A, n, c) :: es, w'.ownsRow 0 e k (skV h) h.2.1 (E (m.take h.2.1))) →
      (stk e k E A' (m ++ ys).length c' ((A, n, c) :: es) (m ++ ys)).at_ w' (((A', (m ++ ys).length, c') :: (A, n, c) :: es).flatMap (fun h => (skV h).ownBlock.toList)) := fun A' c' w' h1 h2 => by
    refine ⟨rfl, List.pairwise_cons.2 ⟨fun x hx => ?_, hpw⟩, fun x hx => ?_, rfl⟩
    · rcases List.mem_cons.1 hx with rfl | hx
      · simp only; omega
      · have := (List.pairwise_cons.1 hpw).1 x hx
        simp only at this ⊢
        omega
    · rcases List.mem_cons.1 hx with rfl | hx
      · simp only [skV, List.take_length]
        exact h1
      · have h3 := h2 x hx
        have h7 : x.2.1 ≤ m.length := by
          rcases List.mem_cons.1 hx with rfl | hx
          · simp only; omega
          · have := (List.pairwise_cons.1 hpw).1 x hx
            simp only at this
            omega
        rw [List.take_append_of_le_length h7]
        exact h3
  rcases htop.2 with ⟨hv, hn0⟩ | ⟨g, cap, cur, hv, _, hg, b3, b4, b5, b6⟩
  · -- nothing was there
    obtain ⟨v', w', hrun, hown, hgr, _, hbl⟩ := run_append_own_at (P := P) w 0 t ty e inf z k inf.bytes ht hi hz hs rfl hzs hE.pos (.slice A n c) n _ htop a ys.length c2 (E ys) (hE.len ys) hcells (hE.one ys)
      (by unfold maxLen; omega) hbb (Nat.zero_le _)
    rw [← hE.app, hlen] at hown
    obtain ⟨A', c', rfl, _⟩ := own_formK hown
    have hblk : (Value.slice A n c).ownBlock = none := by rw [hv]; rfl
    refine ⟨A', c', w', vS_run hrun, hS.upd fun f' hf' hfb' => ⟨_, fin A' c' w' hown (fun x hx => ?_), ?_, ?_, ?_⟩⟩
    · obtain ⟨x1, x2⟩ := hrows x hx
      refine ⟨x1, ?_⟩
      rcases x2 with h0 | ⟨g1, cap1, cur1, hv1, c1, c2', c3⟩
      · exact .inl h0
      · refine .inr ⟨g1, cap1, cur1, hv1, c1, ?_, c3⟩
        rw [hgr.block g1 (by
          rcases Nat.lt_or_ge g1 w.heap.size with q | q
          · exact q
          · rw [Array.getElem?_eq_none q] at c2'; cases c2') (by rw [hblk]; exact fun h => by cases h)]
        exact c2'
    · rw [hblk] at hgr
      exact (Ex.of_grown hgr).mono (by simp)
    · intro j hj
      rw [List.flatMap_cons, List.mem_append] at hj
      rcases hj with hj | hj
      · rcases hbl with h | h
        · simp only [skV] at hj
          rw [h, hblk] at hj
          simp at hj
        · simp only [skV] at hj
          rw [h] at hj
          simp at hj
          exact .inr (by omega)
      · exact .inl (by rw [hf'.2.2.2]; exact hj)
    · intro j hj
      rw [List.flatMap_cons, List.mem_append] at hj
      rcases hj with hj | hj
      · exact own_blockK hown j hj
      · exact Nat.lt_of_lt_of_le (hfb' j (by rw [hf'.2.2.2]; exact hj)).2 hgr.size
  · injection hv with hA hn1 hc1
    subst hA; subst hc1
    have hst1 : n * k + (E ys).length = (n + ys.length) * k := by rw [hE.len, Nat.add_mul]
    have hgmem : g ∈ ((some ⟨g, 0, none⟩, n, c) :: es).flatMap (fun h => (skV h).ownBlock.toList) := by
      rw [List.flatMap_cons]
      exact List.mem_append_left _ (by simp [skV, Value.ownBlock])
    by_cases hroom : n + ys.length ≤ c
    · have hroomk : (n + ys.length) * k ≤ c * k := Nat.mul_le_mul_right k hroom
      have hst := run_storeCells_at P g (n * k) e (E ys) 0 cur w hg (by rw [b5, Nat.add_zero, hst1]; exact hroomk) (hE.one ys)
      have hfc := run_firstCells_some (P := P) w inf.size ys.length a ys.length c2 (E ys) (by rw [hs]; exact hE.len ys) hcells
      simp only [Nat.add_zero] at hst
      have haddr : (⟨g, 0, none⟩ : Addr).add (n * k) = ⟨g, n * k, none⟩ := by unfold Addr.add; split <;> simp_all
      have hrun : (Builtin.append_ #[t, t] ty #[.slice (some ⟨g, 0, none⟩) n c, .slice (some a) ys.length c2]).run P w = .ok (.slice (some ⟨g, 0, none⟩) (n + ys.length) c) (w.setRow g (cur.toList.take (n * k) ++ E ys ++ cur.toList.drop (n * k + (E ys).length)).toArray) := by
        rw [hs] at hfc
        simp [Builtin.append_, run_underlying ht, sizeOf, typeInfo, hi, hs, Builtin.lenOf, hroom, hfc, haddr] at hst ⊢
        simp [hst]
      have hnew : (w.setRow g (cur.toList.take (n * k) ++ E ys ++ cur.toList.drop (n * k + (E ys).length)).toArray).ownsRow 0 e k (.slice (some ⟨g, 0, none⟩) (m ++ ys).length c) (m ++ ys).length (E (m ++ ys)) := by
        refine ⟨hE.len _, .inr ⟨g, c, _, rfl, Nat.zero_le _, setRow_heap w g cur _ e _ hg, by omega, b4, ?_, ?_⟩⟩
        · simp only [List.size_toArray, List.length_append, List.length_take, List.length_drop, Array.length_toList]
          omega
        · rw [← hlen, hE.app, b6]
          have : (n + ys.length) * k = (E m ++ E ys).length := by rw [List.length_append, hE.len, hE.len, ← hn, Nat.add_mul]
          rw [this]
          exact List.take_left
      refine ⟨_, c, _, by rw [← hlen]; exact vS_run hrun, hS.upd fun f' hf' hfb' => ⟨_, fin _ c _ hnew (fun x hx => ?_), ?_, ?_, ?_⟩⟩
      · refine ownsRow_store hg b5 ?_ (by rw [hst1]; exact hroomk) (hrows x hx)
        refine Nat.mul_le_mul_right k ?_
        rcases List.mem_cons.1 hx with rfl | hx
        · exact Nat.le_refl _
        · exact (List.pairwise_cons.1 hpw).1 x hx
      · exact ⟨rfl, rfl, rfl, by simp, fun j _ hj => setRow_other w g j _ (fun q => hj (by rw [hf'.2.2.2, q]; exact hgmem))⟩
      · intro j hj
        refine .inl ?_
        rw [hf'.2.2.2]
        rw [List.flatMap_cons, List.mem_append] at hj
        rcases hj with hj | hj
        · have : j = g := by simpa [skV, Value.ownBlock] using hj
          rw [this]; exact hgmem
        · exact hj
      · intro j hj
        have hj' : j ∈ f' := by
          rw [hf'.2.2.2]
          rw [List.flatMap_cons, List.mem_append] at hj
          rcases hj with hj | hj
          · have : j = g := by simpa [skV, Value.ownBlock] using hj
            rw [this]; exact hgmem
          · exact hj
        simpa using (hfb' j hj').2
    · have hrun := run_append_grow (P := P) w t ty e inf z ht hi hz ⟨g, 0, none⟩ n c (E m) (by rw [hs, hE.len, hn]) (fun j v hv9 => by
          have hadd : (⟨g, 0, none⟩ : Addr).add j = ⟨g, j, none⟩ := by unfold Addr.add; split <;> simp_all
          have h9 : cur[j]? = some v := by
            rw [← b6] at hv9
            rw [List.getElem?_take] at hv9
            split at hv9
            · simpa using hv9
            · cases hv9
          rw [hadd]
          simp [World.cell?, hg, h9]) a ys.length c2 (E ys) (by rw [hs]; exact hE.len ys) hcells (by omega) (by omega) (growslice_fits (by omega) hbb)
      have hge := grownCap_ge w (n + ys.length) c e
      have hmax : grownCap w (n + ys.length) c e ≤ maxLen := grownCap_le_maxLen w _ _ _ (by unfold maxLen; omega)
      have hnew : (w.drew.alloc (.cells ((E m).toArray ++ (E ys).toArray ++ Builtin.zeroCells z.cells (grownCap w (n + ys.length) c e - (n + ys.length))) e)).ownsRow 0 e k (.slice (some ⟨w.heap.size, 0, none⟩) (m ++ ys).length (grownCap w (n + ys.length) c e)) (m ++ ys).length (E (m ++ ys)) := by
        refine ⟨hE.len _, .inr ⟨w.heap.size, _, _, rfl, Nat.zero_le _, heap_alloc_new w.drew _, by omega, hmax, ?_, ?_⟩⟩
        · simp only [Array.size_append, List.size_toArray, size_zeroCells, hzs, hE.len]
          rw [← hn, ← Nat.add_mul, ← Nat.add_mul]
          congr 1
          omega
        · simp only [Array.toList_append, List.append_assoc]
          rw [← List.append_assoc, ← hE.app]
          have : (m ++ ys).length * k = (E (m ++ ys)).length := (hE.len _).symm
          rw [this]
          exact List.take_left
      refine ⟨_, _, _, by rw [← hlen]; exact vS_run hrun, hS.upd fun f' hf' hfb' => ⟨_, fin _ _ _ hnew (fun x hx => ?_), ?_, ?_, ?_⟩⟩
      · obtain ⟨x1, x2⟩ := hrows x hx
        refine ⟨x1, ?_⟩
        rcases x2 with h0 | ⟨g1, cap1, cur1, hv1, c1, c2', c3⟩
        · exact .inl h0
        · refine .inr ⟨g1, cap1, cur1, hv1, c1, ?_, c3⟩
          have hlt : g1 < w.heap.size := by
            rcases Nat.lt_or_ge g1 w.heap.size with q | q
            · exact q
            · rw [Array.getElem?_eq_none q] at c2'; cases c2'
          rw [heap_alloc_old w.drew _ hlt]
          exact c2'
      · exact ⟨rfl, rfl, rfl, by simp, fun j hj _ => heap_alloc_old w.drew _ hj⟩
      · intro j hj
        rw [List.flatMap_cons, List.mem_append] at hj
        rcases hj with hj | hj
        · have : j = w.heap.size := by simpa [skV, Value.ownBlock] using hj
          exact .inr (by omega)
        · exact .inl (by rw [hf'.2.2.2]; exact hj)
      · intro j hj
        rw [List.flatMap_cons, List.mem_append] at hj
        rcases hj with hj | hj
        · have : j = w.heap.size := by simpa [skV, Value.ownBlock] using hj
          subst this; simp
        · have := (hfb' j (by rw [hf'.2.2.2]; exact hj)).2
          simp
          omega
end
end Go.GL
