/-
  A small library of our own: slices.SortFunc on rows of the call's own, under slices.Compare: what the shelf's contract leaves.
-/
import Derived.Test.YtoickcchcjehdaaLibHd
import Derived.Test.YtoickcchcjehdaaLibSF
namespace Go.GL
open Go Go.RowKit Go.Sort Go.Proofs Go.Shelf

/-- Lists of numbers, by the first place at which they are unlike. -/
def cmpL : List Int → List Int → Int
  | [], [] => 0
  | [], _ :: _ => -1
  | _ :: _, [] => 1
  | x :: l, y :: r => if x < y then -1 else if y < x then 1 else cmpL l r
theorem cmpL_neg : ∀ l r, cmpL r l = - cmpL l r
  | [], [] => rfl
  | [], _ :: _ => rfl
  | _ :: _, [] => rfl
  | x :: l, y :: r => by
    unfold cmpL
    by_cases h1 : x < y
    · rw [if_neg (by omega), if_pos h1, if_pos h1]; rfl
    · by_cases h2 : y < x
      · rw [if_pos h2, if_neg h1, if_pos h2]
      · rw [if_neg h2, if_neg h1, if_neg h1, if_neg h2]
        exact cmpL_neg l r
theorem cmpL_zero : ∀ {l r}, cmpL l r = 0 → l = r
  | [], [], _ => rfl
  | [], _ :: _, h => by simp [cmpL] at h
  | _ :: _, [], h => by simp [cmpL] at h
  | x :: l, y :: r, h => by
    unfold cmpL at h
    by_cases h1 : x < y
    · rw [if_pos h1] at h; omega
    · by_cases h2 : y < x
      · rw [if_neg h1, if_pos h2] at h; omega
      · rw [if_neg h1, if_neg h2] at h
        rw [show x = y by omega, cmpL_zero h]
theorem cmpL_self : ∀ l, cmpL l l = 0
  | [] => rfl
  | x :: l => by
    unfold cmpL
    rw [if_neg (by omega), if_neg (by omega)]
    exact cmpL_self l
theorem cmpL_trans : ∀ {l r s}, cmpL l r < 0 → cmpL r s < 0 → cmpL l s < 0
  | [], [], _, h, _ => by simp [cmpL] at h
  | [], _ :: _, [], _, h => by simp [cmpL] at h
  | [], _ :: _, _ :: _, _, _ => by simp [cmpL]
  | _ :: _, [], _, h, _ => by simp [cmpL] at h
  | _ :: _, _ :: _, [], _, h => by simp [cmpL] at h
  | x :: l, y :: r, z :: s, h, k => by
    unfold cmpL at h k ⊢
    by_cases h1 : x < y
    · by_cases k1 : y < z
      · rw [if_pos (by omega)]; omega
      · by_cases k2 : z < y
        · rw [if_neg k1, if_pos k2] at k; omega
        · rw [if_pos (by omega)]; omega
    · by_cases h2 : y < x
      · rw [if_neg h1, if_pos h2] at h; omega
      · rw [if_neg h1, if_neg h2] at h
        by_cases k1 : y < z
        · rw [if_pos (by omega)]; omega
        · by_cases k2 : z < y
          · rw [if_neg k1, if_pos k2] at k; omega
          · rw [if_neg k1, if_neg k2] at k
            rw [if_neg (by omega), if_neg (by omega)]
            exact cmpL_trans h k
theorem cmpL_lt (l r : List Int) : ltOf cmpL l r = true ↔ cmpL l r < 0 := by unfold ltOf; simp
theorem cmpL_ltF (l r : List Int) : ltOf cmpL l r = false ↔ ¬ cmpL l r < 0 := by rw [← cmpL_lt]; simp
theorem cmpL_swo : SWO (ltOf cmpL) where
  irrefl x := by rw [cmpL_ltF, cmpL_self]; omega
  trans x y z := by rw [cmpL_lt, cmpL_lt, cmpL_lt]; exact cmpL_trans
  ntrans x y z := by
    rw [cmpL_ltF, cmpL_ltF, cmpL_ltF]
    intro h1 h2 h3
    have n1 := cmpL_neg y z
    by_cases h0 : cmpL y z = 0
    · rw [cmpL_zero h0] at h1; exact h1 h3
    · exact h1 (cmpL_trans h3 (by omega))
theorem cmpL_tot (x y : List Int) (h1 : ltOf cmpL x y = false) (h2 : ltOf cmpL y x = false) : x = y := by
  rw [cmpL_ltF] at h1 h2
  have := cmpL_neg x y
  exact cmpL_zero (by omega)

section
variable {w w' : World} {e ei : TypeId} {v v' : Value} {hd : List Hd} {m : List (List Int)} {f : List Nat}

/-- Some of the rows, in another order. -/
theorem rows_pick {is : List Nat} {hd' : List Hd} {m' : List (List Int)} (hl : hd.length = m.length) (hf : SepL w (own e v (hdV hd m) :: rowHP ei hd m) f)
    (hn : is.Nodup) (hlt : ∀ i ∈ is, i < m.length) (ehd : hd' = is.map fun i => hd.getD i (none, 0)) (em : m' = is.map fun i => m.getD i [])
    (hv : v'.ownBlock = v.ownBlock) (ho : w'.ownsRow 0 e 1 v' (hdV hd' m').length (hdV hd' m')) (hk : ∀ k ∈ f, k ∉ v.ownBlock.toList → w'.heap[k]? = w.heap[k]?) :
    ∃ f', (hd'.length = m'.length ∧ SepL w' (own e v' (hdV hd' m') :: rowHP ei hd' m') f') ∧ ∀ k ∈ f', k ∈ f := by
  cases hf with
  | @cons _ _ f1 u h1 hr hd1 =>
    have hf1 : f1 = v.ownBlock.toList := h1.2
    obtain ⟨F, g1, g2, g3⟩ := hr.fn
    have hlen : (rowHP ei hd m).length = m.length := by unfold rowHP; rw [List.length_zipWith]; omega
    have g1' : ∀ (i : Nat) (p : HP), (rowHP ei hd m)[i]? = some p → p.at_ w' (F i) := fun i p hp => by
      have hi : i < (rowHP ei hd m).length := (List.getElem?_eq_some_iff.1 hp).1
      refine HP.loc _ (fun k hk' => hk k ?_ ?_) (g1 i p hp)
      · exact List.mem_append_right _ (g3 i k hi hk')
      · rw [← hf1]; exact fun h => hd1 k h (g3 i k hi hk')
    obtain ⟨z, hz, hm⟩ := SepL.of_fn g1' g2 is hn
    have e1 : is.filterMap ((rowHP ei hd m)[·]?) = rowHP ei hd' m' := by
      rw [ehd, em]
      clear hm hz hn em ehd ho hk
      induction is with
      | nil => rfl
      | cons i is ih =>
        have hi : i < m.length := hlt i (by simp)
        have hg := rowHP_get (ei := ei) hl (i := (i : Int)) ⟨by omega, by omega⟩
        rw [Int.toNat_natCast] at hg
        rw [List.filterMap_cons, hg, ih (fun j hj => hlt j (by simp [hj]))]
        rfl
    rw [e1] at hz
    refine ⟨f1 ++ z, ⟨by rw [ehd, em]; simp, .cons ⟨ho, by rw [hf1, hv]⟩ hz (fun k hk1 hk2 => ?_)⟩, fun k hk1 => ?_⟩
    · obtain ⟨i, _, h3, h4⟩ := hm k hk2
      exact hd1 k hk1 (g3 i k h3 h4)
    · rcases List.mem_append.1 hk1 with h | h
      · exact List.mem_append_left _ h
      · obtain ⟨i, _, h3, h4⟩ := hm k h
        exact List.mem_append_right _ (g3 i k h3 h4)
end

section
variable {α : Type} [Inhabited α] {enc : α → Value}
theorem holds_of_blockE {w : World} {g : Nat} {cur : Array Value} {e : TypeId} {d : Array α} (hb : w.heap[g]? = some (.cells cur e (0, 0))) (ht : cur.toList.take d.size = d.toList.map enc) : Holds enc w g 0 d := by
  intro j hj
  refine ⟨?_, by simp [World.frozen?, hb]⟩
  have h1 : (cur.toList.take d.size)[j]? = (d.toList.map enc)[j]? := by rw [ht]
  rw [List.getElem?_take_of_lt hj] at h1
  simp only [World.cell?, hb, Nat.zero_add]
  simp only [Option.isSome_none, Bool.false_eq_true, if_false]
  rw [← Array.getElem?_toList, h1]
  simp [hj]
theorem heap_sortedE {w : World} {g n : Nat} {os : Array Obj} {cur : Array Value} {e : TypeId} {fr : Nat × Nat} (d : Array α) (hb : w.heap[g]? = some (.cells cur e fr)) :
    (grow (putRow enc (Sort.ahead w n) g 0 d) os).heap[g]? = some (.cells (putCells enc 0 d cur) e fr) := by
  have hg : g < w.heap.size := (Array.getElem?_eq_some_iff.1 hb).1
  rw [heap_grow_old _ _ (by simpa using hg)]
  simp [putRow, mapBlock, Sort.ahead, Array.getElem?_modify, hb, onCells]
theorem grownBy_sortedE {w : World} {g n : Nat} {os : Array Obj} (d : Array α) : w.grownBy (grow (putRow enc (Sort.ahead w n) g 0 d) os) (some g) := by
  refine ⟨rfl, rfl, rfl, by simp, fun k hk hne => ?_⟩
  rw [heap_grow_old _ _ (by simpa using hk)]
  have : g ≠ k := fun e => hne (by rw [e])
  simp [putRow, mapBlock, Sort.ahead, Array.getElem?_modify, this]
theorem take_putCellsE (cur : Array Value) (d : Array α) (h : d.size ≤ cur.size) : (putCells enc 0 d cur).toList.take d.size = d.toList.map enc := by
  apply List.ext_getElem?
  intro j
  by_cases hj : j < d.size
  · rw [List.getElem?_take_of_lt hj, Array.getElem?_toList]
    simp [putCells, hj, show j < cur.size by omega]
  · rw [List.getElem?_take_eq_none (by omega), List.getElem?_eq_none (by simp; omega)]
end

/-- A row lies in a block, or is empty. -/
def RowAt (w : World) (A : Option Addr) (x : List Int) : Prop := x = [] ∨ ∃ b o : Nat, A = some ⟨b, o, none⟩ ∧ ∀ j, j < x.length → w.cell? ⟨b, o + j, none⟩ = some (.int .i64 x[j]!)
theorem RowAt.of_own {w : World} {e : TypeId} {A : Option Addr} {n c : Nat} {x : List Int} {f : List Nat} (h : (own e (.slice A n c) (vI x)).at_ w f) : RowAt w A x := by
  have hr := own_rd h
  rcases h.1.2 with ⟨_, h0⟩ | ⟨g, cap, cur, hv, _⟩
  · rw [List.length_map] at h0
    exact .inl (List.eq_nil_of_length_eq_zero h0)
  · injection hv with hA
    refine .inr ⟨g, 0, hA, fun j hj => ?_⟩
    obtain ⟨ad, h1, _, h2⟩ := hr j (.int .i64 x[j]!) (by rw [List.getElem?_map, List.getElem?_eq_getElem hj, getElem!_pos x j hj]; rfl)
    rw [hA] at h1
    injection h1 with h1
    rw [← h1] at h2
    have e : (⟨g, 0, none⟩ : Addr).add j = ⟨g, 0 + j, none⟩ := by unfold Addr.add; split <;> simp_all
    rw [← e]
    exact h2
/-- What is asked of a comparison of rows: where both lie it tells; it may draw and lay blocks. -/
def CmpR (P : Program) (g : Nat) : Prop :=
  ∀ (A1 A2 : Option Addr) (c1 c2 : Nat) (x y : List Int) (W : World), RowAt W A1 x → RowAt W A2 y → x.length ≤ maxLen → y.length ≤ maxLen →
    Calls P g #[.slice A1 x.length c1, .slice A2 y.length c2] W fun e w' => e = .returned (.int .i64 (cmpL x y)) ∧ ∃ q os', w' = grow (W.drewN q) os'

section
variable {hd : List Hd} {m : List (List Int)}
/-- A row's header, by its place. -/
def hvAt (hd : List Hd) (m : List (List Int)) (i : Fin m.length) : Value := .slice (hdA hd (i.val : Int)) (geti2 m (i.val : Int)).length (hdC hd (i.val : Int))
theorem hdV_fin (hl : hd.length = m.length) : hdV hd m = (List.finRange m.length).map (hvAt hd m) := by
  apply List.ext_getElem?
  intro j
  by_cases hj : j < m.length
  · have h := hdV_get hl (i := (j : Int)) ⟨by omega, by omega⟩
    rw [Int.toNat_natCast] at h
    rw [h, List.getElem?_map, List.getElem?_eq_getElem (by simpa using hj)]
    simp [hvAt]
  · rw [List.getElem?_eq_none (by rw [hdV_length hl]; omega), List.getElem?_eq_none (by simpa using hj)]
theorem hdV_pick (is : List (Fin m.length)) : hdV ((is.map (·.val)).map fun i => hd.getD i (none, 0)) ((is.map (·.val)).map fun i => m.getD i []) = is.map (hvAt hd m) := by
  induction is with
  | nil => rfl
  | cons i is ih =>
    have h : hdV (hd.getD i.val (none, 0) :: (is.map (·.val)).map fun i => hd.getD i (none, 0)) (m.getD i.val [] :: (is.map (·.val)).map fun i => m.getD i []) = hvAt hd m i :: hdV ((is.map (·.val)).map fun i => hd.getD i (none, 0)) ((is.map (·.val)).map fun i => m.getD i []) := rfl
    rw [List.map_cons, List.map_cons, List.map_cons, h, ih, List.map_cons]
theorem pick_all (m : List (List Int)) : ((List.finRange m.length).map (·.val)).map (fun i => m.getD i []) = m := by
  apply List.ext_getElem?
  intro j
  by_cases hj : j < m.length
  · rw [List.getElem?_map, List.getElem?_map, List.getElem?_eq_getElem (by simpa using hj)]
    simp [List.getD_eq_getElem?_getD, List.getElem?_eq_getElem hj]
  · rw [List.getElem?_eq_none (by simpa using hj), List.getElem?_eq_none (by omega)]
end

theorem sortR_own {P : Program} {ρ : Ren} (Ly : SlLaysF.n6 P ρ) {g : Nat} (eg : ∀ args w, (callFunc g args).run P w = .ok (.enter g args) w) (hcmp : CmpR P g)
    {et ei : TypeId} {A : Option Addr} {n c : Nat} {hd : List Hd} {m : List (List Int)} {w0 w : World} {B : Nat} {fs : List HP} (hS : Sep w0 B w (rows et ei (.slice A n c) hd m :: fs)) (hmx : (m.length : Int) ≤ bigN) :
    Calls P (ρ.f 6) #[.slice A n c, .func (.func g) #[] #[]] w fun e w' => ∃ v, e = .returned v ∧ ∃ (hd' : List Hd), v = .tuple #[] ∧ Sep w0 B w' (rows et ei (.slice A n c) hd' (sortK cmpL m) :: fs) := by
  have hn : n = m.length := (Sep.rowsLen (l := []) hS).1
  subst hn
  by_cases hm0 : m = []
  · subst hm0
    refine (AnyF.slices_SortFunc_none { Ly with } A c _ w).mono ?_
    rintro e w' ⟨rfl, rfl⟩
    refine ⟨_, rfl, hd, rfl, ?_⟩
    have : sortK cmpL [] = [] := List.eq_nil_of_length_eq_zero (sortK_length cmpL [])
    rw [this]; exact hS
  obtain ⟨f, ⟨hl, hf⟩, hb⟩ := Sep.get (l := []) hS
  have hpos : 0 < m.length := List.length_pos_iff.2 hm0
  haveI : Inhabited (Fin m.length) := ⟨⟨0, hpos⟩⟩
  have hf0 := hf
  cases hf0 with
  | @cons _ _ f1 u ho hr hd1 =>
    obtain ⟨hown, hf1⟩ := ho
    rcases hown.2 with ⟨hv, h0⟩ | ⟨b, cap, cur, hv, h1, h2, h3, h4, h5, h6⟩
    · rw [hdV_length hl] at h0; omega
    · rw [hdV_length hl] at hv h3 h6
      cases hv
      rw [Nat.mul_one] at h6
      have hg : b < w.heap.size := (Array.getElem?_eq_some_iff.1 h2).1
      have hf1' : f1 = [b] := by rw [hf1]; rfl
      have hdl : (List.finRange m.length).toArray.size = m.length := by simp
      have hH : Holds (hvAt hd m) w b 0 (List.finRange m.length).toArray := by
        refine holds_of_blockE h2 ?_
        rw [hdl, h6, hdV_fin hl]
      have hbig : m.length < 4611686018427387904 := by unfold bigN at hmx; omega
      have hrl : (rowHP ei hd m).length = m.length := by unfold rowHP; rw [List.length_zipWith]; omega
      have hC := Any.slices_SortFunc Ly (hvAt hd m) (fun _ => rfl) (fun i j => cmpL (geti2 m (i.val : Int)) (geti2 m (j.val : Int)))
        ⟨fun x => cmpL_swo.irrefl _, fun x y z => cmpL_swo.trans _ _ _, fun x y z => cmpL_swo.ntrans _ _ _⟩ g #[] b 0 c (List.finRange m.length).toArray w eg ?_ hH hg (by rw [hdl]; exact hbig)
      · rw [hdl] at hC
        refine (show Calls P (ρ.f 6) #[.slice (some ⟨b, 0, none⟩) m.length c, .func (.func g) #[] #[]] w _ from hC).mono ?_
        rintro e w' ⟨rfl, d', q, os, hp, hs, rfl⟩
        have hds : d'.size = m.length := by rw [hp.1, hdl]
        have hperm : d'.toList.Perm (List.finRange m.length) := by
          have h := hp.2.2
          have e1 : d'.extract 0 m.length = d' := by
            have := Array.extract_size (xs := d')
            rwa [hds] at this
          have e2 : (List.finRange m.length).toArray.extract 0 m.length = (List.finRange m.length).toArray := by
            have := Array.extract_size (xs := (List.finRange m.length).toArray)
            rwa [hdl] at this
          rw [e1, e2] at h
          exact h
        have hm' : sortK cmpL m = (d'.toList.map (·.val)).map fun i => m.getD i [] := by
          refine List.Perm.eq_of_pairwise (le := fun x y => (!ltOf cmpL y x) = true) ?_ ?_ ?_ ?_
          · intro a b _ _ h1 h2
            simp only [Bool.not_eq_true'] at h1 h2
            exact cmpL_tot a b h2 h1
          · refine List.pairwise_mergeSort ?_ ?_ _
            · intro a b c h1 h2
              simp only [Bool.not_eq_true'] at h1 h2 ⊢
              exact cmpL_swo.ntrans c b a h2 h1
            · intro a b
              cases h : ltOf cmpL b a with
              | false => simp
              | true =>
                cases h' : ltOf cmpL a b with
                | false => simp
                | true =>
                  have := cmpL_swo.trans _ _ _ h h'
                  rw [cmpL_swo.irrefl] at this
                  cases this
          · rw [List.map_map, List.pairwise_map, List.pairwise_iff_getElem]
            intro i j hi hj hij
            have := hs i j (Nat.zero_le _) hij (by rw [Array.length_toList] at hj; omega)
            rw [getElem!_pos d' j (by simpa using hj), getElem!_pos d' i (by simpa using hi)] at this
            simpa [ltOf, geti2] using this
          · refine (List.mergeSort_perm _ _).trans ?_
            have h := (hperm.map (·.val)).map fun i => m.getD i []
            rw [pick_all] at h
            exact h.symm
        refine ⟨_, rfl, (d'.toList.map (·.val)).map fun i => hd.getD i (none, 0), rfl, Sep.upd (l := []) hS fun f' hf' hb' => ?_⟩
        have hx := Ex.of_grown (grownBy_sortedE (enc := hvAt hd m) (w := w) (g := b) (n := q) (os := os) d')
        have hb2 := heap_sortedE (enc := hvAt hd m) (n := q) (os := os) d' h2
        obtain ⟨hl', hf'⟩ := hf'
        have hbf : b ∈ f' := by
          cases hf' with
          | cons h _ _ => rw [h.2]; exact List.mem_append_left _ (by simp [Value.ownBlock])
        have hcl : m.length ≤ cur.size := by rw [h5]; omega
        have key := rows_pick (w' := sortWorld (hvAt hd m) w b 0 q d' os) (is := d'.toList.map (·.val)) (v' := .slice (some ⟨b, 0, none⟩) m.length c) hl hf'
          ((List.Perm.nodup_iff (hperm.map (·.val))).2 ?_) ?_ rfl hm' rfl ?_ ?_
        · obtain ⟨f2, h7, h8⟩ := key
          refine ⟨f2, h7, hx.mono (fun k hk => by simp at hk; subst hk; exact hbf), fun k hk => .inl (h8 k hk), fun k hk => Nat.lt_of_lt_of_le (hb' k (h8 k hk)).2 hx.size⟩
        · have := List.nodup_finRange m.length
          exact (List.pairwise_map).2 (List.Pairwise.imp (fun h e => h (Fin.ext e)) this)
        · intro i hi
          rw [List.mem_map] at hi
          obtain ⟨j, _, rfl⟩ := hi
          exact j.isLt
        · have e5 : (d'.toList.map (hvAt hd m)).length = m.length := by rw [List.length_map, Array.length_toList (xs := d'), hds]
          rw [hm', hdV_pick, e5]
          refine ⟨by rw [e5, Nat.mul_one], .inr ⟨b, c, _, rfl, h1, hb2, h3, h4, by simp [putCells, h5], ?_⟩⟩
          have e6 := take_putCellsE (enc := hvAt hd m) cur d' (by rw [hds]; exact hcl)
          rw [hds] at e6
          rw [Nat.mul_one, e6]
        · intro k hk hk2
          refine hx.block k (hb' k hk).2 ?_
          simpa [Value.ownBlock] using hk2
      · -- the comparison, in the sort's own worlds
        intro q os dk hdk x y
        have hx := Ex.of_grown (grownBy_sortedE (enc := hvAt hd m) (w := w) (g := b) (n := q) (os := os) dk)
        obtain ⟨F, g1, g2, g3⟩ := hr.fn
        have rowAt : ∀ i : Fin m.length, RowAt (sortWorld (hvAt hd m) w b 0 q dk os) (hdA hd (i.val : Int)) (geti2 m (i.val : Int)) ∧ (geti2 m (i.val : Int)).length ≤ maxLen := fun i => by
          have h7 := rowHP_get (ei := ei) hl (i := (i.val : Int)) ⟨by omega, by have := i.isLt; omega⟩
          have h8 := g1 _ _ h7
          have hi : ((i.val : Int)).toNat < (rowHP ei hd m).length := by rw [hrl, Int.toNat_natCast]; exact i.isLt
          have h9 : (own ei (.slice (hdA hd (i.val : Int)) (geti2 m (i.val : Int)).length (hdC hd (i.val : Int))) (vI (geti2 m (i.val : Int)))).at_ (sortWorld (hvAt hd m) w b 0 q dk os) (F ((i.val : Int)).toNat) := by
            refine HP.loc _ (fun k hk => hx.block k ?_ ?_) h8
            · exact (hb k (List.mem_append_right _ (g3 _ k hi hk))).2
            · intro h
              have : k = b := by simpa using h
              subst this
              exact hd1 k (by rw [hf1']; simp) (g3 _ k hi hk)
          have h10 := own_max h9
          rw [List.length_map] at h10
          exact ⟨RowAt.of_own h9, h10⟩
        exact hcmp _ _ _ _ _ _ _ (rowAt x).1 (rowAt y).1 (rowAt x).2 (rowAt y).2

/-- Is a row unlike the one before it? -/
def keepR (m : List (List Int)) (j : Nat) : Bool := decide (j = 0 ∨ m.getD j [] ≠ m.getD (j - 1) [])
def keptR (m : List (List Int)) (k : Nat) : List Nat := (List.range k).filter (keepR m)
/-- Rows that are one behind the other the same, but once. -/
def compR (m : List (List Int)) : List (List Int) := (keptR m m.length).map fun i => m.getD i []
def hvN (hd : List Hd) (m : List (List Int)) (i : Nat) : Value := .slice (hdA hd (i : Int)) (geti2 m (i : Int)).length (hdC hd (i : Int))
theorem hdV_pickN (hd : List Hd) (m : List (List Int)) (is : List Nat) : hdV (is.map fun i => hd.getD i (none, 0)) (is.map fun i => m.getD i []) = is.map (hvN hd m) := by
  induction is with
  | nil => rfl
  | cons i is ih =>
    have h : hdV (hd.getD i (none, 0) :: is.map fun i => hd.getD i (none, 0)) (m.getD i [] :: is.map fun i => m.getD i []) = hvN hd m i :: hdV (is.map fun i => hd.getD i (none, 0)) (is.map fun i => m.getD i []) := rfl
    rw [List.map_cons, List.map_cons, h, ih, List.map_cons]
theorem keptR_succ (m : List (List Int)) (k : Nat) : keptR m (k + 1) = keptR m k ++ (if keepR m k then [k] else []) := by
  unfold keptR
  rw [List.range_succ, List.filter_append]
  by_cases h : keepR m k <;> simp [h]
theorem keptR_len (m : List (List Int)) (k : Nat) : (keptR m k).length ≤ k := by
  unfold keptR
  have := List.length_filter_le (keepR m) (List.range k)
  rwa [List.length_range] at this
theorem keptR_all {m : List (List Int)} {k : Nat} (h : ∀ j, j < k → keepR m j = true) : keptR m k = List.range k := by
  unfold keptR
  exact List.filter_eq_self.2 fun j hj => h j (List.mem_range.1 hj)
theorem keptR_lt {m : List (List Int)} {k : Nat} (h : ∃ j, j < k ∧ keepR m j = false) : (keptR m k).length < k := by
  obtain ⟨j, hj, hk⟩ := h
  induction k with
  | zero => omega
  | succ k ih =>
    rw [keptR_succ, List.length_append]
    by_cases e : j = k
    · subst e
      rw [hk]
      have := keptR_len m j
      simp; omega
    · have := ih (by omega)
      split <;> simp <;> omega

/-- The row of headers while it is packed: what is kept of the first m, then what was there. -/
def packed (d : List Value) (m : List (List Int)) (k : Nat) : List Value := (keptR m k).map (d.getD · (.slice none 0 0)) ++ d.drop (keptR m k).length
theorem packed_len {d : List Value} {m : List (List Int)} {k : Nat} (hk : k ≤ d.length) : (packed d m k).length = d.length := by
  unfold packed
  have := keptR_len m k
  simp; omega
theorem packed_high {d : List Value} {m : List (List Int)} {k j : Nat} (hj : (keptR m k).length ≤ j) (hd : j < d.length) : (packed d m k)[j]? = d[j]? := by
  unfold packed
  rw [List.getElem?_append_right (by simpa using hj), List.getElem?_drop]
  congr 1
  simp; omega
theorem packed_keep {d : List Value} {m : List (List Int)} {k : Nat} (hk : k < d.length) (h : keepR m k = true) : packed d m (k + 1) = (packed d m k).set (keptR m k).length (d.getD k (.slice none 0 0)) := by
  unfold packed
  have hl := keptR_len m k
  rw [keptR_succ, h, if_pos rfl, List.map_append, List.length_append, List.map_cons, List.map_nil, List.append_assoc]
  rw [List.set_append_right _ _ (by simp), List.length_map, Nat.sub_self]
  have e : d.drop (keptR m k).length = d[(keptR m k).length]'(by omega) :: d.drop ((keptR m k).length + 1) := (List.getElem_cons_drop (by omega)).symm
  rw [e]
  rfl
theorem packed_skip {d : List Value} {m : List (List Int)} {k : Nat} (h : keepR m k = false) : packed d m (k + 1) = packed d m k := by
  unfold packed
  rw [keptR_succ, h]
  simp
theorem packed_all {d : List Value} {m : List (List Int)} {k : Nat} (hk : k ≤ d.length) (h : ∀ j, j < k → keepR m j = true) : packed d m k = d := by
  unfold packed
  rw [keptR_all h, List.length_range]
  apply List.ext_getElem?
  intro j
  by_cases hj : j < k
  · rw [List.getElem?_append_left (by simpa using hj), List.getElem?_map, List.getElem?_range hj]
    simp [List.getD_eq_getElem?_getD, List.getElem?_eq_getElem (show j < d.length by omega)]
  · rw [List.getElem?_append_right (by simpa using hj), List.getElem?_drop]
    congr 1
    simp; omega

/-- Rows packed: what is left is the call's own. -/
theorem compR_close {et ei : TypeId} {b c : Nat} {hd : List Hd} {m : List (List Int)} {w0 w w' : World} {B q : Nat} {fs : List HP} {vs : List Value} (hS : Sep w0 B w (rows et ei (.slice (some ⟨b, 0, none⟩) m.length c) hd m :: fs))
    (hlen : vs.length = m.length) (htk : vs.take (compR m).length = (keptR m m.length).map (hvN hd m)) (hw : w' = putRow id (Sort.ahead w q) b 0 vs.toArray) :
    ∃ hd' : List Hd, Sep w0 B w' (rows et ei (.slice (some ⟨b, 0, none⟩) (compR m).length c) hd' (compR m) :: fs) := by
  obtain ⟨f, ⟨hl, hf⟩, hb⟩ := Sep.get (l := []) hS
  have hf0 := hf
  cases hf0 with
  | @cons _ _ f1 u ho hr hd1 =>
    obtain ⟨hown, hf1⟩ := ho
    rcases hown.2 with ⟨hv, h0⟩ | ⟨b2, cap, cur, hv, h1, h2, h3, h4, h5, h6⟩
    · cases hv
    · rw [hdV_length hl] at hv h3 h6
      cases hv
      have hgr : w' = grow (putRow id (Sort.ahead w q) b 0 vs.toArray) #[] := by rw [grow_empty]; exact hw
      rw [hgr]
      have hx := Ex.of_grown (grownBy_sortedE (enc := id) (w := w) (g := b) (n := q) (os := #[]) vs.toArray)
      have hb2 := heap_sortedE (enc := id) (n := q) (os := #[]) vs.toArray h2
      have hkl : (compR m).length ≤ m.length := by unfold compR; rw [List.length_map]; exact keptR_len m m.length
      refine ⟨(keptR m m.length).map fun i => hd.getD i (none, 0), Sep.upd (l := []) hS fun f' hf' hb' => ?_⟩
      obtain ⟨hl', hf'⟩ := hf'
      have hbf : b ∈ f' := by
        cases hf' with
        | cons h _ _ => rw [h.2]; exact List.mem_append_left _ (by simp [Value.ownBlock])
      have key := rows_pick (w' := grow (putRow id (Sort.ahead w q) b 0 vs.toArray) #[]) (is := keptR m m.length) (v' := .slice (some ⟨b, 0, none⟩) (compR m).length c) (m' := compR m) hl hf'
        ((List.filter_sublist (l := List.range m.length)).nodup List.nodup_range) ?_ rfl rfl rfl ?_ ?_
      · obtain ⟨f2, h7, h8⟩ := key
        exact ⟨f2, h7, hx.mono (fun k hk => by simp at hk; subst hk; exact hbf), fun k hk => .inl (h8 k hk), fun k hk => Nat.lt_of_lt_of_le (hb' k (h8 k hk)).2 hx.size⟩
      · intro i hi
        unfold keptR at hi
        rw [List.mem_filter] at hi
        exact List.mem_range.1 hi.1
      · have e1 : hdV ((keptR m m.length).map fun i => hd.getD i (none, 0)) (compR m) = (keptR m m.length).map (hvN hd m) := hdV_pickN hd m _
        rw [e1]
        have e2 : ((keptR m m.length).map (hvN hd m)).length = (compR m).length := by unfold compR; simp
        refine ⟨by rw [e2, Nat.mul_one], .inr ⟨b, c, _, by rw [e2], h1, hb2, by rw [e2]; omega, h4, by simp [putCells, h5], ?_⟩⟩
        rw [e2, Nat.mul_one]
        have e3 := take_putCellsE (enc := id) cur vs.toArray (by rw [h5]; simp; omega)
        simp only [List.size_toArray, List.map_id] at e3
        have e4 := congrArg (List.take (compR m).length) e3
        rw [List.take_take, Nat.min_eq_left (by omega)] at e4
        rw [e4]
        simpa using htk
      · intro k hk hk2
        refine hx.block k (hb' k hk).2 ?_
        simpa [Value.ownBlock] using hk2
end Go.GL
