/-
  StonesAreas: what stands for ever; the parts of a board, the vital regions.
-/
import Derived.Test.YtdjjomghggplpaaKD
namespace Go.Proofs.Ytdjjomghggplpaa
open Go Go.GL

section
variable {W H : Int} {c : List Int} {v : Int}

/-- A region touches a stone that is out. -/
def Tch (W : Int) (c : List Int) (v : Int) (X : Nat → Prop) (k : Nat) : Prop := ∃ s : Nat, Mk c (so2 v) s ∧ X s ∧ ∃ a, Rch W c (so3 v) k a ∧ Adj W a s
/-- A region that a group reaches wholly. -/
def Vit0 (W : Int) (c : List Int) (v : Int) (i k : Nat) : Prop := (∃ p, Rch W c (so3 v) k p ∧ geti c p = 0) ∧ ∀ p : Nat, Rch W c (so3 v) k p → geti c p = 0 → ∃ a, Rch W c (so2 v) i a ∧ Adj W a p
def Good (W : Int) (c : List Int) (v : Int) (X : Nat → Prop) (i k : Nat) : Prop := Fst W c (so3 v) k ∧ Vit0 W c v i k ∧ ¬ Tch W c v X k
structure Stable (W : Int) (c : List Int) (v : Int) (Y : Nat → Prop) : Prop where
  own : ∀ b, Y b → Mk c (so2 v) b
  clo : ∀ a b, Y a → Rch W c (so2 v) a b → Y b
  two : ∀ i, Mk c (so2 v) i → ¬ Y i → 2 ≤ nR c.length (Good W c v Y i)
structure Low (W : Int) (c : List Int) (v : Int) (X : Nat → Prop) : Prop where
  own : ∀ b, X b → Mk c (so2 v) b
  clo : ∀ a b, X a → Rch W c (so2 v) a b → X b
  low : ∀ Y, Stable W c v Y → ∀ b, X b → Y b

theorem tch_mono {X Y : Nat → Prop} (h : ∀ b, X b → Y b) {k : Nat} (ht : Tch W c v X k) : Tch W c v Y k := by
  obtain ⟨s, h1, h2, h3⟩ := ht
  exact ⟨s, h1, h s h2, h3⟩
theorem vit_grp {i j k : Nat} (hi : Mk c (so2 v) i) (h : Rch W c (so2 v) i j) : Vit0 W c v i k ↔ Vit0 W c v j k := by
  constructor
  · rintro ⟨h1, h2⟩
    refine ⟨h1, fun p hp hz => ?_⟩
    obtain ⟨a, h3, h4⟩ := h2 p hp hz
    exact ⟨a, (rch_symm hi h).trans h3, h4⟩
  · rintro ⟨h1, h2⟩
    refine ⟨h1, fun p hp hz => ?_⟩
    obtain ⟨a, h3, h4⟩ := h2 p hp hz
    exact ⟨a, h.trans h3, h4⟩
theorem good_grp {X : Nat → Prop} {i j : Nat} (hi : Mk c (so2 v) i) (h : Rch W c (so2 v) i j) : nR c.length (Good W c v X i) = nR c.length (Good W c v X j) := nR_congr _ fun k _ => by
  unfold Good
  rw [vit_grp hi h]
theorem good_anti {X Y : Nat → Prop} (h : ∀ b, X b → Y b) (i : Nat) : nR c.length (Good W c v Y i) ≤ nR c.length (Good W c v X i) := nR_mono _ fun _ _ ⟨h1, h2, h3⟩ => ⟨h1, h2, fun q => h3 (tch_mono h q)⟩

theorem low_none : Low W c v (fun _ => False) := ⟨fun _ h => h.elim, fun _ _ h => h.elim, fun _ _ _ h => h.elim⟩
theorem low_add {X : Nat → Prop} (hX : Low W c v X) {i : Nat} (hi : Mk c (so2 v) i) (h : nR c.length (Good W c v X i) < 2) : Low W c v (fun b => X b ∨ Rch W c (so2 v) i b) := by
  refine ⟨fun b hb => hb.elim (hX.own b) (fun q => rch_mk hi q), fun a b ha hr => ha.elim (fun q => Or.inl (hX.clo a b q hr)) (fun q => Or.inr (q.trans hr)), fun Y hY b hb => ?_⟩
  rcases hb with hb | hb
  · exact hX.low Y hY b hb
  · refine hY.clo i b (Classical.byContradiction fun q => ?_) hb
    have h1 := hY.two i hi q
    have h2 := good_anti (W := W) (c := c) (v := v) (hX.low Y hY) i
    omega
theorem low_uniq {X Y : Nat → Prop} (hX : Low W c v X) (sX : Stable W c v X) (hY : Low W c v Y) (sY : Stable W c v Y) (b : Nat) : X b ↔ Y b := ⟨hX.low Y sY b, hY.low X sX b⟩

theorem contains_p {s : List Int} (hs : s.length ≤ 17592186044416) (x : Int) : slices_Contains_m s x = some (decide (x ∈ s)) := by
  unfold slices_Contains_m slices_Index_m
  rw [search_loop (l := s) (fun y => x == y) (fun i => Fl.ret (i : Int)) (Fl.go ()) ?_ ?_ ?_]
  · have hn := fidx_neg (fun y => x == y) s
    unfold fidx at hn
    cases hf : s.findIdx? (fun y => x == y) with
    | none =>
      rw [hf] at hn
      have : ¬ x ∈ s := fun h => by
        have := hn.2 (List.any_eq_true.2 ⟨x, h, by simp⟩)
        simp at this
      simp only [slices_Index_K1, slices_Index_J1, Option.bind_some]
      rw [decide_eq_false this]; rfl
    | some i =>
      rw [hf] at hn
      have : x ∈ s := by
        obtain ⟨y, h1, h2⟩ := List.any_eq_true.1 (hn.1 (by simp))
        rw [beq_iff_eq] at h2
        rw [h2]; exact h1
      simp only [slices_Index_K1, Option.bind_some]
      rw [decide_eq_true this, decide_eq_true (by omega)]
  · intro i y hy hp
    have hb := idx_bd hy
    simp only [slices_Index_L1, slices_Index_J2]
    rw [if_pos (by simpa using hb.2), asrt_pos hb, geti_some hy]
    exact if_pos hp
  · intro i y hy hp
    have hb := idx_bd hy
    simp only [slices_Index_L1, slices_Index_J2]
    rw [if_pos (by simpa using hb.2), asrt_pos hb, geti_some hy, if_neg (by rw [hp]; simp)]
    simp only [slices_Index_J3]
    rw [w64_succ (by omega)]
  · simp only [slices_Index_L1]
    rw [if_neg (by simp)]

theorem containsFunc_p {s v1 v2 : List Int} {v3 : Bool} (hs : s.length ≤ 17592186044416) (h1 : v1.length ≤ 17592186044416) : slices_ContainsFunc_2_m s v1 v2 v3 = some (s.any (fun q => decide (q ∈ v1))) := by
  unfold slices_ContainsFunc_2_m slices_IndexFunc_2_m
  rw [search_loop (l := s) (fun q => decide (q ∈ v1)) (fun i => Fl.ret (i : Int)) (Fl.go ()) ?_ ?_ ?_]
  · have hn := fidx_neg (fun q => decide (q ∈ v1)) s
    unfold fidx at hn
    cases hf : s.findIdx? (fun q => decide (q ∈ v1)) with
    | none =>
      rw [hf] at hn
      have : s.any (fun q => decide (q ∈ v1)) = false := by
        rw [Bool.eq_false_iff]
        intro h; have := hn.2 h; simp at this
      rw [this]; rfl
    | some i =>
      rw [hf] at hn
      have : s.any (fun q => decide (q ∈ v1)) = true := hn.1 (by simp)
      simp only [slices_IndexFunc_2_K1, Option.bind_some]
      rw [this, decide_eq_true (by omega)]
  · intro i y hy hp
    have hb := idx_bd hy
    simp only [slices_IndexFunc_2_L1, slices_IndexFunc_2_J2]
    rw [if_pos (by simpa using hb.2), asrt_pos hb, geti_some hy]
    simp only [stones_Alive_3_m]
    rw [contains_p h1, Option.bind_some, Option.bind_some]
    exact if_pos hp
  · intro i y hy hp
    have hb := idx_bd hy
    simp only [slices_IndexFunc_2_L1, slices_IndexFunc_2_J2]
    rw [if_pos (by simpa using hb.2), asrt_pos hb, geti_some hy]
    simp only [stones_Alive_3_m]
    rw [contains_p h1, Option.bind_some, Option.bind_some, if_neg (by rw [hp]; simp)]
    simp only [slices_IndexFunc_2_J3]
    rw [w64_succ (by omega)]
  · simp only [slices_IndexFunc_2_L1]
    rw [if_neg (by simp)]

open Classical in
theorem vital_p (B : Dm W H c) (hv : v ≠ 0) (i k : Nat) (hk : Mk c (so3 v) k) (hi : Mk c (so2 v) i) (rb : List Int) (ro : Bool) (gi : List Int) (go : Bool) : stones_vital_m W H c (grpL W c (so3 v) k) rb ro gi (brdL W c (so2 v) i) go = some (decide (Vit0 W c v i k)) := by
  have hsm := B.small
  have hgl : (grpL W c (so3 v) k).length ≤ c.length := flen _ _
  have hbl : (brdL W c (so2 v) i).length ≤ c.length := flen _ _
  unfold stones_vital_m
  have key := count_loop (step := stones_vital_L1 c (grpL W c (so3 v) k) (brdL W c (so2 v) i)) (fun (s : Bool) (z : Nat) => (s, (z : Int)))
    (fun n s => (s = true ↔ ∃ q ∈ (grpL W c (so3 v) k).take n, geti c q = 0) ∧ ∀ q ∈ (grpL W c (so3 v) k).take n, geti c q = 0 → q ∈ brdL W c (so2 v) i)
    (fun r => stones_vital_K1 r = some (decide (Vit0 W c v i k))) (grpL W c (so3 v) k).length false ⟨by simp, by simp⟩ (by
    rintro z s hz ⟨h1, h2⟩
    have hg := get_geti hz
    obtain ⟨p, hp, hq, hr⟩ := grp_in _ (List.mem_of_getElem? hg)
    have e1 : stones_vital_L1 c (grpL W c (so3 v) k) (brdL W c (so2 v) i) (s, (z : Int)) = stones_vital_J2 c (grpL W c (so3 v) k) (brdL W c (so2 v) i) s z := if_pos (decide_eq_true (by omega))
    rw [e1]
    unfold stones_vital_J2 stones_vital_J3
    rw [hq, asrt_pos (by omega), asrt_pos (by omega), w64_of (by omega), contains_p (by omega), List.take_add_one, hg, hq]
    by_cases h0 : geti c p = 0
    · rw [if_pos (beq_iff_eq.2 h0), Option.bind_some]
      by_cases hb : (p : Int) ∈ brdL W c (so2 v) i
      · left
        rw [decide_eq_true hb]
        refine ⟨true, rfl, ⟨fun _ => ⟨p, List.mem_append_right _ (by simp), h0⟩, fun _ => rfl⟩, fun q hq hz => ?_⟩
        rcases List.mem_append.1 hq with hq | hq
        · exact h2 q hq hz
        · simp at hq; rw [hq]; exact hb
      · right
        rw [decide_eq_false hb]
        refine ⟨.ret false, rfl, ?_⟩
        have : ¬ Vit0 W c v i k := fun h => hb (mem_brd.2 ⟨hp, fun e => by
          have e' : geti c p = v := beq_iff_eq.1 e
          omega, h.2 p hr h0⟩)
        rw [decide_eq_false this]; rfl
    · left
      rw [if_neg (by simpa using h0)]
      refine ⟨s, rfl, ?_, fun q hq hz => ?_⟩
      · rw [h1]
        constructor
        · rintro ⟨q, hq, hz⟩; exact ⟨q, List.mem_append_left _ hq, hz⟩
        · rintro ⟨q, hq, hz⟩
          rcases List.mem_append.1 hq with hq | hq
          · exact ⟨q, hq, hz⟩
          · simp at hq; rw [hq] at hz; exact absurd hz h0
      · rcases List.mem_append.1 hq with hq | hq
        · exact h2 q hq hz
        · simp at hq; rw [hq] at hz; exact absurd hz h0) (by
    rintro s ⟨h1, h2⟩
    rw [List.take_length] at h1 h2
    refine ⟨.go s, ?_, ?_⟩
    · simp only [stones_vital_L1]
      rw [if_neg (by simp)]
    · simp only [stones_vital_K1, stones_vital_J1]
      congr 1
      rw [Bool.eq_iff_iff, decide_eq_true_eq, h1]
      constructor
      · rintro ⟨q, hq, hz⟩
        obtain ⟨p, hp, rfl, hr⟩ := grp_in q hq
        refine ⟨⟨p, hr, hz⟩, fun p' hr' hz' => ?_⟩
        have hl' := (rch_mk hk hr').1
        exact (mem_brd.1 (h2 p' (mem_grp.2 ⟨hl', hr'⟩) hz')).2.2
      · rintro ⟨⟨p, hr, hz⟩, _⟩
        exact ⟨p, mem_grp.2 ⟨(rch_mk hk hr).1, hr⟩, hz⟩)
  obtain ⟨r, hr, h⟩ := key
  have hr' : loop (stones_vital_L1 c (grpL W c (so3 v) k) (brdL W c (so2 v) i)) (false, 0) = some r := hr
  rw [hr', Option.bind_some]
  exact h

open Classical in
/-- The first places, in order. -/
noncomputable def fstL (W : Int) (c : List Int) (so : Int → Bool) : List Nat := (List.range c.length).filter (fun k => decide (Fst W c so k))
theorem fstL_len {so : Int → Bool} : (fstL W c so).length ≤ c.length := by
  unfold fstL
  refine Nat.le_trans (List.length_filter_le _ _) ?_
  rw [List.length_range]; exact Nat.le_refl _
theorem mem_fstL {so : Int → Bool} {k : Nat} : k ∈ fstL W c so ↔ Fst W c so k := by
  classical
  unfold fstL
  rw [List.mem_filter, List.mem_range, decide_eq_true_eq]
  exact ⟨fun h => h.2, fun h => ⟨h.1.1, h⟩⟩
theorem fstL_nodup {so : Int → Bool} : (fstL W c so).Nodup := by
  unfold fstL
  exact List.Nodup.sublist List.filter_sublist List.nodup_range

noncomputable def partL (W : Int) (c : List Int) (so : Int → Bool) : List (List Int × List Int × Bool) := (fstL W c so).map (fun k => (grpL W c so k, brdL W c so k, false))

theorem parts_p2 (B : Dm W H c) : stones_parts_m W H c v = some (partL W c (so2 v)) := by
  classical
  have hsm := B.small
  unfold stones_parts_m
  rw [asrt_pos (by unfold bigN; omega), Int.toNat_natCast]
  have key := count_loop (step := stones_parts_L1 W H c v) (fun (s : List (List Int × List Int × Bool) × List Bool) (i : Nat) => (s.1, s.2, (i : Int)))
    (fun n s => s.1 = ((List.range n).filter (fun k => decide (Fst W c (so2 v) k))).map (fun k => (grpL W c (so2 v) k, brdL W c (so2 v) k, false)) ∧ s.1.length ≤ n ∧ s.2.length = c.length ∧ ∀ b : Nat, b < c.length → (getb s.2 b = true ↔ Met W c (so2 v) n b))
    (fun r => r = partL W c (so2 v)) c.length ([], List.replicate c.length false) ⟨rfl, by simp, by simp, fun b hb => by
      rw [getb_some (by rw [List.getElem?_replicate, if_pos hb])]
      constructor
      · intro h; cases h
      · rintro ⟨j, h, _⟩; omega⟩ (by
    rintro i ⟨l, done⟩ hi ⟨h1, h2, h3, h4⟩
    left
    simp only at h1 h2 h3 h4 ⊢
    have e1 : stones_parts_L1 W H c v (l, done, (i : Int)) = stones_parts_J2 W H c v l done i := if_pos (decide_eq_true (by omega))
    rw [e1]
    unfold stones_parts_J2
    rw [asrt_pos (by omega)]
    unfold stones_Alive_1_m
    rw [Option.bind_some, Int.toNat_natCast, asrt_pos (fun _ => by omega), List.range_succ, List.filter_append, List.map_append, ← h1]
    by_cases hq : ((!(geti c (i : Int) == v)) || getb done (i : Int)) = true
    · rw [if_pos hq]
      have hF : ¬ Fst W c (so2 v) i := fun h => by
        have h5 := fst_iff.1 h
        have h6 : (geti c (i : Int) == v) = true := h.1.2
        have h7 : ¬ getb done i = true := fun q => h5.2 ((h4 i hi).1 q)
        rw [h6] at hq
        exact h7 (by simpa using hq)
      unfold stones_parts_J3
      rw [w64_of (by omega)]
      refine ⟨(l, done), rfl, by simp [hF], by simp only; omega, h3, fun b hb => ?_⟩
      rw [h4 b hb, met_succ]
      exact ⟨Or.inl, fun h => h.elim id (fun h => absurd h.1 hF)⟩
    · rw [if_neg hq]
      have hM : Mk c (so2 v) i := ⟨hi, by
        show (geti c (i : Int) == v) = true
        cases h : (geti c (i : Int) == v)
        · rw [h] at hq; exact absurd rfl hq
        · rfl⟩
      have hF : Fst W c (so2 v) i := fst_iff.2 ⟨hM, fun h => hq (by rw [(h4 i hi).2 h]; simp)⟩
      unfold stones_parts_J4
      rw [spread_p_2 B hi hM.2, Option.bind_some]
      have hgl : (grpL W c (so2 v) i).length ≤ c.length := flen _ _
      obtain ⟨d, d1, d2, d3⟩ := markall (step := stones_parts_L2 c (grpL W c (so2 v) i, brdL W c (so2 v) i)) (l := grpL W c (so2 v) i) (N := c.length) (fun q hq => by
        obtain ⟨b, hb, e, _⟩ := grp_in q hq
        exact ⟨b, hb, e⟩) (fun d z hd hz => by
        have e2 : stones_parts_L2 c (grpL W c (so2 v) i, brdL W c (so2 v) i) (d, (z : Int)) = stones_parts_J6 c (grpL W c (so2 v) i, brdL W c (so2 v) i) d z := if_pos (decide_eq_true (by simp only; omega))
        obtain ⟨b, hb, hq, _⟩ := grp_in _ (List.mem_of_getElem? (get_geti hz))
        rw [e2]
        unfold stones_parts_J6 stones_parts_J7
        simp only
        rw [Int.toNat_natCast, asrt_pos (by omega), asrt_pos (by omega), w64_of (by omega)]
        rfl) (fun d => by
        simp only [stones_parts_L2]
        rw [if_neg (by simp)]) h3
      rw [d1, Option.bind_some]
      simp only [stones_parts_K2]
      unfold stones_parts_J5 stones_parts_J3
      rw [asrt_pos (by unfold bigK; omega), w64_of (by omega)]
      refine ⟨(l ++ [(grpL W c (so2 v) i, brdL W c (so2 v) i, false)], d), rfl, by simp [hF], by simp only; rw [List.length_append]; simp; omega, d2, fun b hb => ?_⟩
      rw [d3 b hb, h4 b hb, met_succ]
      constructor
      · rintro (h | h)
        · exact Or.inl h
        · exact Or.inr ⟨hF, (mem_grp.1 h).2⟩
      · rintro (h | h)
        · exact Or.inl h
        · exact Or.inr (mem_grp.2 ⟨hb, h.2⟩)) (by
    rintro ⟨l, done⟩ ⟨h1, h2, h3, h4⟩
    refine ⟨l, ?_, h1⟩
    simp only [stones_parts_L1]
    rw [if_neg (by simp)])
  obtain ⟨r, hr, rfl⟩ := key
  have hr' : loop (stones_parts_L1 W H c v) ([], List.replicate c.length false, 0) = _ := hr
  rw [hr', Option.bind_some]
  rfl

theorem parts_p3 (B : Dm W H c) : stones_parts_2_m W H c v = some (partL W c (so3 v)) := by
  classical
  have hsm := B.small
  unfold stones_parts_2_m
  rw [asrt_pos (by unfold bigN; omega), Int.toNat_natCast]
  have key := count_loop (step := stones_parts_2_L1 W H c v) (fun (s : List (List Int × List Int × Bool) × List Bool) (i : Nat) => (s.1, s.2, (i : Int)))
    (fun n s => s.1 = ((List.range n).filter (fun k => decide (Fst W c (so3 v) k))).map (fun k => (grpL W c (so3 v) k, brdL W c (so3 v) k, false)) ∧ s.1.length ≤ n ∧ s.2.length = c.length ∧ ∀ b : Nat, b < c.length → (getb s.2 b = true ↔ Met W c (so3 v) n b))
    (fun r => r = partL W c (so3 v)) c.length ([], List.replicate c.length false) ⟨rfl, by simp, by simp, fun b hb => by
      rw [getb_some (by rw [List.getElem?_replicate, if_pos hb])]
      constructor
      · intro h; cases h
      · rintro ⟨j, h, _⟩; omega⟩ (by
    rintro i ⟨l, done⟩ hi ⟨h1, h2, h3, h4⟩
    left
    simp only at h1 h2 h3 h4 ⊢
    have e1 : stones_parts_2_L1 W H c v (l, done, (i : Int)) = stones_parts_2_J2 W H c v l done i := if_pos (decide_eq_true (by omega))
    rw [e1]
    unfold stones_parts_2_J2
    rw [asrt_pos (by omega)]
    unfold stones_Alive_2_m
    rw [Option.bind_some, Int.toNat_natCast, asrt_pos (fun _ => by omega), List.range_succ, List.filter_append, List.map_append, ← h1]
    by_cases hq : ((!(geti c (i : Int) != v)) || getb done (i : Int)) = true
    · rw [if_pos hq]
      have hF : ¬ Fst W c (so3 v) i := fun h => by
        have h5 := fst_iff.1 h
        have h6 : (geti c (i : Int) != v) = true := h.1.2
        have h7 : ¬ getb done i = true := fun q => h5.2 ((h4 i hi).1 q)
        rw [h6] at hq
        exact h7 (by simpa using hq)
      unfold stones_parts_2_J3
      rw [w64_of (by omega)]
      refine ⟨(l, done), rfl, by simp [hF], by simp only; omega, h3, fun b hb => ?_⟩
      rw [h4 b hb, met_succ]
      exact ⟨Or.inl, fun h => h.elim id (fun h => absurd h.1 hF)⟩
    · rw [if_neg hq]
      have hM : Mk c (so3 v) i := ⟨hi, by
        show (geti c (i : Int) != v) = true
        cases h : (geti c (i : Int) != v)
        · rw [h] at hq; exact absurd rfl hq
        · rfl⟩
      have hF : Fst W c (so3 v) i := fst_iff.2 ⟨hM, fun h => hq (by rw [(h4 i hi).2 h]; simp)⟩
      unfold stones_parts_2_J4
      rw [spread_p_3 B hi hM.2, Option.bind_some]
      have hgl : (grpL W c (so3 v) i).length ≤ c.length := flen _ _
      obtain ⟨d, d1, d2, d3⟩ := markall (step := stones_parts_2_L2 c (grpL W c (so3 v) i, brdL W c (so3 v) i)) (l := grpL W c (so3 v) i) (N := c.length) (fun q hq => by
        obtain ⟨b, hb, e, _⟩ := grp_in q hq
        exact ⟨b, hb, e⟩) (fun d z hd hz => by
        have e2 : stones_parts_2_L2 c (grpL W c (so3 v) i, brdL W c (so3 v) i) (d, (z : Int)) = stones_parts_2_J6 c (grpL W c (so3 v) i, brdL W c (so3 v) i) d z := if_pos (decide_eq_true (by simp only; omega))
        obtain ⟨b, hb, hq, _⟩ := grp_in _ (List.mem_of_getElem? (get_geti hz))
        rw [e2]
        unfold stones_parts_2_J6 stones_parts_2_J7
        simp only
        rw [Int.toNat_natCast, asrt_pos (by omega), asrt_pos (by omega), w64_of (by omega)]
        rfl) (fun d => by
        simp only [stones_parts_2_L2]
        rw [if_neg (by simp)]) h3
      rw [d1, Option.bind_some]
      simp only [stones_parts_2_K2]
      unfold stones_parts_2_J5 stones_parts_2_J3
      rw [asrt_pos (by unfold bigK; omega), w64_of (by omega)]
      refine ⟨(l ++ [(grpL W c (so3 v) i, brdL W c (so3 v) i, false)], d), rfl, by simp [hF], by simp only; rw [List.length_append]; simp; omega, d2, fun b hb => ?_⟩
      rw [d3 b hb, h4 b hb, met_succ]
      constructor
      · rintro (h | h)
        · exact Or.inl h
        · exact Or.inr ⟨hF, (mem_grp.1 h).2⟩
      · rintro (h | h)
        · exact Or.inl h
        · exact Or.inr (mem_grp.2 ⟨hb, h.2⟩)) (by
    rintro ⟨l, done⟩ ⟨h1, h2, h3, h4⟩
    refine ⟨l, ?_, h1⟩
    simp only [stones_parts_2_L1]
    rw [if_neg (by simp)])
  obtain ⟨r, hr, rfl⟩ := key
  have hr' : loop (stones_parts_2_L1 W H c v) ([], List.replicate c.length false, 0) = _ := hr
  rw [hr', Option.bind_some]
  rfl
end
end Go.Proofs.Ytdjjomghggplpaa
