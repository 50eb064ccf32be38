/-
  StonesAreas: the program's stones that stand for ever.
-/
import Derived.Test.YtdjjomghggplpaaKE
namespace Go.Proofs.Ytdjjomghggplpaa
open Go Go.GL

theorem nodup_ix {α : Type} {l : List α} (h : l.Nodup) {i j : Nat} (hi : i < l.length) (hj : j < l.length) (e : l[i] = l[j]) : i = j := by
  have h' := List.pairwise_iff_getElem.1 h
  rcases Nat.lt_trichotomy i j with q | q | q
  · exact absurd e (h' i j hi hj q)
  · exact q
  · exact absurd e.symm (h' j i hj hi q)
section
variable {W H : Int} {c : List Int} {v : Int}

open Classical in
noncomputable def GLs (W : Int) (c : List Int) (v : Int) (X : Nat → Prop) : List (List Int × List Int × Bool) := (fstL W c (so2 v)).map (fun i => (grpL W c (so2 v) i, brdL W c (so2 v) i, decide (X i)))
open Classical in
noncomputable def RLs (W : Int) (c : List Int) (v : Int) (X : Nat → Prop) : List (List Int × List Int × Bool) := (fstL W c (so3 v)).map (fun k => (grpL W c (so3 v) k, brdL W c (so3 v) k, decide (Tch W c v X k)))
theorem gls_len {X : Nat → Prop} : (GLs W c v X).length = (fstL W c (so2 v)).length := by unfold GLs; rw [List.length_map]
theorem rls_len {X : Nat → Prop} : (RLs W c v X).length = (fstL W c (so3 v)).length := by unfold RLs; rw [List.length_map]
open Classical in
theorem gls_at {X : Nat → Prop} {z i : Nat} (h : (fstL W c (so2 v))[z]? = some i) : getd zP92 (GLs W c v X) z = (grpL W c (so2 v) i, brdL W c (so2 v) i, decide (X i)) := by
  refine getd_some ?_
  unfold GLs
  rw [List.getElem?_map, h]; rfl
open Classical in
theorem rls_at {X : Nat → Prop} {z k : Nat} (h : (fstL W c (so3 v))[z]? = some k) : getd zP92 (RLs W c v X) z = (grpL W c (so3 v) k, brdL W c (so3 v) k, decide (Tch W c v X k)) := by
  refine getd_some ?_
  unfold RLs
  rw [List.getElem?_map, h]; rfl

theorem good_list {X : Nat → Prop} {i : Nat} [DecidablePred fun k => Vit0 W c v i k ∧ ¬ Tch W c v X k] : nR c.length (Good W c v X i) = ((fstL W c (so3 v)).filter (fun k => decide (Vit0 W c v i k ∧ ¬ Tch W c v X k))).length := by
  classical
  unfold nR fstL
  rw [List.filter_filter]
  congr 1
  refine List.filter_congr fun k _ => ?_
  rw [Bool.eq_iff_iff, Bool.and_eq_true, decide_eq_true_eq, decide_eq_true_eq, decide_eq_true_eq]
  unfold Good
  exact And.comm

theorem count_p (B : Dm W H c) (hv : v ≠ 0) {X : Nat → Prop} {z i : Nat} (hz : (fstL W c (so2 v))[z]? = some i) : loop (stones_Alive_L3 W H c (GLs W c v X) (RLs W c v X) z) (0, 0) = some (nR c.length (Good W c v X i) : Int) := by
  classical
  have hsm := B.small
  have hl3 := fstL_len (W := W) (c := c) (so := so3 v)
  have hrl := rls_len (W := W) (c := c) (v := v) (X := X)
  have hi := mem_fstL.1 (List.mem_of_getElem? hz)
  have key := count_loop (step := stones_Alive_L3 W H c (GLs W c v X) (RLs W c v X) z) (fun (s : Nat) (j : Nat) => ((s : Int), (j : Int)))
    (fun n s => s = (((fstL W c (so3 v)).take n).filter (fun k => decide (Vit0 W c v i k ∧ ¬ Tch W c v X k))).length ∧ s ≤ n) (fun r => r = (nR c.length (Good W c v X i) : Int)) (fstL W c (so3 v)).length 0 ⟨by simp, by simp⟩ (by
    rintro j s hj ⟨h1, h2⟩
    left
    have hg : (fstL W c (so3 v))[j]? = some (fstL W c (so3 v))[j] := List.getElem?_eq_getElem hj
    generalize (fstL W c (so3 v))[j] = k at hg
    have hk := mem_fstL.1 (List.mem_of_getElem? hg)
    have e1 : stones_Alive_L3 W H c (GLs W c v X) (RLs W c v X) z ((s : Int), (j : Int)) = stones_Alive_J6 W H c (GLs W c v X) (RLs W c v X) z s j := if_pos (decide_eq_true (by omega))
    rw [e1]
    unfold stones_Alive_J6 stones_Alive_J8 stones_Alive_J7
    rw [rls_at hg, gls_at hz, asrt_pos (by omega), w64_of (x := (j : Int) + 1) (by omega), w64_of (x := (s : Int) + 1) (by omega), List.take_add_one, hg, List.filter_append, List.length_append, ← h1]
    simp only
    rw [vital_p B hv i k hk.1 hi.1, Option.bind_some]
    by_cases q1 : Tch W c v X k
    · rw [decide_eq_true q1]
      exact ⟨s, rfl, by simp [q1], by omega⟩
    · rw [decide_eq_false q1]
      by_cases q2 : Vit0 W c v i k
      · rw [decide_eq_true q2]
        exact ⟨s + 1, rfl, by simp [q1, q2], by omega⟩
      · rw [decide_eq_false q2]
        exact ⟨s, rfl, by simp [q2], by omega⟩) (by
    rintro s ⟨h1, h2⟩
    rw [List.take_length] at h1
    refine ⟨_, ?_, by rw [good_list, ← h1]⟩
    simp only [stones_Alive_L3]
    rw [if_neg (by simp [hrl])])
  obtain ⟨r, hr, rfl⟩ := key
  exact hr

theorem tch_add {X : Nat → Prop} {i k : Nat} (hi : Mk c (so2 v) i) (hk : Mk c (so3 v) k) : Tch W c v (fun b => X b ∨ Rch W c (so2 v) i b) k ↔ Tch W c v X k ∨ (brdL W c (so3 v) k).any (fun q => decide (q ∈ grpL W c (so2 v) i)) = true := by
  constructor
  · rintro ⟨s, h1, h2 | h2, h3⟩
    · exact Or.inl ⟨s, h1, h2, h3⟩
    · refine Or.inr (List.any_eq_true.2 ⟨s, mem_brd.2 ⟨h1.1, fun e => ?_, h3⟩, decide_eq_true (mem_grp.2 ⟨h1.1, h2⟩)⟩)
      have e1 : geti c s = v := beq_iff_eq.1 h1.2
      have e2 : (geti c s != v) = true := e
      rw [e1] at e2
      simp at e2
  · rintro (h | h)
    · exact tch_mono (fun b hb => Or.inl hb) h
    · obtain ⟨q, h1, h2⟩ := List.any_eq_true.1 h
      obtain ⟨s, hs, rfl, hB⟩ := brd_in q h1
      have h3 := (mem_grp.1 (of_decide_eq_true h2)).2
      exact ⟨s, rch_mk hi h3, Or.inr h3, hB.2⟩

theorem upd_p (B : Dm W H c) {X : Nat → Prop} {z i : Nat} (hz : (fstL W c (so2 v))[z]? = some i) : stones_Alive_J9 (GLs W c v X) (RLs W c v X) z = some (.done (.ret (GLs W c v (fun b => X b ∨ Rch W c (so2 v) i b), RLs W c v (fun b => X b ∨ Rch W c (so2 v) i b)))) := by
  classical
  have hsm := B.small
  have hl3 := fstL_len (W := W) (c := c) (so := so3 v)
  have hrl := rls_len (W := W) (c := c) (v := v) (X := X)
  have hgl := gls_len (W := W) (c := c) (v := v) (X := X)
  have hi := mem_fstL.1 (List.mem_of_getElem? hz)
  obtain ⟨hzl, _⟩ := List.getElem?_eq_some_iff.1 hz
  unfold stones_Alive_J9
  have hset : getd zP92 ((GLs W c v X).set (Int.toNat (z : Int)) ((getd zP92 (GLs W c v X) (z : Int)).1, (getd zP92 (GLs W c v X) (z : Int)).2.1, true)) (z : Int) = (grpL W c (so2 v) i, brdL W c (so2 v) i, true) := by
    rw [gls_at hz, Int.toNat_natCast]
    refine getd_some ?_
    rw [List.getElem?_set_self (by omega)]
  have key := count_loop (step := stones_Alive_L4 (GLs W c v X) (RLs W c v X) z) (fun (s : List (List Int × List Int × Bool)) (j : Nat) => (s, (j : Int)))
    (fun n s => s.length = (fstL W c (so3 v)).length ∧ ∀ j k : Nat, (fstL W c (so3 v))[j]? = some k → s[j]? = some (grpL W c (so3 v) k, brdL W c (so3 v) k, if j < n then decide (Tch W c v (fun b => X b ∨ Rch W c (so2 v) i b) k) else decide (Tch W c v X k)))
    (fun r => r = RLs W c v (fun b => X b ∨ Rch W c (so2 v) i b)) (fstL W c (so3 v)).length (RLs W c v X) ⟨hrl, fun j k hj => by
      rw [if_neg (by omega)]
      unfold RLs
      rw [List.getElem?_map, hj]; rfl⟩ (by
    rintro j s hj ⟨h1, h2⟩
    left
    have hg : (fstL W c (so3 v))[j]? = some (fstL W c (so3 v))[j] := List.getElem?_eq_getElem hj
    generalize (fstL W c (so3 v))[j] = k at hg
    have hk := mem_fstL.1 (List.mem_of_getElem? hg)
    have e1 : stones_Alive_L4 (GLs W c v X) (RLs W c v X) z (s, (j : Int)) = stones_Alive_J11 (GLs W c v X) (RLs W c v X) z s j := if_pos (decide_eq_true (by omega))
    have hs := h2 j k hg
    rw [if_neg (by omega)] at hs
    have hbl : (brdL W c (so3 v) k).length ≤ c.length := flen _ _
    have hgl2 : (grpL W c (so2 v) i).length ≤ c.length := flen _ _
    rw [e1]
    unfold stones_Alive_J11 stones_Alive_J12
    rw [hset, getd_some hs, asrt_pos (by omega), Int.toNat_natCast, w64_of (by omega)]
    simp only
    rw [containsFunc_p (by omega) (by omega), Option.bind_some]
    have ht := tch_add (X := X) (W := W) hi.1 hk.1
    by_cases q : (brdL W c (so3 v) k).any (fun q => decide (q ∈ grpL W c (so2 v) i)) = true
    · rw [if_pos q]
      refine ⟨_, rfl, by rw [List.length_set]; exact h1, fun j' k' hj' => ?_⟩
      by_cases e : j' = j
      · subst e
        rw [hg] at hj'
        obtain rfl := Option.some.inj hj'
        rw [List.getElem?_set_self (by omega), if_pos (by omega), decide_eq_true (ht.2 (Or.inr q))]
      · rw [List.getElem?_set_ne (fun h => e h.symm), h2 j' k' hj']
        by_cases e2 : j' < j
        · rw [if_pos e2, if_pos (by omega)]
        · rw [if_neg e2, if_neg (by omega)]
    · rw [if_neg q]
      refine ⟨_, rfl, h1, fun j' k' hj' => ?_⟩
      by_cases e : j' = j
      · subst e
        rw [hg] at hj'
        obtain rfl := Option.some.inj hj'
        rw [hs, if_pos (by omega)]
        congr 3
        rw [Bool.eq_iff_iff, decide_eq_true_eq, decide_eq_true_eq, ht]
        exact ⟨Or.inl, fun h => h.elim id (fun h => absurd h q)⟩
      · rw [h2 j' k' hj']
        by_cases e2 : j' < j
        · rw [if_pos e2, if_pos (by omega)]
        · rw [if_neg e2, if_neg (by omega)]) (by
    rintro s ⟨h1, h2⟩
    refine ⟨s, ?_, ?_⟩
    · simp only [stones_Alive_L4]
      rw [if_neg (by simp [hrl])]
    · refine List.ext_getElem? fun j => ?_
      by_cases hj : j < (fstL W c (so3 v)).length
      · have hg : (fstL W c (so3 v))[j]? = some (fstL W c (so3 v))[j] := List.getElem?_eq_getElem hj
        rw [h2 j _ hg, if_pos hj]
        unfold RLs
        rw [List.getElem?_map, hg]; rfl
      · rw [List.getElem?_eq_none (by omega), List.getElem?_eq_none (by rw [rls_len]; omega)])
  obtain ⟨r, hr, rfl⟩ := key
  have hr' : loop (stones_Alive_L4 (GLs W c v X) (RLs W c v X) z) (RLs W c v X, 0) = _ := hr
  rw [hr', Option.bind_some]
  simp only [stones_Alive_K4]
  unfold stones_Alive_J10
  congr 4
  rw [gls_at hz, Int.toNat_natCast]
  refine List.ext_getElem? fun j => ?_
  by_cases hj : j < (fstL W c (so2 v)).length
  · have hg : (fstL W c (so2 v))[j]? = some (fstL W c (so2 v))[j] := List.getElem?_eq_getElem hj
    generalize (fstL W c (so2 v))[j] = l at hg
    have hl := mem_fstL.1 (List.mem_of_getElem? hg)
    by_cases e : j = z
    · subst e
      rw [hz] at hg
      obtain rfl := Option.some.inj hg
      rw [List.getElem?_set_self (by omega)]
      unfold GLs
      rw [List.getElem?_map, hz, Option.map_some, @decide_eq_true _ (Classical.propDecidable _) (Or.inr .base)]
    · rw [List.getElem?_set_ne (fun h => e h.symm)]
      unfold GLs
      rw [List.getElem?_map, List.getElem?_map, hg, Option.map_some, Option.map_some]
      congr 3
      refine (@decide_eq_decide _ _ (Classical.propDecidable _) (Classical.propDecidable _)).2 ?_
      refine ⟨Or.inl, fun h => h.elim id (fun h => absurd ?_ e)⟩
      have := fst_uniq hi hl h .base
      subst this
      have n := fstL_nodup (W := W) (c := c) (so := so2 v)
      have g1 := List.getElem?_eq_some_iff.1 hg
      have g2 := List.getElem?_eq_some_iff.1 hz
      obtain ⟨a1, a2⟩ := g1
      obtain ⟨b1, b2⟩ := g2
      exact nodup_ix n a1 b1 (a2.trans b2.symm)
  · rw [List.getElem?_eq_none (by rw [List.length_set]; omega), List.getElem?_eq_none (by rw [gls_len]; omega)]

open Classical in
noncomputable def aliveL (c : List Int) (v : Int) (X : Nat → Prop) : List Int := ((List.range c.length).filter (fun b => decide (Mk c (so2 v) b ∧ ¬ X b))).map (fun (b : Nat) => (b : Int))

theorem fin_p (B : Dm W H c) {X : Nat → Prop} (hX : Low W c v X) : stones_Alive_J2 (GLs W c v X) = some (.done (aliveL c v X, 0)) := by
  classical
  have hsm := B.small
  have hl2 := fstL_len (W := W) (c := c) (so := so2 v)
  have hgl := gls_len (W := W) (c := c) (v := v) (X := X)
  have nd := fstL_nodup (W := W) (c := c) (so := so2 v)
  unfold stones_Alive_J2
  have key := count_loop (step := stones_Alive_L5 (GLs W c v X)) (fun (s : List Int) (j : Nat) => (s, (j : Int)))
    (fun n s => s.Nodup ∧ ∀ q : Int, q ∈ s ↔ ∃ j i : Nat, j < n ∧ (fstL W c (so2 v))[j]? = some i ∧ ¬ X i ∧ q ∈ grpL W c (so2 v) i)
    (fun s => s.Nodup ∧ ∀ q : Int, q ∈ s ↔ ∃ j i : Nat, j < (fstL W c (so2 v)).length ∧ (fstL W c (so2 v))[j]? = some i ∧ ¬ X i ∧ q ∈ grpL W c (so2 v) i) (fstL W c (so2 v)).length [] ⟨by simp, fun q => by
      constructor
      · intro h; cases h
      · rintro ⟨j, i, h, _⟩; omega⟩ (by
    rintro j s hj ⟨h1, h2⟩
    left
    have hg : (fstL W c (so2 v))[j]? = some (fstL W c (so2 v))[j] := List.getElem?_eq_getElem hj
    generalize (fstL W c (so2 v))[j] = i at hg
    have hi := mem_fstL.1 (List.mem_of_getElem? hg)
    have hgl2 : (grpL W c (so2 v) i).length ≤ c.length := flen _ _
    have hsl : s.length ≤ c.length := nodup_len h1 fun q hq => by
      obtain ⟨_, i', _, _, _, h⟩ := (h2 q).1 hq
      obtain ⟨b, hb, e, _⟩ := grp_in q h
      exact ⟨b, hb, e⟩
    have e1 : stones_Alive_L5 (GLs W c v X) (s, (j : Int)) = stones_Alive_J14 (GLs W c v X) s j := if_pos (decide_eq_true (by omega))
    rw [e1]
    unfold stones_Alive_J14 stones_Alive_J15
    rw [gls_at hg, asrt_pos (by omega), w64_of (by omega)]
    simp only
    by_cases q : X i
    · rw [decide_eq_true q]
      refine ⟨s, rfl, h1, fun x => ?_⟩
      rw [h2 x]
      constructor
      · rintro ⟨j', i', h, h'⟩; exact ⟨j', i', by omega, h'⟩
      · rintro ⟨j', i', h, h3, h4, h5⟩
        by_cases e : j' = j
        · subst e
          rw [hg] at h3
          obtain rfl := Option.some.inj h3
          exact absurd q h4
        · exact ⟨j', i', by omega, h3, h4, h5⟩
    · rw [decide_eq_false q, if_pos (by rfl), asrt_pos (by unfold bigN; omega)]
      refine ⟨_, rfl, ?_, fun x => ?_⟩
      · rw [List.nodup_append]
        refine ⟨h1, (filt_lt _ _).imp (fun h => by omega), ?_⟩
        rintro x hx y hy rfl
        obtain ⟨j', i', h3, h4, h5, h6⟩ := (h2 x).1 hx
        obtain ⟨b, hb, rfl, hr⟩ := grp_in x hy
        have := fst_uniq (mem_fstL.1 (List.mem_of_getElem? h4)) hi (mem_grp.1 h6).2 hr
        subst this
        obtain ⟨a1, a2⟩ := List.getElem?_eq_some_iff.1 h4
        obtain ⟨b1, b2⟩ := List.getElem?_eq_some_iff.1 hg
        have := nodup_ix nd a1 b1 (a2.trans b2.symm)
        omega
      · rw [List.mem_append, h2 x]
        constructor
        · rintro (⟨j', i', h, h'⟩ | h)
          · exact ⟨j', i', by omega, h'⟩
          · exact ⟨j, i, by omega, hg, q, h⟩
        · rintro ⟨j', i', h, h3, h4, h5⟩
          by_cases e : j' = j
          · subst e
            rw [hg] at h3
            obtain rfl := Option.some.inj h3
            exact Or.inr h5
          · exact Or.inl ⟨j', i', by omega, h3, h4, h5⟩) (by
    rintro s h
    refine ⟨s, ?_, h⟩
    simp only [stones_Alive_L5]
    rw [if_neg (by simp [hgl])])
  obtain ⟨s, hs, h1, h2⟩ := key
  have hs' : loop (stones_Alive_L5 (GLs W c v X)) ([], 0) = some s := hs
  have hsl : s.length ≤ c.length := nodup_len h1 fun q hq => by
    obtain ⟨_, i', _, _, _, h⟩ := (h2 q).1 hq
    obtain ⟨b, hb, e, _⟩ := grp_in q h
    exact ⟨b, hb, e⟩
  rw [hs', Option.bind_some]
  simp only [stones_Alive_K5]
  unfold stones_Alive_J13 slices_Sort_2_m
  rw [asrt_pos (by unfold bigN; omega), Option.bind_some]
  congr 3
  unfold aliveL
  refine strict_ext (sortI_lt h1) (filt_lt _ _) fun q => ?_
  rw [sortI_mem, h2, List.mem_map]
  constructor
  · rintro ⟨j, i, _, h3, h4, h5⟩
    obtain ⟨b, hb, rfl, hr⟩ := grp_in q h5
    have hi := mem_fstL.1 (List.mem_of_getElem? h3)
    refine ⟨b, ?_, rfl⟩
    rw [List.mem_filter, List.mem_range, decide_eq_true_eq]
    exact ⟨hb, rch_mk hi.1 hr, fun hb => h4 (hX.clo b i hb (rch_symm hi.1 hr))⟩
  · rintro ⟨b, hb, rfl⟩
    rw [List.mem_filter, List.mem_range, decide_eq_true_eq] at hb
    obtain ⟨hbl, hM, hn⟩ := hb
    obtain ⟨k, _, hk, hr⟩ := fst_of hM (W := W)
    obtain ⟨j, hj, e⟩ := List.getElem_of_mem (mem_fstL.2 hk)
    exact ⟨j, k, hj, by rw [List.getElem?_eq_getElem hj, e], fun hx => hn (hX.clo k b hx hr), mem_grp.2 ⟨hbl, hr⟩⟩

theorem scan_p (B : Dm W H c) (hv : v ≠ 0) (X : Nat → Prop) : ∃ r, loop (stones_Alive_L2 W H c (GLs W c v X) (RLs W c v X)) 0 = some r ∧ ((r = .go () ∧ ∀ i, Fst W c (so2 v) i → X i ∨ 2 ≤ nR c.length (Good W c v X i)) ∨ ∃ i, Fst W c (so2 v) i ∧ ¬ X i ∧ nR c.length (Good W c v X i) < 2 ∧ r = .ret (GLs W c v (fun b => X b ∨ Rch W c (so2 v) i b), RLs W c v (fun b => X b ∨ Rch W c (so2 v) i b))) := by
  classical
  have hsm := B.small
  have hl2 := fstL_len (W := W) (c := c) (so := so2 v)
  have hgl := gls_len (W := W) (c := c) (v := v) (X := X)
  have key := count_loop (step := stones_Alive_L2 W H c (GLs W c v X) (RLs W c v X)) (fun (_ : Unit) (j : Nat) => (j : Int))
    (fun n _ => ∀ j i : Nat, j < n → (fstL W c (so2 v))[j]? = some i → X i ∨ 2 ≤ nR c.length (Good W c v X i))
    (fun r => (r = .go () ∧ ∀ i, Fst W c (so2 v) i → X i ∨ 2 ≤ nR c.length (Good W c v X i)) ∨ ∃ i, Fst W c (so2 v) i ∧ ¬ X i ∧ nR c.length (Good W c v X i) < 2 ∧ r = .ret (GLs W c v (fun b => X b ∨ Rch W c (so2 v) i b), RLs W c v (fun b => X b ∨ Rch W c (so2 v) i b))) (fstL W c (so2 v)).length () (fun j i h => by omega) (by
    rintro j - hj h1
    have hg : (fstL W c (so2 v))[j]? = some (fstL W c (so2 v))[j] := List.getElem?_eq_getElem hj
    generalize (fstL W c (so2 v))[j] = i at hg
    have hi := mem_fstL.1 (List.mem_of_getElem? hg)
    have e1 : stones_Alive_L2 W H c (GLs W c v X) (RLs W c v X) (j : Int) = stones_Alive_J3 W H c (GLs W c v X) (RLs W c v X) j := if_pos (decide_eq_true (by omega))
    have hn := nR_le c.length (Good W c v X i)
    rw [e1]
    unfold stones_Alive_J3
    rw [asrt_pos (by omega), count_p B hv hg, Option.bind_some]
    simp only [stones_Alive_K3]
    unfold stones_Alive_J5 stones_Alive_J4
    rw [w64_of (by omega), upd_p B hg, gls_at hg]
    simp only
    by_cases q : X i ∨ 2 ≤ nR c.length (Good W c v X i)
    · left
      rw [if_pos (by
        rw [Bool.or_eq_true, decide_eq_true_eq, decide_eq_true_eq]
        exact q.imp id (fun h => by omega))]
      refine ⟨(), rfl, fun j' i' hj' hg' => ?_⟩
      by_cases e : j' = j
      · subst e
        rw [hg] at hg'
        obtain rfl := Option.some.inj hg'
        exact q
      · exact h1 j' i' (by omega) hg'
    · right
      rw [if_neg (by
        rw [Bool.or_eq_true, decide_eq_true_eq, decide_eq_true_eq]
        exact fun h => q (h.imp id (fun h => by omega)))]
      exact ⟨_, rfl, Or.inr ⟨i, hi, fun h => q (Or.inl h), by omega, rfl⟩⟩) (by
    rintro - h
    refine ⟨.go (), ?_, Or.inl ⟨rfl, fun i hi => ?_⟩⟩
    · simp only [stones_Alive_L2]
      rw [if_neg (by simp [hgl])]
    · obtain ⟨j, hj, e⟩ := List.getElem_of_mem (mem_fstL.2 hi)
      exact h j i hj (by rw [List.getElem?_eq_getElem hj, e]))
  obtain ⟨r, hr, h⟩ := key
  exact ⟨r, hr, h⟩

theorem alive_loop (B : Dm W H c) (hv : v ≠ 0) : ∀ (n : Nat) (X : Nat → Prop), Low W c v X → c.length - nR c.length X < n → ∃ Y, Low W c v Y ∧ Stable W c v Y ∧ loop (stones_Alive_L1 W H c) (GLs W c v X, RLs W c v X) = some (aliveL c v Y, 0) := by
  intro n
  induction n with
  | zero => intro X _ h; omega
  | succ n ih =>
    intro X hX hn
    obtain ⟨r, hr, ⟨rfl, h⟩ | ⟨i, h1, h2, h3, rfl⟩⟩ := scan_p B hv X
    · refine ⟨X, hX, ⟨hX.own, hX.clo, fun i hi hx => ?_⟩, loop_done ?_⟩
      · obtain ⟨k, _, hk, hr⟩ := fst_of hi (W := W)
        rcases h k hk with q | q
        · exact absurd (hX.clo k i q hr) hx
        · rw [← good_grp hk.1 hr]; exact q
      · simp only [stones_Alive_L1]
        rw [hr, Option.bind_some]
        simp only [stones_Alive_K2]
        exact fin_p B hX
    · have hlt : nR c.length X < nR c.length (fun b => X b ∨ Rch W c (so2 v) i b) := nR_lt c.length (fun b _ h => Or.inl h) h1.1.1 (Or.inr .base) h2
      have hle := nR_le c.length (fun b => X b ∨ Rch W c (so2 v) i b)
      obtain ⟨Y, y1, y2, y3⟩ := ih _ (low_add hX h1.1 h3) (by omega)
      refine ⟨Y, y1, y2, loop_next' ?_ y3⟩
      simp only [stones_Alive_L1]
      rw [hr, Option.bind_some]
      rfl

theorem alive_p (B : Dm W H c) (hv : v ≠ 0) : ∃ Y, Low W c v Y ∧ Stable W c v Y ∧ stones_Alive_J1 W H c v = some (aliveL c v Y, 0) := by
  classical
  obtain ⟨Y, y1, y2, y3⟩ := alive_loop B hv (c.length + 1) (fun _ => False) low_none (by omega)
  refine ⟨Y, y1, y2, ?_⟩
  unfold stones_Alive_J1
  rw [parts_p2 B, Option.bind_some, parts_p3 B, Option.bind_some]
  have e1 : partL W c (so2 v) = GLs W c v (fun _ => False) := by
    unfold partL GLs
    simp
  have e2 : partL W c (so3 v) = RLs W c v (fun _ => False) := by
    unfold partL RLs
    refine List.map_congr_left fun k _ => ?_
    rw [decide_eq_false]
    rintro ⟨s, _, h, _⟩
    exact h
  rw [e1, e2, y3]
  rfl
end
end Go.Proofs.Ytdjjomghggplpaa
