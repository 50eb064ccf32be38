/-
  Hex: who has joined the sides.
-/
import Derived.Test.YtfmmlmiakkjaiaaHGc
namespace Go.Proofs.Ytfmmlmiakkjaiaa
open Go Go.GL

structure ROk (n : Nat) (r : List (List Int)) : Prop where
  mem : ∀ row ∈ r, ∀ q ∈ row, ∃ b : Nat, b < n ∧ q = b
  nd : ∀ row ∈ r, row.Nodup
  ne : ∀ row ∈ r, row ≠ []
  dis : r.Pairwise (fun a b => ∀ q ∈ a, q ∉ b)
  len : r.length ≤ n

theorem grpsH_ok {W : Int} {c : List Int} {v : Int} : ROk c.length (grpsH W c v c.length) := by
  classical
  have hm : ∀ row ∈ grpsH W c v c.length, ∃ p, Lst W c v p ∧ row = grpH W c v p := by
    intro row h
    unfold grpsH at h
    rw [List.mem_map] at h
    obtain ⟨p, h1, rfl⟩ := h
    rw [List.mem_filter, decide_eq_true_eq] at h1
    exact ⟨p, h1.2, rfl⟩
  refine ⟨fun row h q hq => ?_, fun row h => ?_, fun row h => ?_, ?_, grpsH_len _⟩
  · obtain ⟨p, hp, rfl⟩ := hm row h
    obtain ⟨b, h1, h2, _⟩ := grpH_mem.1 hq
    exact ⟨b, h1, h2⟩
  · obtain ⟨p, hp, rfl⟩ := hm row h
    have : (grpH W c v p).Pairwise (· < ·) := filt_lt _ _
    exact this.imp (fun h => by omega)
  · obtain ⟨p, hp, rfl⟩ := hm row h
    have : (p : Int) ∈ grpH W c v p := grpH_mem.2 ⟨p, hp.1.1, rfl, .base⟩
    intro e
    rw [e] at this
    cases this
  · unfold grpsH
    rw [List.pairwise_map]
    have hp : ((List.range c.length).filter (fun p => decide (Lst W c v p))).Pairwise (· < ·) := List.pairwise_lt_range.sublist List.filter_sublist
    refine hp.imp_of_mem ?_
    intro a b ha hb hab q h1 h2
    rw [List.mem_filter, decide_eq_true_eq] at ha hb
    obtain ⟨d, k1, rfl, k2⟩ := grpH_mem.1 h1
    obtain ⟨e, k3, k4, k5⟩ := grpH_mem.1 h2
    obtain rfl : d = e := by omega
    exact hb.2.2 a hab ha.2.1 (Reach.trans k2 (Rh.symm hb.2.1 k5))

def sdW (W who q : Int) : Int := if who = 1 then q / W else q % W
def winH (W who : Int) (row : List Int) : Bool := row.any (fun q => sdW W who q == 0) && row.any (fun q => sdW W who q == W - 1)

section
variable {W : Int} {c : List Int} {who : Int}

theorem along_p (B : Dm W W c) {b : Nat} (hb : b < c.length) : hex_along_m W who (b : Int) = some (sdW W who b) := by
  have hW := B.w
  obtain ⟨x1, y1, _⟩ := B.xy (p := (b : Int)) (by omega)
  unfold hex_along_m hex_along_J1 sdW
  rw [asrt_pos (by omega), asrt_pos (by omega), Int.tmod_eq_emod_of_nonneg (by omega), Int.tdiv_eq_ediv_of_nonneg (by omega), w64_of (by omega)]
  by_cases h : who = 1
  · rw [if_pos (by simp [h]), if_pos h]
  · rw [if_neg (by simp [h]), if_neg h]

theorem side_p (B : Dm W W c) {row : List Int} (hm : ∀ q ∈ row, ∃ b : Nat, b < c.length ∧ q = b) (hl : row.length ≤ c.length) (k H : Int) : hex_joined_1_m k row W H c who = some (row.any (fun q => sdW W who q == k)) := by
  have hsm := B.small
  unfold hex_joined_1_m slices_ContainsFunc_2_m slices_IndexFunc_2_m
  have call : ∀ (i : Nat) x, row[i]? = some x → hex_joined_1_1_m x W H c who k = some (sdW W who x == k) := by
    intro i x hx
    obtain ⟨b, hb, rfl⟩ := hm x (List.mem_of_getElem? hx)
    unfold hex_joined_1_1_m
    rw [along_p B hb]
    rfl
  rw [search_loop (l := row) (fun q => sdW W who q == k) (fun i => Fl.ret (i : Int)) (Fl.go ()) ?_ ?_ ?_]
  · simp only [Option.bind_some]
    have hn := fidx_neg (fun q => sdW W who q == k) row
    unfold fidx at hn
    rw [show row.any (fun q => sdW W who q == k) = decide ((0 : Int) ≤ fidx (fun q => sdW W who q == k) row) by
      rw [Bool.eq_iff_iff, decide_eq_true_eq]; exact hn.symm]
    unfold fidx
    cases row.findIdx? (fun q => sdW W who q == k) <;> rfl
  · intro i x hx hp
    have hb := idx_bd hx
    simp only [slices_IndexFunc_2_L1, slices_IndexFunc_2_J2]
    rw [if_pos (by simpa using hb.2), asrt_pos hb, geti_some hx, call i x hx, Option.bind_some, if_pos hp]
  · intro i x hx hp
    have hb := idx_bd hx
    simp only [slices_IndexFunc_2_L1, slices_IndexFunc_2_J2]
    rw [if_pos (by simpa using hb.2), asrt_pos hb, geti_some hx, call i x hx, Option.bind_some, if_neg (by rw [hp]; simp)]
    simp only [slices_IndexFunc_2_J3]
    rw [w64_succ (by omega)]
  · simp only [slices_IndexFunc_2_L1]
    rw [if_neg (by simp)]

/-- What of the rows has joined. -/
def Won (W who : Int) (r : List (List Int)) (n : Nat) (q : Int) : Prop := ∃ j row, j < n ∧ r[j]? = some row ∧ winH W who row = true ∧ q ∈ row
def Has (W who : Int) (r : List (List Int)) : Prop := ∃ row ∈ r, winH W who row = true
open Classical in
noncomputable def jlH (W who : Int) (r : List (List Int)) (n : Nat) : List Int := ((List.range n).filter (fun (b : Nat) => decide (Won W who r r.length (b : Int)))).map (fun (b : Nat) => (b : Int))

theorem won_succ {r : List (List Int)} {i : Nat} {row : List Int} (hx : r[i]? = some row) {q : Int} : Won W who r (i + 1) q ↔ Won W who r i q ∨ (winH W who row = true ∧ q ∈ row) := by
  constructor
  · rintro ⟨j, ro, h1, h2, h3, h4⟩
    by_cases e : j = i
    · subst e
      rw [hx] at h2
      obtain rfl := Option.some.inj h2
      exact Or.inr ⟨h3, h4⟩
    · exact Or.inl ⟨j, ro, by omega, h2, h3, h4⟩
  · rintro (⟨j, ro, h1, h2, h3, h4⟩ | ⟨h3, h4⟩)
    · exact ⟨j, ro, by omega, h2, h3, h4⟩
    · exact ⟨i, row, by omega, hx, h3, h4⟩

theorem geti2_some {r : List (List Int)} {i : Nat} {row : List Int} (hx : r[i]? = some row) : geti2 r (i : Int) = row := by
  unfold geti2; rw [Int.toNat_natCast, List.getD_eq_getElem?_getD, hx]; rfl

theorem has_iff {r : List (List Int)} {n : Nat} (hr : ROk n r) : Has W who r ↔ ∃ q, Won W who r r.length q := by
  constructor
  · rintro ⟨row, h1, h2⟩
    obtain ⟨j, hj, e⟩ := List.getElem_of_mem h1
    obtain ⟨q, hq⟩ := List.exists_mem_of_ne_nil _ (hr.ne row h1)
    exact ⟨q, j, row, hj, by rw [List.getElem?_eq_getElem hj, e], h2, hq⟩
  · rintro ⟨q, j, row, h1, h2, h3, h4⟩
    exact ⟨row, List.mem_of_getElem? h2, h3⟩

theorem joinl_p (B : Dm W W c) {r : List (List Int)} (hr : ROk c.length r) : ∃ l, loop (hex_joined_L2 W W c who r) ([], 0) = some l ∧ l.Nodup ∧ (∀ q, q ∈ l ↔ Won W who r r.length q) := by
  have hsm := B.small
  have hrl := hr.len
  have hW := B.w
  have key := count_loop (step := hex_joined_L2 W W c who r) (fun (s : List Int) (i : Nat) => (s, (i : Int))) (fun n s => s.Nodup ∧ ∀ q, q ∈ s ↔ Won W who r n q) (fun l => l.Nodup ∧ ∀ q, q ∈ l ↔ Won W who r r.length q) r.length [] ⟨List.nodup_nil, fun q => by
      constructor
      · intro h; cases h
      · rintro ⟨j, row, h, _⟩; omega⟩ (by
    rintro i s hi ⟨h1, h2⟩
    left
    obtain ⟨row, hx⟩ : ∃ row, r[i]? = some row := ⟨_, List.getElem?_eq_getElem hi⟩
    have hrow := List.mem_of_getElem? hx
    have hlr : row.length ≤ c.length := nodup_len (hr.nd row hrow) (hr.mem row hrow)
    have hls : s.length ≤ c.length := nodup_len h1 fun q hq => by
      obtain ⟨j, ro, _, k2, _, k4⟩ := (h2 q).1 hq
      exact hr.mem ro (List.mem_of_getElem? k2) q k4
    simp only [hex_joined_L2]
    rw [if_pos (decide_eq_true (by omega))]
    unfold hex_joined_J5
    rw [asrt_pos (by omega), geti2_some hx, w64_of (x := W - 1) (by omega), side_p B (hr.mem row hrow) hlr, side_p B (hr.mem row hrow) hlr, Option.bind_some]
    have e : (if row.any (fun q => sdW W who q == 0) = true then some (row.any (fun q => sdW W who q == W - 1)) else some false) = some (winH W who row) := by
      unfold winH
      cases row.any (fun q => sdW W who q == 0) <;> rfl
    have e2 : (row.any (fun q => sdW W who q == 0) && winH W who row) = winH W who row := by
      unfold winH
      cases row.any (fun q => sdW W who q == 0) <;> rfl
    rw [e, Option.bind_some, e2]
    unfold hex_joined_J7 hex_joined_J6
    rw [w64_of (by omega), geti2_some hx]
    cases hw : winH W who row with
    | true =>
      rw [if_pos rfl, asrt_pos (by unfold bigN; omega)]
      refine ⟨s ++ row, rfl, ?_, fun q => ?_⟩
      · rw [List.nodup_append]
        refine ⟨h1, hr.nd row hrow, ?_⟩
        intro x hx1 y hy e
        subst e
        obtain ⟨j, ro, k1, k2, _, k4⟩ := (h2 x).1 hx1
        have hd := List.pairwise_iff_getElem.1 hr.dis j i (by omega) hi k1
        rw [List.getElem?_eq_getElem (by omega)] at k2 hx
        rw [Option.some.inj k2, Option.some.inj hx] at hd
        exact hd x k4 hy
      · rw [List.mem_append, h2, won_succ hx]
        simp [hw]
    | false =>
      rw [if_neg (by simp)]
      refine ⟨s, rfl, h1, fun q => ?_⟩
      rw [h2, won_succ hx]
      simp [hw]) (by
    rintro s h
    refine ⟨s, ?_, h⟩
    simp only [hex_joined_L2]
    rw [if_neg (by simp)])
  obtain ⟨l, hl, h⟩ := key
  exact ⟨l, hl, h⟩

theorem joinJ_p (B : Dm W W c) (hw : who = 1 ∨ who = 2) : hex_joined_J2 W W c who = (open Classical in if Has W who (grpsH W c who c.length) then some (.done (.ret (who, jlH W who (grpsH W c who c.length) c.length))) else some (.next (who + 1))) := by
  classical
  have hsm := B.small
  have hr := grpsH_ok (W := W) (c := c) (v := who)
  unfold hex_joined_J2
  rw [groups_p B, Option.bind_some]
  obtain ⟨l, k1, k2, k3⟩ := joinl_p (who := who) B hr
  rw [k1, Option.bind_some]
  simp only [hex_joined_K2]
  unfold hex_joined_J4 hex_joined_J3 hex_joined_J8 slices_Sort_2_m
  have hls : l.length ≤ c.length := nodup_len k2 fun q hq => by
    obtain ⟨j, ro, _, h2, _, h4⟩ := (k3 q).1 hq
    exact hr.mem ro (List.mem_of_getElem? h2) q h4
  rw [asrt_pos (by unfold bigN; omega), w64_of (by omega)]
  by_cases h : Has W who (grpsH W c who c.length)
  · obtain ⟨q, hq⟩ := (has_iff hr).1 h
    have hne : l ≠ [] := fun e => by
      have := (k3 q).2 hq
      rw [e] at this
      cases this
    have := List.length_pos_iff.2 hne
    rw [if_pos (decide_eq_true (by omega)), if_pos h, Option.bind_some]
    congr 4
    unfold jlH
    refine strict_ext (sortI_lt k2) (filt_lt _ _) fun q => ?_
    rw [sortI_mem, List.mem_map]
    constructor
    · intro hq
      have h5 := (k3 q).1 hq
      obtain ⟨j, ro, _, h2, _, h4⟩ := h5
      obtain ⟨b, hb, rfl⟩ := hr.mem ro (List.mem_of_getElem? h2) q h4
      exact ⟨b, by rw [List.mem_filter, List.mem_range, decide_eq_true_eq]; exact ⟨hb, (k3 _).1 hq⟩, rfl⟩
    · rintro ⟨b, h1, rfl⟩
      rw [List.mem_filter, decide_eq_true_eq] at h1
      exact (k3 _).2 h1.2
  · have he : l = [] := by
      rw [List.eq_nil_iff_forall_not_mem]
      intro q hq
      exact h ((has_iff hr).2 ⟨q, (k3 q).1 hq⟩)
    rw [if_neg (by rw [he]; simp), if_neg h]

theorem sides_r (B : Dm W W c) (hw : who = 1 ∨ who = 2) {r : List (List Int)} {i : Nat} {row : List Int} (hx : r[i]? = some row) (hm : ∀ q ∈ row, ∃ b : Nat, b < c.length ∧ q = b) (hl : row.length ≤ c.length) : loop (gameroomref_HexJoined_L3 W who r i) (false, false, 0) = some (row.any (fun q => sdW W who q == 0), row.any (fun q => sdW W who q == W - 1)) := by
  have hsm := B.small
  have hW := B.w
  have hi : i < r.length := (List.getElem?_eq_some_iff.1 hx).1
  have key := count_loop (step := gameroomref_HexJoined_L3 W who r i) (fun (_ : Unit) (k : Nat) => ((row.take k).any (fun q => sdW W who q == 0), (row.take k).any (fun q => sdW W who q == W - 1), (k : Int))) (fun _ _ => True) (fun s => s = (row.any (fun q => sdW W who q == 0), row.any (fun q => sdW W who q == W - 1))) row.length () trivial (by
    rintro k _ hk _
    left
    refine ⟨(), ?_, trivial⟩
    have hg := get_geti hk
    obtain ⟨b, hb, hq⟩ := hm _ (List.mem_of_getElem? hg)
    obtain ⟨x1, y1, _⟩ := B.xy (p := (b : Int)) (by omega)
    simp only [gameroomref_HexJoined_L3]
    rw [asrt_pos (by omega), geti2_some hx, if_pos (decide_eq_true (by omega))]
    unfold gameroomref_HexJoined_J8 gameroomref_HexJoined_J10 gameroomref_HexJoined_J9
    rw [geti2_some hx, asrt_pos (by omega), asrt_pos (by omega), asrt_pos (by omega), asrt_pos (by omega), asrt_pos (by omega), asrt_pos (by omega), hq, Int.tmod_eq_emod_of_nonneg (by omega), Int.tdiv_eq_ediv_of_nonneg (by omega), w64_of (x := (b : Int) / W) (by omega), w64_of (x := (k : Int) + 1) (by omega), w64_of (x := W - 1) (by omega), List.take_add_one, hg, hq, List.any_append, List.any_append]
    rcases hw with rfl | rfl <;> simp [sdW]) (by
    rintro _ _
    refine ⟨_, ?_, rfl⟩
    simp only [gameroomref_HexJoined_L3]
    rw [asrt_pos (by omega), geti2_some hx, if_neg (by simp), List.take_length])
  obtain ⟨s, hs, rfl⟩ := key
  exact hs

theorem marks_r {r : List (List Int)} {i : Nat} {row : List Int} (hc : c.length ≤ 300) (hx : r[i]? = some row) (hm : ∀ q ∈ row, ∃ b : Nat, b < c.length ∧ q = b) (hl : row.length ≤ c.length) (hne : row ≠ []) {in1 : List Bool} (hin : in1.length = c.length) (won1 f l : Bool) :
    ∃ s, loop (gameroomref_HexJoined_L4 c r i f l) (in1, won1, 0) = some s ∧ s.1.length = c.length ∧ (∀ b : Nat, b < c.length → (getb s.1 b = true ↔ getb in1 b = true ∨ ((f && l) = true ∧ (b : Int) ∈ row))) ∧ s.2 = (won1 || (f && l)) := by
  have hi : i < r.length := (List.getElem?_eq_some_iff.1 hx).1
  by_cases hfl : (f && l) = true
  · rw [Bool.and_eq_true] at hfl
    obtain ⟨rfl, rfl⟩ := hfl
    have key := count_loop (step := gameroomref_HexJoined_L4 c r i true true) (fun (s : List Bool × Bool) (k : Nat) => (s.1, s.2, (k : Int))) (fun n s => s.1.length = c.length ∧ (∀ b : Nat, b < c.length → (getb s.1 b = true ↔ getb in1 b = true ∨ (b : Int) ∈ row.take n)) ∧ (0 < n → s.2 = true)) (fun s => s.1.length = c.length ∧ (∀ b : Nat, b < c.length → (getb s.1 b = true ↔ getb in1 b = true ∨ (b : Int) ∈ row)) ∧ s.2 = true) row.length (in1, won1) ⟨hin, fun b hb => by simp, fun h => by omega⟩ (by
      rintro k ⟨ins, won⟩ hk ⟨h1, h2, h3⟩
      left
      simp only at h1 h2 h3
      have hg := get_geti hk
      obtain ⟨d, hd, hq⟩ := hm _ (List.mem_of_getElem? hg)
      refine ⟨(ins.set d true, true), ?_, by simpa using h1, fun b hb => ?_, fun _ => rfl⟩
      · simp only [gameroomref_HexJoined_L4]
        rw [asrt_pos (by omega), geti2_some hx, if_pos (by simp; omega)]
        unfold gameroomref_HexJoined_J11 gameroomref_HexJoined_J12
        rw [geti2_some hx, asrt_pos (by omega), asrt_pos (by omega), hq, Int.toNat_natCast, asrt_pos (by omega), w64_of (by omega), Int.toNat_natCast]
        rfl
      · simp only
        rw [getbs (by omega), List.take_add_one, hg, hq, List.mem_append]
        by_cases e : b = d
        · subst e; simp
        · rw [if_neg e, h2 b hb]
          simp
          have : ¬ ((b : Int) = (d : Int)) := by omega
          simp [this, e]) (by
      rintro ⟨ins, won⟩ ⟨h1, h2, h3⟩
      refine ⟨(ins, won), ?_, h1, fun b hb => ?_, h3 (List.length_pos_iff.2 hne)⟩
      · simp only [gameroomref_HexJoined_L4]
        rw [asrt_pos (by omega), geti2_some hx, if_neg (by simp)]
      · simp only at h2
        rw [h2 b hb, List.take_length])
    obtain ⟨s, hs, h1, h2, h3⟩ := key
    exact ⟨s, hs, h1, fun b hb => by rw [h2 b hb]; simp, by rw [h3]; simp⟩
  · refine ⟨(in1, won1), loop_done ?_, hin, fun b hb => by simp [hfl], by simp [Bool.eq_false_iff.2 hfl]⟩
    simp only [gameroomref_HexJoined_L4]
    rw [asrt_pos (by omega), if_neg (by
      intro h
      simp only [Bool.and_eq_true] at h
      exact hfl (by rw [h.1.2, h.2]; rfl))]

theorem out_r (B : Dm W W c) {ins : List Bool} (hin : ins.length = c.length) {r : List (List Int)} (h : ∀ b : Nat, b < c.length → (getb ins b = true ↔ Won W who r r.length b)) : loop (gameroomref_HexJoined_L5 c ins) ([], 0) = some (jlH W who r c.length) := by
  classical
  have hsm := B.small
  have key := count_loop (step := gameroomref_HexJoined_L5 c ins) (fun (_ : Unit) (i : Nat) => (((List.range i).filter (fun (b : Nat) => decide (Won W who r r.length (b : Int)))).map (fun (b : Nat) => (b : Int)), (i : Int))) (fun _ _ => True) (fun l => l = jlH W who r c.length) c.length () trivial (by
    rintro i _ hi _
    left
    refine ⟨(), ?_, trivial⟩
    have hgl : (((List.range i).filter (fun (b : Nat) => decide (Won W who r r.length (b : Int)))).map (fun (b : Nat) => (b : Int))).length ≤ i := flen _ _
    simp only [gameroomref_HexJoined_L5]
    rw [Int.toNat_natCast, if_pos (decide_eq_true (by omega))]
    unfold gameroomref_HexJoined_J14 gameroomref_HexJoined_J15
    rw [Int.toNat_natCast, asrt_pos (by omega), List.range_succ, List.filter_append, List.map_append, w64_of (by omega)]
    by_cases hw : Won W who r r.length (i : Int)
    · rw [if_pos ((h i hi).2 hw), asrt_pos (by unfold bigN; omega)]
      simp [hw]
    · rw [if_neg (fun h2 => hw ((h i hi).1 h2))]
      simp [hw]) (by
    rintro _ _
    refine ⟨_, ?_, rfl⟩
    simp only [gameroomref_HexJoined_L5]
    rw [if_neg (by simp)]
    rfl)
  obtain ⟨l, hl, rfl⟩ := key
  exact hl

theorem joinJ_r (B : Dm W W c) (hw : who = 1 ∨ who = 2) : gameroomref_HexJoined_J2 W W c who = (open Classical in if Has W who (grpsH W c who c.length) then some (.done (.ret (who, jlH W who (grpsH W c who c.length) c.length))) else some (.next (who + 1))) := by
  classical
  have hsm := B.small
  have hr := grpsH_ok (W := W) (c := c) (v := who)
  unfold gameroomref_HexJoined_J2
  rw [groups_r B, Option.bind_some, asrt_pos (by unfold bigN; omega), Int.toNat_natCast]
  generalize grpsH W c who c.length = r at hr ⊢
  have hrl := hr.len
  have key := count_loop (step := gameroomref_HexJoined_L2 W c who r) (fun (s : List Bool × Bool) (i : Nat) => (s.1, s.2, (i : Int))) (fun n s => s.1.length = c.length ∧ (∀ b : Nat, b < c.length → (getb s.1 b = true ↔ Won W who r n b)) ∧ (s.2 = true ↔ ∃ j row, j < n ∧ r[j]? = some row ∧ winH W who row = true)) (fun s => s.1.length = c.length ∧ (∀ b : Nat, b < c.length → (getb s.1 b = true ↔ Won W who r r.length b)) ∧ (s.2 = true ↔ Has W who r)) r.length (List.replicate c.length false, false) ⟨by simp, fun b hb => by
      have : getb (List.replicate c.length false) (b : Int) = false := getb_some (by rw [List.getElem?_replicate, if_pos hb])
      rw [this]
      constructor
      · intro h; cases h
      · rintro ⟨j, row, h, _⟩; omega, by
      constructor
      · intro h; cases h
      · rintro ⟨j, row, h, _⟩; omega⟩ (by
    rintro i ⟨ins, won⟩ hi ⟨h1, h2, h3⟩
    left
    simp only at h1 h2 h3
    obtain ⟨row, hx⟩ : ∃ row, r[i]? = some row := ⟨_, List.getElem?_eq_getElem hi⟩
    have hrow := List.mem_of_getElem? hx
    have hlr : row.length ≤ c.length := nodup_len (hr.nd row hrow) (hr.mem row hrow)
    obtain ⟨s, k1, k2, k3, k4⟩ := marks_r hsm hx (hr.mem row hrow) hlr (hr.ne row hrow) h1 won (row.any (fun q => sdW W who q == 0)) (row.any (fun q => sdW W who q == W - 1))
    refine ⟨s, ?_, k2, fun b hb => ?_, ?_⟩
    · simp only [gameroomref_HexJoined_L2]
      rw [if_pos (decide_eq_true (by omega))]
      unfold gameroomref_HexJoined_J5
      rw [sides_r B hw hx (hr.mem row hrow) hlr, Option.bind_some]
      simp only [gameroomref_HexJoined_K3]
      unfold gameroomref_HexJoined_J7
      rw [k1, Option.bind_some]
      simp only [gameroomref_HexJoined_K4, gameroomref_HexJoined_J6]
      rw [w64_of (by omega)]
      rfl
    · rw [k3 b hb, h2 b hb, won_succ hx]
      rfl
    · rw [k4, Bool.or_eq_true, h3]
      constructor
      · rintro (⟨j, ro, q1, q2, q3⟩ | q)
        · exact ⟨j, ro, by omega, q2, q3⟩
        · exact ⟨i, row, by omega, hx, q⟩
      · rintro ⟨j, ro, q1, q2, q3⟩
        by_cases e : j = i
        · subst e
          rw [hx] at q2
          obtain rfl := Option.some.inj q2
          exact Or.inr q3
        · exact Or.inl ⟨j, ro, by omega, q2, q3⟩) (by
    rintro s ⟨h1, h2, h3⟩
    refine ⟨s, ?_, h1, h2, ?_⟩
    · simp only [gameroomref_HexJoined_L2]
      rw [if_neg (by simp)]
    · rw [h3]
      constructor
      · rintro ⟨j, ro, q1, q2, q3⟩
        exact ⟨ro, List.mem_of_getElem? q2, q3⟩
      · rintro ⟨row, h1, h2⟩
        obtain ⟨j, hj, e⟩ := List.getElem_of_mem h1
        exact ⟨j, row, hj, by rw [List.getElem?_eq_getElem hj, e], h2⟩)
  obtain ⟨⟨ins, won⟩, hs, h1, h2, h3⟩ := key
  have hs' : loop (gameroomref_HexJoined_L2 W c who r) (List.replicate c.length false, false, 0) = some (ins, won) := hs
  rw [hs', Option.bind_some]
  simp only [gameroomref_HexJoined_K2]
  unfold gameroomref_HexJoined_J4 gameroomref_HexJoined_J3
  simp only at h1 h2 h3
  by_cases h : Has W who r
  · rw [if_pos (h3.2 h), if_pos h, out_r (who := who) (r := r) B h1 h2, Option.bind_some]
    rfl
  · rw [if_neg (fun q => h (h3.1 q)), if_neg h, w64_of (by omega)]

theorem joined_both (B : Dm W W c) : ∃ m y, hex_joined_m W W c = some (m, y) ∧ gameroomref_HexJoined_m W W c = some (m, y) ∧ y.length ≤ c.length := by
  classical
  unfold hex_joined_m gameroomref_HexJoined_m
  have p1 : hex_joined_L1 W W c 1 = hex_joined_J2 W W c 1 := by simp [hex_joined_L1]
  have p2 : hex_joined_L1 W W c 2 = hex_joined_J2 W W c 2 := by simp [hex_joined_L1]
  have p3 : hex_joined_L1 W W c 3 = some (.done (.go ())) := by simp [hex_joined_L1]
  have q1 : gameroomref_HexJoined_L1 W W c 1 = gameroomref_HexJoined_J2 W W c 1 := by simp [gameroomref_HexJoined_L1]
  have q2 : gameroomref_HexJoined_L1 W W c 2 = gameroomref_HexJoined_J2 W W c 2 := by simp [gameroomref_HexJoined_L1]
  have q3 : gameroomref_HexJoined_L1 W W c 3 = some (.done (.go ())) := by simp [gameroomref_HexJoined_L1]
  rw [joinJ_p B (.inl rfl)] at p1
  rw [joinJ_p B (.inr rfl)] at p2
  rw [joinJ_r B (.inl rfl)] at q1
  rw [joinJ_r B (.inr rfl)] at q2
  by_cases h1 : Has W 1 (grpsH W c 1 c.length)
  · rw [if_pos h1] at p1 q1
    rw [loop_done p1, loop_done q1]
    exact ⟨_, _, rfl, rfl, flen _ _⟩
  · rw [if_neg h1] at p1 q1
    by_cases h2 : Has W 2 (grpsH W c 2 c.length)
    · rw [if_pos h2] at p2 q2
      rw [loop_next' p1 (loop_done p2), loop_next' q1 (loop_done q2)]
      exact ⟨_, _, rfl, rfl, flen _ _⟩
    · rw [if_neg h2] at p2 q2
      rw [loop_next' p1 (loop_next' p2 (loop_done p3)), loop_next' q1 (loop_next' q2 (loop_done q3))]
      exact ⟨0, [], rfl, rfl, by simp⟩
end
end Go.Proofs.Ytfmmlmiakkjaiaa
