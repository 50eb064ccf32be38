/-
  Hex: who has joined the sides.
-/
import Derived.Test.YtgogihcmnkncjaaHGc
namespace Go.Proofs.Ytgogihcmnkncjaa
open Go Go.GL

structure ROk (n : Nat) (r : List (List Int)) : Prop where
  mem : ∀ row ∈ r, ∀ q ∈ row, ∃ b : Nat, b < n ∧ q = b
  nd : ∀ row ∈ r, row.Nodup
  ne : ∀ row ∈ r, row ≠ []
  dis : r.Pairwise (fun a b => ∀ q ∈ a, q ∉ b)
  len : r.length ≤ n

theorem grpsH_ok {W : Int} {c : List Int} {v : Int} : ROk c.length (grpsH W c v c.length) := by
  classical
  have hm : ∀ row ∈ grpsH W c v c.length, ∃ p, Lst W c v p ∧ row = grpH W c v p := by
    intro row h
    unfold grpsH at h
    rw [List.mem_map] at h
    obtain ⟨p, h1, rfl⟩ := h
    rw [List.mem_filter, decide_eq_true_eq] at h1
    exact ⟨p, h1.2, rfl⟩
  refine ⟨fun row h q hq => ?_, fun row h => ?_, fun row h => ?_, ?_, grpsH_len _⟩
  · obtain ⟨p, hp, rfl⟩ := hm row h
    obtain ⟨b, h1, h2, _⟩ := grpH_mem.1 hq
    exact ⟨b, h1, h2⟩
  · obtain ⟨p, hp, rfl⟩ := hm row h
    have : (grpH W c v p).Pairwise (· < ·) := filt_lt _ _
    exact this.imp (fun h => by omega)
  · obtain ⟨p, hp, rfl⟩ := hm row h
    have : (p : Int) ∈ grpH W c v p := grpH_mem.2 ⟨p, hp.1.1, rfl, .base⟩
    intro e
    rw [e] at this
    cases this
  · unfold grpsH
    rw [List.pairwise_map]
    have hp : ((List.range c.length).filter (fun p => decide (Lst W c v p))).Pairwise (· < ·) := List.pairwise_lt_range.sublist List.filter_sublist
    refine hp.imp_of_mem ?_
    intro a b ha hb hab q h1 h2
    rw [List.mem_filter, decide_eq_true_eq] at ha hb
    obtain ⟨d, k1, rfl, k2⟩ := grpH_mem.1 h1
    obtain ⟨e, k3, k4, k5⟩ := grpH_mem.1 h2
    obtain rfl : d = e := by omega
    exact hb.2.2 a hab ha.2.1 (Reach.trans k2 (Rh.symm hb.2.1 k5))

def sdW (W who q : Int) : Int := if who = 1 then q / W else q % W
def winH (W who : Int) (row : List Int) : Bool := row.any (fun q => sdW W who q == 0) && row.any (fun q => sdW W who q == W - 1)

section
variable {W : Int} {c : List Int} {who : Int}

theorem along_p (B : Dm W W c) {b : Nat} (hb : b < c.length) : hex_along_m W who (b : Int) = some (sdW W who b) := by
  have hW := B.w
  obtain ⟨x1, y1, _⟩ := B.xy (p := (b : Int)) (by omega)
  unfold hex_along_m hex_along_J1 sdW
  rw [asrt_pos (by omega), asrt_pos (by omega), Int.tmod_eq_emod_of_nonneg (by omega), Int.tdiv_eq_ediv_of_nonneg (by omega), w64_of (by omega)]
  by_cases h : who = 1
  · rw [if_pos (by simp [h]), if_pos h]
  · rw [if_neg (by simp [h]), if_neg h]

theorem side_p (B : Dm W W c) {row : List Int} (hm : ∀ q ∈ row, ∃ b : Nat, b < c.length ∧ q = b) (hl : row.length ≤ c.length) (k H : Int) : hex_joined_1_m k row W H c who = some (row.any (fun q => sdW W who q == k)) := by
  have hsm := B.small
  unfold hex_joined_1_m slices_ContainsFunc_2_m slices_IndexFunc_2_m
  have call : ∀ (i : Nat) x, row[i]? = some x → hex_joined_1_1_m x W H c who k = some (sdW W who x == k) := by
    intro i x hx
    obtain ⟨b, hb, rfl⟩ := hm x (List.mem_of_getElem? hx)
    unfold hex_joined_1_1_m
    rw [along_p B hb]
    rfl
  rw [search_loop (l := row) (fun q => sdW W who q == k) (fun i => Fl.ret (i : Int)) (Fl.go ()) ?_ ?_ ?_]
  · simp only [Option.bind_some]
    have hn := fidx_neg (fun q => sdW W who q == k) row
    unfold fidx at hn
    rw [show row.any (fun q => sdW W who q == k) = decide ((0 : Int) ≤ fidx (fun q => sdW W who q == k) row) by
      rw [Bool.eq_iff_iff, decide_eq_true_eq]; exact hn.symm]
    unfold fidx
    cases row.findIdx? (fun q => sdW W who q == k) <;> rfl
  · intro i x hx hp
    have hb := idx_bd hx
    simp only [slices_IndexFunc_2_L1, slices_IndexFunc_2_J2]
    rw [if_pos (by simpa using hb.2), asrt_pos hb, geti_some hx, call i x hx, Option.bind_some, if_pos hp]
  · intro i x hx hp
    have hb := idx_bd hx
    simp only [slices_IndexFunc_2_L1, slices_IndexFunc_2_J2]
    rw [if_pos (by simpa using hb.2), asrt_pos hb, geti_some hx, call i x hx, Option.bind_some, if_neg (by rw [hp]; simp)]
    simp only [slices_IndexFunc_2_J3]
    rw [w64_succ (by omega)]
  · simp only [slices_IndexFunc_2_L1]
    rw [if_neg (by simp)]

/-- What of the rows has joined. -/
def Won (W who : Int) (r : List (List Int)) (n : Nat) (q : Int) : Prop := ∃ j row, j < n ∧ r[j]? = some row ∧ winH W who row = true ∧ q ∈ row
def Has (W who : Int) (r : List (List Int)) : Prop := ∃ row ∈ r, winH W who row = true
open Classical in
noncomputable def jlH (W who : Int) (r : List (List Int)) (n : Nat) : List Int := ((List.range n).filter (fun (b : Nat) => decide (Won W who r r.length (b : Int)))).map (fun (b : Nat) => (b : Int))

theorem won_succ {r : List (List Int)} {i : Nat} {row : List Int} (hx : r[i]? = some row) {q : Int} : Won W who r (i + 1) q ↔ Won W who r i q ∨ (winH W who row = true ∧ q ∈ row) := by
  constructor
  · rintro ⟨j, ro, h1, h2, h3, h4⟩
    by_cases e : j = i
    · subst e
      rw [hx] at h2
      obtain rfl := Option.some.inj h2
      exact Or.inr ⟨h3, h4⟩
    · exact Or.inl ⟨j, ro, by omega, h2, h3, h4⟩
  · rintro (⟨j, ro, h1, h2, h3, h4⟩ | ⟨h3, h4⟩)
    · exact ⟨j, ro, by omega, h2, h3, h4⟩
    · exact ⟨i, row, by omega, hx, h3, h4⟩

theorem geti2_some {r : List (List Int)} {i : Nat} {row : List Int} (hx : r[i]? = some row) : geti2 r (i : Int) = row := by
  unfold geti2; rw [Int.toNat_natCast, List.getD_eq_getElem?_getD, hx]; rfl

theorem has_iff {r : List (List Int)} {n : Nat} (hr : ROk n r) : Has W who r ↔ ∃ q, Won W who r r.length q := by
  constructor
  · rintro ⟨row, h1, h2⟩
    obtain ⟨j, hj, e⟩ := List.getElem_of_mem h1
    obtain ⟨q, hq⟩ := List.exists_mem_of_ne_nil _ (hr.ne row h1)
    exact ⟨q, j, row, hj, by rw [List.getElem?_eq_getElem hj, e], h2, hq⟩
  · rintro ⟨q, j, row, h1, h2, h3, h4⟩
    exact ⟨row, List.mem_of_getElem? h2, h3⟩

theorem joinl_p (B : Dm W W c) {r : List (List Int)} (hr : ROk c.length r) : ∃ l, loop (hex_joined_L2 W W c who r) ([], 0) = some l ∧ l.Nodup ∧ (∀ q, q ∈ l ↔ Won W who r r.length q) := by
  have hsm := B.small
  have hrl := hr.len
  have hW := B.w
  have key := count_loop (step := hex_joined_L2 W W c who r) (fun (s : List Int) (i : Nat) => (s, (i : Int))) (fun n s => s.Nodup ∧ ∀ q, q ∈ s ↔ Won W who r n q) (fun l => l.Nodup ∧ ∀ q, q ∈ l ↔ Won W who r r.length q) r.length [] ⟨List.nodup_nil, fun q => by
      constructor
      · intro h; cases h
      · rintro ⟨j, row, h, _⟩; omega⟩ (by
    rintro i s hi ⟨h1, h2⟩
    left
    obtain ⟨row, hx⟩ : ∃ row, r[i]? = some row := ⟨_, List.getElem?_eq_getElem hi⟩
    have hrow := List.mem_of_getElem? hx
    have hlr : row.length ≤ c.length := nodup_len (hr.nd row hrow) (hr.mem row hrow)
    have hls : s.length ≤ c.length := nodup_len h1 fun q hq => by
      obtain ⟨j, ro, _, k2, _, k4⟩ := (h2 q).1 hq
      exact hr.mem ro (List.mem_of_getElem? k2) q k4
    simp only [hex_joined_L2]
    rw [if_pos (decide_eq_true (by omega))]
    unfold hex_joined_J5
    rw [asrt_pos (by omega), geti2_some hx, w64_of (x := W - 1) (by omega), side_p B (hr.mem row hrow) hlr, side_p B (hr.mem row hrow) hlr, Option.bind_some]
    have e : (if row.any (fun q => sdW W who q == 0) = true then some (row.any (fun q => sdW W who q == W - 1)) else some false) = some (winH W who row) := by
      unfold winH
      cases row.any (fun q => sdW W who q == 0) <;> rfl
    have e2 : (row.any (fun q => sdW W who q == 0) && winH W who row) = winH W who row := by
      unfold winH
      cases row.any (fun q => sdW W who q == 0) <;> rfl
    rw [e, Option.bind_some, e2]
    unfold hex_joined_J7 hex_joined_J6
    rw [w64_of (by omega), geti2_some hx]
    cases hw : winH W who row with
    | true =>
      rw [if_pos rfl, asrt_pos (by unfold bigN; omega)]
      refine ⟨s ++ row, rfl, ?_, fun q => ?_⟩
      · rw [List.nodup_append]
        refine ⟨h1, hr.nd row hrow, ?_⟩
        intro x hx1 y hy e
        subst e
        obtain ⟨j, ro, k1, k2, _, k4⟩ := (h2 x).1 hx1
        have hd := List.pairwise_iff_getElem.1 hr.dis j i (by omega) hi k1
        rw [List.getElem?_eq_getElem (by omega)] at k2 hx
        rw [Option.some.inj k2, Option.some.inj hx] at hd
        exact hd x k4 hy
      · rw [List.mem_append, h2, won_succ hx]
        simp [hw]
    | false =>
      rw [if_neg (by simp)]
      refine ⟨s, rfl, h1, fun q => ?_⟩
      rw [h2, won_succ hx]
      simp [hw]) (by
    rintro s h
    refine ⟨s, ?_, h⟩
    simp only [hex_joined_L2]
    rw [if_neg (by simp)])
  obtain ⟨l, hl, h⟩ := key
  exact ⟨l, hl, h⟩

theorem joinJ_p (B : Dm W W c) (hw : who = 1 ∨ who = 2) : hex_joined_J2 W W c who = (open Classical in if Has W who (grpsH W c who c.length) then some (.done (.ret (who, jlH W who (grpsH W c who c.length) c.length))) else some (.next (who + 1))) := by
  classical
  have hsm := B.small
  have hr := grpsH_ok (W := W) (c := c) (v := who)
  unfold hex_joined_J2
  rw [groups_p B, Option.bind_some]
  obtain ⟨l, k1, k2, k3⟩ := joinl_p (who := who) B hr
  rw [k1, Option.bind_some]
  simp only [hex_joined_K2]
  unfold hex_joined_J4 hex_joined_J3 hex_joined_J8 slices_Sort_2_m
  have hls : l.length ≤ c.length := nodup_len k2 fun q hq => by
    obtain ⟨j, ro, _, h2, _, h4⟩ := (k3 q).1 hq
    exact hr.mem ro (List.mem_of_getElem? h2) q h4
  rw [asrt_pos (by unfold bigN; omega), w64_of (by omega)]
  by_cases h : Has W who (grpsH W c who c.length)
  · obtain ⟨q, hq⟩ := (has_iff hr).1 h
    have hne : l ≠ [] := fun e => by
      have := (k3 q).2 hq
      rw [e] at this
      cases this
    have := List.length_pos_iff.2 hne
    rw [if_pos (decide_eq_true (by omega)), if_pos h, Option.bind_some]
    congr 4
    unfold jlH
    refine strict_ext (sortI_lt k2) (filt_lt _ _) fun q => ?_
    rw [sortI_mem, List.mem_map]
    constructor
    · intro hq
      have h5 := (k3 q).1 hq
      obtain ⟨j, ro, _, h2, _, h4⟩ := h5
      obtain ⟨b, hb, rfl⟩ := hr.mem ro (List.mem_of_getElem? h2) q h4
      exact ⟨b, by rw [List.mem_filter, List.mem_range, decide_eq_true_eq]; exact ⟨hb, (k3 _).1 hq⟩, rfl⟩
    · rintro ⟨b, h1, rfl⟩
      rw [List.mem_filter, decide_eq_true_eq] at h1
      exact (k3 _).2 h1.2
  · have he : l = [] := by
      rw [List.eq_nil_iff_forall_not_mem]
      intro q hq
      exact h ((has_iff hr).2 ⟨q, (k3 q).1 hq⟩)
    rw [if_neg (by rw [he]; simp), if_neg h]

end
end Go.Proofs.Ytgogihcmnkncjaa
