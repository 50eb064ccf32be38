/-
  Othello: a sign is put: program and reference alike; where signs may be put.
-/
import Derived.Test.YtogecbgngnjhgaaQOb
namespace Go.Proofs.Ytogecbgngnjhgaa
open Go Go.GL

section
variable {W H : Int} {c : List Int} {who : Int}

noncomputable def flF (W H : Int) (c : List Int) (who p dx dy : Int) : List Int := if dx = 0 ∧ dy = 0 then [] else flD W H c who p (dx, dy)

theorem flF_len (B : Dm W H c) {p : Int} (hp : 0 ≤ p ∧ p < c.length) {dx dy : Int} (hdx : -1 ≤ dx ∧ dx ≤ 1) (hdy : -1 ≤ dy ∧ dy ≤ 1) : (flF W H c who p dx dy).length ≤ 9 := by
  obtain ⟨hx, hy, _⟩ := B.xy hp
  unfold flF
  split
  · simp
  · exact (fl_in (who := who) B hx hy hdx hdy (by omega)).2

theorem dir5 (B : Dm W H c) (hw : who = 1 ∨ who = 2) {p : Int} (hp : 0 ≤ p ∧ p < c.length) {dx dy : Int} (hdx : -1 ≤ dx ∧ dx ≤ 1) (hdy : -1 ≤ dy ∧ dy ≤ 1) (out : List Int) (many : Int) (hm : 0 ≤ many ∧ many ≤ 1000) :
    gameroomref_PutSign_L2 W H c who p (W, H, c) dx (out, many, dy) = some (.next (setAll out (flF W H c who p dx dy) who, many + (flF W H c who p dx dy).length, dy + 1)) := by
  simp only [gameroomref_PutSign_L2]
  rw [if_pos (decide_eq_true hdy.2)]
  unfold gameroomref_PutSign_J5 flF
  by_cases h : dx = 0 ∧ dy = 0
  · rw [if_pos (by simp [h]), if_pos h]
    unfold gameroomref_PutSign_J6
    rw [w64_of (by omega)]
    simp [setAll]
  · rw [if_neg (by simpa using h), if_neg h, put_dir B hw hp hdx hdy (by omega) out many hm]

noncomputable def rowF (W H : Int) (c : List Int) (who p dx : Int) : List Int := flF W H c who p dx (-1) ++ flF W H c who p dx 0 ++ flF W H c who p dx 1

theorem row_dx (B : Dm W H c) (hw : who = 1 ∨ who = 2) {p : Int} (hp : 0 ≤ p ∧ p < c.length) {dx : Int} (hdx : -1 ≤ dx ∧ dx ≤ 1) (out : List Int) (many : Int) (hm : 0 ≤ many ∧ many ≤ 900) :
    gameroomref_PutSign_L1 W H c who p (W, H, c) (out, many, dx) = some (.next (setAll out (rowF W H c who p dx) who, many + (rowF W H c who p dx).length, dx + 1)) := by
  have l1 := flF_len (who := who) B hp hdx (dy := -1) (by omega)
  have l2 := flF_len (who := who) B hp hdx (dy := 0) (by omega)
  have l3 := flF_len (who := who) B hp hdx (dy := 1) (by omega)
  simp only [gameroomref_PutSign_L1]
  rw [if_pos (decide_eq_true hdx.2)]
  unfold gameroomref_PutSign_J3
  have key : loop (gameroomref_PutSign_L2 W H c who p (W, H, c) dx) (out, many, -1) = some (setAll out (rowF W H c who p dx) who, many + (rowF W H c who p dx).length) := by
    refine loop_next' (dir5 B hw hp hdx (dy := -1) (by omega) out many (by omega)) ?_
    refine loop_next' (dir5 B hw hp hdx (dy := 0) (by omega) _ _ (by omega)) ?_
    refine loop_next' (dir5 B hw hp hdx (dy := 1) (by omega) _ _ (by omega)) ?_
    apply loop_done
    simp only [gameroomref_PutSign_L2]
    rw [if_neg (by decide)]
    unfold rowF
    rw [setAll_append, setAll_append]
    simp only [List.length_append]
    congr 3
    omega
  rw [key]
  simp only [Option.bind_some, gameroomref_PutSign_K2, gameroomref_PutSign_J4]
  rw [w64_of (by omega)]

theorem rows_D2 (p : Int) : rowF W H c who p (-1) ++ rowF W H c who p 0 ++ rowF W H c who p 1 = turnL W H c who p D2 := by
  simp [rowF, flF, turnL, D2]

theorem putSign_eq (B : Dm W H c) (hw : who = 1 ∨ who = 2) {p : Int} (hp : 0 ≤ p ∧ p < c.length) :
    gameroomref_PutSign_m W H c who p = some (W, H, if geti c p = 0 ∧ turnL W H c who p D2 ≠ [] then (setAll c (turnL W H c who p D2) who).set p.toNat who else c, if geti c p = 0 then ((turnL W H c who p D2).length : Int) else 0) := by
  have hsm := B.small
  unfold gameroomref_PutSign_m gameroomref_GridOf_m gameroomref_Ints_m
  rw [asrt_pos (by unfold bigN; omega), Option.bind_some, List.nil_append, Option.bind_some, asrt_pos hp]
  by_cases h0 : geti c p = 0
  · rw [if_neg (by simpa using h0), if_pos h0]
    unfold gameroomref_PutSign_J1
    have hl : ∀ dx : Int, -1 ≤ dx ∧ dx ≤ 1 → (rowF W H c who p dx).length ≤ 27 := by
      intro dx hdx
      have l1 := flF_len (who := who) B hp hdx (dy := -1) (by omega)
      have l2 := flF_len (who := who) B hp hdx (dy := 0) (by omega)
      have l3 := flF_len (who := who) B hp hdx (dy := 1) (by omega)
      unfold rowF
      simp only [List.length_append]
      omega
    have q1 := hl (-1) (by omega)
    have q2 := hl 0 (by omega)
    have q3 := hl 1 (by omega)
    have key : loop (gameroomref_PutSign_L1 W H c who p (W, H, c)) (c, 0, -1) = some (setAll c (turnL W H c who p D2) who, ((turnL W H c who p D2).length : Int)) := by
      refine loop_next' (row_dx B hw hp (dx := -1) (by omega) c 0 (by omega)) ?_
      refine loop_next' (row_dx B hw hp (dx := 0) (by omega) _ _ (by omega)) ?_
      refine loop_next' (row_dx B hw hp (dx := 1) (by omega) _ _ (by omega)) ?_
      apply loop_done
      simp only [gameroomref_PutSign_L1]
      rw [if_neg (by decide), ← rows_D2, setAll_append, setAll_append]
      simp only [List.length_append]
      congr 4
      omega
    rw [key]
    simp only [Option.bind_some, gameroomref_PutSign_K1]
    unfold gameroomref_PutSign_J2 gameroomref_PutSign_J14
    by_cases h1 : turnL W H c who p D2 = []
    · rw [h1, if_neg (by simp), if_neg (by simp)]
      simp [setAll]
    · have hpos : 0 < (turnL W H c who p D2).length := List.length_pos_iff.2 h1
      rw [if_pos (by simp; omega), if_pos ⟨h0, h1⟩, asrt_pos hp]
  · rw [if_pos (by simpa using h0), if_neg (fun h => h0 h.1), if_neg h0]

/-- May a sign be put there? -/
noncomputable def mayP (W H : Int) (c : List Int) (who p : Int) : Prop := geti c p = 0 ∧ turnL W H c who p D1 ≠ []

theorem nil_iff {p : Int} : turnL W H c who p D1 = [] ↔ turnL W H c who p D2 = [] := by
  rw [List.eq_nil_iff_forall_not_mem, List.eq_nil_iff_forall_not_mem]
  simp only [turnL_mem D12]

/-- The board behind a sign put. -/
noncomputable def putB (W H : Int) (c : List Int) (who p : Int) : List Int := (setAll c (turnL W H c who p D2) who).set p.toNat who
theorem putB_len {p : Int} : (putB W H c who p).length = c.length := by unfold putB; rw [List.length_set, setAll_length]

theorem put_p (B : Dm W H c) (hw : who = 1 ∨ who = 2) {p : Int} (hp : 0 ≤ p ∧ p < c.length) (hm : mayP W H c who p) : othello_put_m W H c who p = some (W, H, putB W H c who p) := by
  have hsm := B.small
  unfold othello_put_m slices_Clone_m slices_Clone_J1
  rw [turned_eq B hw hp, if_pos hm.1, Option.bind_some, asrt_pos (by unfold bigN; omega), List.nil_append, Option.bind_some, asrt_pos hp]
  obtain ⟨hin, hlen⟩ := turnL_in (who := who) B hp (D := D1) (fun _ h => h)
  have key : ∃ r, loop (othello_put_L1 who (turnL W H c who p D1) c) (c.set p.toNat who, 0) = some r ∧ r = setAll (c.set p.toNat who) (turnL W H c who p D1) who := by
    refine count_loop (step := othello_put_L1 who (turnL W H c who p D1) c) (fun (s : List Int) (i : Nat) => (s, (i : Int))) (fun i s => s = setAll (c.set p.toNat who) ((turnL W H c who p D1).take i) who) (fun r => r = setAll (c.set p.toNat who) (turnL W H c who p D1) who) (turnL W H c who p D1).length (c.set p.toNat who) rfl ?_ ?_
    · intro i s hi hs
      left
      have hg := get_geti hi
      have hi2 := hin _ (List.mem_of_getElem? hg)
      refine ⟨s.set (geti (turnL W H c who p D1) i).toNat who, ?_, ?_⟩
      · simp only [othello_put_L1]
        rw [if_pos (decide_eq_true (by omega))]
        unfold othello_put_J2 othello_put_J3
        rw [asrt_pos (by omega), asrt_pos hi2, w64_of (x := (i : Int) + 1) (by have h8 : D1.length = 8 := rfl; omega)]
        rfl
      · rw [List.take_add_one, hg, setAll_append, ← hs]
        rfl
    · intro s hs
      refine ⟨s, ?_, by rw [hs, List.take_length]⟩
      simp only [othello_put_L1]
      rw [if_neg (by simp)]
  obtain ⟨r, hr, rfl⟩ := key
  rw [hr]
  simp only [Option.bind_some, othello_put_K1, othello_put_J1]
  congr 3
  obtain ⟨hin2, _⟩ := turnL_in (who := who) B hp (D := D2) (fun d h => (D12 d).2 h)
  unfold putB
  apply ext_geti (by rw [setAll_length, List.length_set, List.length_set, setAll_length])
  intro j hj
  rw [setAll_length, List.length_set] at hj
  rw [setAll_get who _ _ j (by intro q hq; rw [List.length_set]; exact hin q hq) (by rw [List.length_set]; exact hj), geti_set' (by omega) (by omega), geti_set' (by omega) (by rw [setAll_length]; omega), setAll_get who _ _ j hin2 hj]
  simp only [turnL_mem D12]
  split <;> split <;> rfl

theorem put_r (B : Dm W H c) (hw : who = 1 ∨ who = 2) {p : Int} (hp : 0 ≤ p ∧ p < c.length) (hm : mayP W H c who p) : ∃ n, gameroomref_PutSign_m W H c who p = some (W, H, putB W H c who p, n) := by
  have h2 : turnL W H c who p D2 ≠ [] := fun h => hm.2 (nil_iff.2 h)
  refine ⟨((turnL W H c who p D2).length : Int), ?_⟩
  rw [putSign_eq B hw hp, if_pos ⟨hm.1, h2⟩, if_pos hm.1]
  rfl

open Classical in
/-- Where a sign may be put. -/
noncomputable def plcs (W H : Int) (c : List Int) (who : Int) (n : Nat) : List Int := ((List.range n).filter fun (i : Nat) => decide (mayP W H c who i)).map fun (i : Nat) => (i : Int)

open Classical in
theorem plcs_succ (n : Nat) : plcs W H c who (n + 1) = plcs W H c who n ++ if mayP W H c who n then [(n : Int)] else [] := by
  unfold plcs
  rw [List.range_succ, List.filter_append, List.map_append]
  by_cases h : mayP W H c who n <;> simp [h]
open Classical in
theorem plcs_len (n : Nat) : (plcs W H c who n).length ≤ n := by
  unfold plcs
  rw [List.length_map]
  exact Nat.le_trans (List.length_filter_le _ _) (by simp)
open Classical in
theorem plcs_mem {n : Nat} {q : Int} (h : q ∈ plcs W H c who n) : (0 ≤ q ∧ q < n) ∧ mayP W H c who q := by
  unfold plcs at h
  obtain ⟨i, hi, rfl⟩ := List.mem_map.1 h
  rw [List.mem_filter, List.mem_range] at hi
  exact ⟨by omega, of_decide_eq_true hi.2⟩

theorem places_p (B : Dm W H c) (hw : who = 1 ∨ who = 2) : othello_places_m W H c who = some (plcs W H c who c.length) := by
  classical
  have hsm := B.small
  unfold othello_places_m
  have key : ∃ r, loop (othello_places_L1 W H c who) (([] : List Int), 0) = some r ∧ r = plcs W H c who c.length := by
    refine count_loop (step := othello_places_L1 W H c who) (fun (s : List Int) (i : Nat) => (s, (i : Int))) (fun i s => s = plcs W H c who i) (fun r => r = plcs W H c who c.length) c.length [] rfl ?_ ?_
    · intro i s hi hs
      left
      have hsl := plcs_len (W := W) (H := H) (c := c) (who := who) i
      rw [← hs] at hsl
      refine ⟨plcs W H c who (i + 1), ?_, rfl⟩
      have e1 : othello_places_L1 W H c who (s, (i : Int)) = othello_places_J2 W H c who s i := if_pos (decide_eq_true (by omega))
      rw [e1, plcs_succ, ← hs]
      unfold othello_places_J2 othello_places_J3
      rw [turned_eq B hw (by omega), Option.bind_some]
      by_cases hm : mayP W H c who i
      · have hpos := List.length_pos_iff.2 hm.2
        rw [if_pos hm.1, if_pos (decide_eq_true (by omega)), if_pos hm, asrt_pos (by unfold bigN; omega), w64_of (by omega)]
        rfl
      · rw [if_neg hm, List.append_nil, w64_of (by omega)]
        rw [if_neg]
        · rfl
        · rw [decide_eq_true_eq]
          by_cases h0 : geti c i = 0
          · have : turnL W H c who i D1 = [] := Classical.byContradiction fun h => hm ⟨h0, h⟩
            rw [if_pos h0, this]; simp
          · rw [if_neg h0]; simp
    · intro s hs
      exact ⟨s, by simp only [othello_places_L1]; rw [if_neg (by simp)], hs⟩
  obtain ⟨r, hr, rfl⟩ := key
  rw [hr]; rfl

theorem places_r (B : Dm W H c) (hw : who = 1 ∨ who = 2) : gameroomref_SignPlaces_m W H c who = some (plcs W H c who c.length) := by
  classical
  have hsm := B.small
  unfold gameroomref_SignPlaces_m
  have key : ∃ r, loop (gameroomref_SignPlaces_L1 W H c who) (([] : List Int), 0) = some r ∧ r = plcs W H c who c.length := by
    refine count_loop (step := gameroomref_SignPlaces_L1 W H c who) (fun (s : List Int) (i : Nat) => (s, (i : Int))) (fun i s => s = plcs W H c who i) (fun r => r = plcs W H c who c.length) c.length [] rfl ?_ ?_
    · intro i s hi hs
      left
      have hsl := plcs_len (W := W) (H := H) (c := c) (who := who) i
      rw [← hs] at hsl
      refine ⟨plcs W H c who (i + 1), ?_, rfl⟩
      have e1 : gameroomref_SignPlaces_L1 W H c who (s, (i : Int)) = gameroomref_SignPlaces_J2 W H c who s i := if_pos (decide_eq_true (by omega))
      rw [e1, plcs_succ, ← hs]
      unfold gameroomref_SignPlaces_J2 gameroomref_SignPlaces_J3
      rw [putSign_eq B hw (by omega), Option.bind_some]
      simp only
      by_cases hm : mayP W H c who i
      · have hpos := List.length_pos_iff.2 (fun h => hm.2 (nil_iff.2 h) : turnL W H c who i D2 ≠ [])
        rw [if_pos hm.1, if_pos (decide_eq_true (by omega)), if_pos hm, asrt_pos (by unfold bigN; omega), w64_of (by omega)]
        rfl
      · rw [if_neg hm, List.append_nil, w64_of (by omega)]
        rw [if_neg]
        · rfl
        · rw [decide_eq_true_eq]
          by_cases h0 : geti c i = 0
          · have : turnL W H c who i D1 = [] := Classical.byContradiction fun h => hm ⟨h0, h⟩
            rw [if_pos h0, nil_iff.1 this]; simp
          · rw [if_neg h0]; simp
    · intro s hs
      exact ⟨s, by simp only [gameroomref_SignPlaces_L1]; rw [if_neg (by simp)], hs⟩
  obtain ⟨r, hr, rfl⟩ := key
  rw [hr]; rfl
end
end Go.Proofs.Ytogecbgngnjhgaa
