/-
  Othello: all that a move turns; the program's list and the reference's board.
-/
import Derived.Test.YtogecbgngnjhgaaQOa
namespace Go.Proofs.Ytogecbgngnjhgaa
open Go Go.GL

section
variable {W H : Int} {c : List Int} {who : Int}

def D1 : List (Int × Int) := [(1, 0), (1, 1), (0, 1), (-1, 1), (-1, 0), (-1, -1), (0, -1), (1, -1)]
def D2 : List (Int × Int) := [(-1, -1), (-1, 0), (-1, 1), (0, -1), (0, 1), (1, -1), (1, 0), (1, 1)]
theorem D12 (d : Int × Int) : d ∈ D1 ↔ d ∈ D2 := by
  obtain ⟨a, b⟩ := d
  simp only [D1, D2, List.mem_cons, Prod.mk.injEq, List.not_mem_nil, or_false]
  omega
theorem D1_ok {d : Int × Int} (h : d ∈ D1) : (-1 ≤ d.1 ∧ d.1 ≤ 1) ∧ (-1 ≤ d.2 ∧ d.2 ≤ 1) ∧ (d.1 ≠ 0 ∨ d.2 ≠ 0) := by
  obtain ⟨a, b⟩ := d
  simp only [D1, List.mem_cons, Prod.mk.injEq, List.not_mem_nil, or_false] at h
  simp only
  omega

noncomputable def flD (W H : Int) (c : List Int) (who p : Int) (d : Int × Int) : List Int := fl W H c who (p % W) (p / W) d.1 d.2
/-- What a move turns. -/
noncomputable def turnL (W H : Int) (c : List Int) (who p : Int) (D : List (Int × Int)) : List Int := D.flatMap (flD W H c who p)

theorem turnL_in (B : Dm W H c) {p : Int} (hp : 0 ≤ p ∧ p < c.length) {D : List (Int × Int)} (hD : ∀ d ∈ D, d ∈ D1) : (∀ q ∈ turnL W H c who p D, 0 ≤ q ∧ q < c.length) ∧ (turnL W H c who p D).length ≤ 9 * D.length := by
  obtain ⟨hx, hy, _⟩ := B.xy hp
  induction D with
  | nil => exact ⟨by simp [turnL], by simp [turnL]⟩
  | cons d D ih =>
    obtain ⟨i1, i2⟩ := ih (fun e he => hD e (by simp [he]))
    obtain ⟨h1, h2, h3⟩ := D1_ok (hD d (by simp))
    obtain ⟨f1, f2⟩ := fl_in (who := who) B hx hy h1 h2 h3
    constructor
    · intro q hq
      unfold turnL at hq
      rw [List.flatMap_cons, List.mem_append] at hq
      rcases hq with hq | hq
      · exact f1 q hq
      · exact i1 q hq
    · unfold turnL at i2 ⊢
      rw [List.flatMap_cons, List.length_append, List.length_cons]
      have : (flD W H c who p d).length ≤ 9 := f2
      omega

theorem turnL_mem {p : Int} {D E : List (Int × Int)} (h : ∀ d, d ∈ D ↔ d ∈ E) (q : Int) : q ∈ turnL W H c who p D ↔ q ∈ turnL W H c who p E := by
  unfold turnL
  simp only [List.mem_flatMap, h]

def waysL : List Int := [1, 0, 1, 1, 0, 1, (-1), 1, (-1), 0, (-1), (-1), 0, (-1), 1, (-1)]

theorem turned_eq (B : Dm W H c) (hw : who = 1 ∨ who = 2) {p : Int} (hp : 0 ≤ p ∧ p < c.length) : othello_turned_m W H c who p = some (if geti c p = 0 then turnL W H c who p D1 else []) := by
  have hW := B.w
  have hH := B.h
  obtain ⟨hx, hy, _⟩ := B.xy hp
  have hsm := B.small
  unfold othello_turned_m
  rw [asrt_pos hp]
  by_cases h0 : geti c p = 0
  · rw [if_neg (by simpa using h0), if_pos h0]
    unfold othello_turned_J1 othello_ways_m
    rw [Option.bind_some]
    change (loop (othello_turned_L1 W H c who p waysL) (([] : List Int), 0)).bind othello_turned_K1 = _
    have key : ∃ r, loop (othello_turned_L1 W H c who p waysL) (([] : List Int), 0) = some r ∧ r = turnL W H c who p D1 := by
      refine count_loop (step := othello_turned_L1 W H c who p waysL) (fun (s : List Int) (i : Nat) => (s, (i : Int))) (fun i s => s = turnL W H c who p (D1.take i)) (fun r => r = turnL W H c who p D1) 8 [] rfl ?_ ?_
      · intro i s hi hs
        left
        have e1 : othello_turned_L1 W H c who p waysL (s, (i : Int)) = othello_turned_J3 W H c who p waysL s i := if_pos (by simp; omega)
        have hl : s.length ≤ 1000 := by
          have := (turnL_in (who := who) B hp (D := D1.take i) (fun d hd => List.mem_of_mem_take hd)).2
          rw [hs]
          have h2 : (D1.take i).length ≤ 8 := by rw [List.length_take]; exact Nat.min_le_right _ _
          omega
        have hd : D1[i]? = some (geti waysL ((i : Int) * 2), geti waysL ((i : Int) * 2 + 1)) := by
          have : ∀ j : Fin 8, D1[j.1]? = some (geti waysL ((j.1 : Int) * 2), geti waysL ((j.1 : Int) * 2 + 1)) := by decide
          exact this ⟨i, hi⟩
        obtain ⟨k1, k2, k3⟩ := D1_ok (List.mem_of_getElem? hd)
        refine ⟨turnL W H c who p (D1.take (i + 1)), ?_, rfl⟩
        rw [e1]
        unfold othello_turned_J3
        rw [asrt_pos (by omega), asrt_pos (by omega), asrt_pos (by omega), Int.tmod_eq_emod_of_nonneg hp.1, Int.tdiv_eq_ediv_of_nonneg hp.1, w64_of (x := p / W) (by omega), turn_dir B hw waysL s hl (i : Int) hx hy k1 k2 k3, Option.bind_some]
        simp only [othello_turned_K2, othello_turned_J4]
        rw [w64_of (by omega), List.take_add_one, hd, hs]
        unfold turnL
        rw [List.flatMap_append]
        simp [flD]
      · intro s hs
        refine ⟨s, ?_, ?_⟩
        · simp only [othello_turned_L1]
          rw [if_neg (by decide)]
        · rw [hs]; rfl
    obtain ⟨r, hr, rfl⟩ := key
    rw [hr]
    rfl
  · rw [if_pos (by simpa using h0), if_neg h0]

/-! ## The reference -/

theorem put_dir (B : Dm W H c) (hw : who = 1 ∨ who = 2) {p : Int} (hp : 0 ≤ p ∧ p < c.length) {dx dy : Int} (hdx : -1 ≤ dx ∧ dx ≤ 1) (hdy : -1 ≤ dy ∧ dy ≤ 1) (hd : dx ≠ 0 ∨ dy ≠ 0) (out : List Int) (many : Int) (hm : 0 ≤ many ∧ many ≤ 1000) :
    gameroomref_PutSign_J7 W H c who p (W, H, c) dx out many dy = some (.next (setAll out (flD W H c who p (dx, dy)) who, many + (flD W H c who p (dx, dy)).length, dy + 1)) := by
  classical
  have hW := B.w
  have hH := B.h
  obtain ⟨hx, hy, hpe⟩ := B.xy hp
  unfold gameroomref_PutSign_J7 flD
  rw [asrt_pos (by omega), asrt_pos (by omega), Int.tmod_eq_emod_of_nonneg hp.1, Int.tdiv_eq_ediv_of_nonneg hp.1, w64_of (x := p / W) (by omega), w64_of (x := p % W + dx) (by omega), w64_of (x := p / W + dy) (by omega)]
  have etm : Int.tmod p W = p % W := Int.tmod_eq_emod_of_nonneg hp.1
  have etd : w64 (Int.tdiv p W) = p / W := by rw [Int.tdiv_eq_ediv_of_nonneg hp.1, w64_of (by omega)]
  generalize p % W = x at *
  generalize p / W = y at *
  simp only
  obtain ⟨n, hn9, hn⟩ := run_ex (who := who) B hx hy hdx hdy hd
  have est : ∀ (z a : Int) (i : Nat), z + a * ((i + 1 : Nat) : Int) + a = z + a * ((i + 2 : Nat) : Int) := by
    intro z a i
    rw [show ((i + 2 : Nat) : Int) = ((i + 1 : Nat) : Int) + 1 by omega, Int.mul_add]
    omega
  have key : ∃ r, loop (gameroomref_PutSign_L3 W H c who dx dy) (0, x + dx, y + dy) = some r ∧ r = ((n : Int), x + dx * ((n + 1 : Nat) : Int), y + dy * ((n + 1 : Nat) : Int)) := by
    have hc := count_loop (step := gameroomref_PutSign_L3 W H c who dx dy) (fun (_ : Unit) (i : Nat) => ((i : Int), x + dx * ((i + 1 : Nat) : Int), y + dy * ((i + 1 : Nat) : Int))) (fun _ _ => True) (fun r => r = ((n : Int), x + dx * ((n + 1 : Nat) : Int), y + dy * ((n + 1 : Nat) : Int))) n () trivial ?_ ?_
    · simpa using hc
    · rintro i - hi -
      left
      refine ⟨(), ?_, trivial⟩
      obtain ⟨⟨h1, h2⟩, h3⟩ := hn.1 (i + 1) (by omega) (by omega)
      have hix := B.idx h1 h2
      have b1 := tri_bd' (i := i + 1) hdx (by omega)
      have b2 := tri_bd' (i := i + 1) hdy (by omega)
      simp only [gameroomref_PutSign_L3, gameroomref_within_m, gameroomref_PutSign_J9]
      rw [w64_of (x := W - 1) (by omega), w64_of (x := H - 1) (by omega), w64_ix' hW (by omega) (by omega), w64_of (x := 3 - who) (by omega),
        show (decide (0 ≤ x + dx * ((i + 1 : Nat) : Int)) && decide (x + dx * ((i + 1 : Nat) : Int) ≤ W - 1)) = true by rw [Bool.and_eq_true, decide_eq_true_eq, decide_eq_true_eq]; omega,
        show (decide (0 ≤ y + dy * ((i + 1 : Nat) : Int)) && decide (y + dy * ((i + 1 : Nat) : Int) ≤ H - 1)) = true by rw [Bool.and_eq_true, decide_eq_true_eq, decide_eq_true_eq]; omega]
      simp only [Option.bind_some, if_true, Bool.true_and]
      rw [asrt_pos (fun _ => hix), if_pos (by simpa using h3), w64_of (x := (i : Int) + 1) (by omega), w64_of (x := x + dx * ((i + 1 : Nat) : Int) + dx) (by omega), w64_of (x := y + dy * ((i + 1 : Nat) : Int) + dy) (by omega), est, est]
      rfl
    · rintro - -
      refine ⟨_, ?_, rfl⟩
      have b1 := tri_bd' (i := n + 1) hdx (by omega)
      have b2 := tri_bd' (i := n + 1) hdy (by omega)
      have hno := hn.2
      simp only [gameroomref_PutSign_L3, gameroomref_within_m, gameroomref_PutSign_J9]
      rw [w64_of (x := W - 1) (by omega), w64_of (x := H - 1) (by omega), w64_ix' hW (by omega) (by omega), w64_of (x := 3 - who) (by omega)]
      by_cases hb1 : 0 ≤ x + dx * ((n + 1 : Nat) : Int) ∧ x + dx * ((n + 1 : Nat) : Int) < W
      · rw [show (decide (0 ≤ x + dx * ((n + 1 : Nat) : Int)) && decide (x + dx * ((n + 1 : Nat) : Int) ≤ W - 1)) = true by rw [Bool.and_eq_true, decide_eq_true_eq, decide_eq_true_eq]; omega]
        by_cases hb2 : 0 ≤ y + dy * ((n + 1 : Nat) : Int) ∧ y + dy * ((n + 1 : Nat) : Int) < H
        · rw [show (decide (0 ≤ y + dy * ((n + 1 : Nat) : Int)) && decide (y + dy * ((n + 1 : Nat) : Int) ≤ H - 1)) = true by rw [Bool.and_eq_true, decide_eq_true_eq, decide_eq_true_eq]; omega]
          simp only [Option.bind_some, if_true, Bool.true_and]
          rw [asrt_pos (fun _ => B.idx hb1 hb2), if_neg (fun h => hno ⟨⟨hb1, hb2⟩, by simpa using h⟩)]
        · rw [show (decide (0 ≤ y + dy * ((n + 1 : Nat) : Int)) && decide (y + dy * ((n + 1 : Nat) : Int) ≤ H - 1)) = false by rw [Bool.and_eq_false_iff, decide_eq_false_iff_not, decide_eq_false_iff_not]; omega]
          simp only [Option.bind_some, if_true, Bool.and_false, Bool.false_and, Bool.false_eq_true, if_false]
          rw [asrt_pos (fun h => by cases h)]
      · rw [show (decide (0 ≤ x + dx * ((n + 1 : Nat) : Int)) && decide (x + dx * ((n + 1 : Nat) : Int) ≤ W - 1)) = false by rw [Bool.and_eq_false_iff, decide_eq_false_iff_not, decide_eq_false_iff_not]; omega]
        simp only [Option.bind_some, Bool.false_and, Bool.false_eq_true, if_false]
        rw [asrt_pos (fun h => by cases h)]
  obtain ⟨r, hr, rfl⟩ := key
  rw [hr, Option.bind_some, fl_of hn]
  simp only [gameroomref_PutSign_K3, gameroomref_PutSign_J8, gameroomref_within_m]
  have b1 := tri_bd' (i := n + 1) hdx (by omega)
  have b2 := tri_bd' (i := n + 1) hdy (by omega)
  rw [w64_of (x := W - 1) (by omega), w64_of (x := H - 1) (by omega), w64_ix' hW (by omega) (by omega)]
  have skip : ∀ (q : Prop) [Decidable q], ¬ q → gameroomref_PutSign_J6 dy out many = some (.next (setAll out (if q then (List.range n).map fun (i : Nat) => (y + dy * (i + 1)) * W + (x + dx * (i + 1)) else []) who, many + ((if q then (List.range n).map fun (i : Nat) => (y + dy * (i + 1)) * W + (x + dx * (i + 1)) else []) : List Int).length, dy + 1)) := by
    intro q _ hq
    rw [if_neg hq]
    unfold gameroomref_PutSign_J6
    rw [w64_of (by omega)]
    simp [setAll]
  by_cases hb1 : 0 ≤ x + dx * ((n + 1 : Nat) : Int) ∧ x + dx * ((n + 1 : Nat) : Int) < W
  · rw [show (decide (0 ≤ x + dx * ((n + 1 : Nat) : Int)) && decide (x + dx * ((n + 1 : Nat) : Int) ≤ W - 1)) = true by rw [Bool.and_eq_true, decide_eq_true_eq, decide_eq_true_eq]; omega]
    by_cases hb2 : 0 ≤ y + dy * ((n + 1 : Nat) : Int) ∧ y + dy * ((n + 1 : Nat) : Int) < H
    · rw [show (decide (0 ≤ y + dy * ((n + 1 : Nat) : Int)) && decide (y + dy * ((n + 1 : Nat) : Int) ≤ H - 1)) = true by rw [Bool.and_eq_true, decide_eq_true_eq, decide_eq_true_eq]; omega]
      simp only [Option.bind_some, Bool.not_true, Bool.not_false, if_true, Bool.false_or]
      rw [asrt_pos (fun _ => B.idx hb1 hb2)]
      by_cases hv : geti c ((y + dy * ((n + 1 : Nat) : Int)) * W + (x + dx * ((n + 1 : Nat) : Int))) = who
      · rw [if_neg (by simpa using hv), if_pos (show At W H c x y dx dy (n + 1) who from ⟨⟨hb1, hb2⟩, hv⟩)]
        unfold gameroomref_PutSign_J10
        have key4 : ∃ r, loop (gameroomref_PutSign_L4 W who p (W, H, c) dx dy (n : Int)) (out, 1) = some r ∧ r = setAll out ((List.range n).map fun (i : Nat) => (y + dy * (i + 1)) * W + (x + dx * (i + 1))) who := by
          refine count_loop (step := gameroomref_PutSign_L4 W who p (W, H, c) dx dy (n : Int)) (fun (s : List Int) (i : Nat) => (s, ((i + 1 : Nat) : Int))) (fun i s => s = setAll out ((List.range i).map fun (i : Nat) => (y + dy * (i + 1)) * W + (x + dx * (i + 1))) who) (fun r => r = setAll out ((List.range n).map fun (i : Nat) => (y + dy * (i + 1)) * W + (x + dx * (i + 1))) who) n out rfl ?_ ?_
          · intro i s hi hs
            left
            obtain ⟨⟨h1, h2⟩, h3⟩ := hn.1 (i + 1) (by omega) (by omega)
            have hix := B.idx h1 h2
            have c1 := tri_bd' (i := i + 1) hdx (by omega)
            have c2 := tri_bd' (i := i + 1) hdy (by omega)
            have hmm := mul_bd' (b := y + dy * ((i + 1 : Nat) : Int)) (by omega) hW
            have ei : w64 (w64 (w64 (w64 (y + w64 (((i + 1 : Nat) : Int) * dy)) * W) + x) + w64 (((i + 1 : Nat) : Int) * dx)) = (y + dy * ((i + 1 : Nat) : Int)) * W + (x + dx * ((i + 1 : Nat) : Int)) := by
              rw [Int.mul_comm _ dy, Int.mul_comm _ dx, w64_of (x := dy * ((i + 1 : Nat) : Int)) (by omega), w64_of (x := dx * ((i + 1 : Nat) : Int)) (by omega), w64_of (x := y + dy * ((i + 1 : Nat) : Int)) (by omega), w64_of (x := (y + dy * ((i + 1 : Nat) : Int)) * W) (by omega), w64_of (x := (y + dy * ((i + 1 : Nat) : Int)) * W + x) (by omega), w64_of (by omega)]
              omega
            have e1 : gameroomref_PutSign_L4 W who p (W, H, c) dx dy (n : Int) (s, ((i + 1 : Nat) : Int)) = gameroomref_PutSign_J12 W who p (W, H, c) dx dy s ((i + 1 : Nat) : Int) := if_pos (decide_eq_true (by omega))
            refine ⟨s.set ((y + dy * ((i + 1 : Nat) : Int)) * W + (x + dx * ((i + 1 : Nat) : Int))).toNat who, ?_, ?_⟩
            · rw [e1]
              unfold gameroomref_PutSign_J12 gameroomref_PutSign_J13
              rw [asrt_pos (by omega), asrt_pos (by omega), etm, etd, ei, asrt_pos hix, w64_of (x := ((i + 1 : Nat) : Int) + 1) (by omega)]
              rfl
            · rw [List.range_succ, List.map_append, setAll_append, ← hs]
              simp [setAll]
          · intro s hs
            exact ⟨s, if_neg (by rw [decide_eq_true_eq]; omega), hs⟩
        obtain ⟨r, hr, rfl⟩ := key4
        rw [hr]
        simp only [Option.bind_some, gameroomref_PutSign_K4, gameroomref_PutSign_J11, gameroomref_PutSign_J6]
        rw [w64_of (x := many + (n : Int)) (by omega), w64_of (by omega)]
        simp
      · rw [if_pos (by simpa using hv)]
        exact skip _ (fun h => hv h.2)
    · rw [show (decide (0 ≤ y + dy * ((n + 1 : Nat) : Int)) && decide (y + dy * ((n + 1 : Nat) : Int) ≤ H - 1)) = false by rw [Bool.and_eq_false_iff, decide_eq_false_iff_not, decide_eq_false_iff_not]; omega]
      simp only [Option.bind_some, Bool.not_true, Bool.not_false, if_true, Bool.or_true, Bool.true_or]
      rw [asrt_pos (fun h => by cases h)]
      exact skip _ (fun h => hb2 h.1.2)
  · rw [show (decide (0 ≤ x + dx * ((n + 1 : Nat) : Int)) && decide (x + dx * ((n + 1 : Nat) : Int) ≤ W - 1)) = false by rw [Bool.and_eq_false_iff, decide_eq_false_iff_not, decide_eq_false_iff_not]; omega]
    simp only [Option.bind_some, Bool.not_true, Bool.not_false, Bool.false_eq_true, if_false, if_true, Bool.true_or]
    rw [asrt_pos (fun h => by cases h)]
    exact skip _ (fun h => hb1 h.1.1)
end
end Go.Proofs.Ytogecbgngnjhgaa
