/-
  RowsSolves: what a board may be, who is to move, and the law.
-/
import Derived.Test.YtbmhcapeikebgaaPRd
namespace Go.Proofs.Ytbmhcapeikebgaa
open Go Go.GL

def offG (x : Int) : Bool := decide (x < 0) || decide ((2 : Int) < x)
theorem offG_in (x : Int) : offG x = !(decide (0 ≤ x) && decide (x ≤ 2)) := by
  unfold offG
  by_cases h1 : 0 ≤ x <;> by_cases h2 : x ≤ 2 <;> simp [h1, h2, Int.not_lt.2] <;> omega

theorem indexFunc_g {s : List Int} (hs : s.length ≤ 17592186044416) : slices_IndexFunc_m s = some (fidx offG s) := by
  unfold slices_IndexFunc_m
  rw [search_loop (l := s) offG (fun i => Fl.ret (i : Int)) (Fl.go ()) ?_ ?_ ?_]
  · unfold fidx
    cases s.findIdx? offG <;> rfl
  · intro i x hx hp
    have hb := idx_bd hx
    simp only [slices_IndexFunc_L1, slices_IndexFunc_J2]
    rw [if_pos (by simpa using hb.2), asrt_pos hb, geti_some hx]
    simp only [rows_May_1_m, Option.bind_some]
    exact if_pos hp
  · intro i x hx hp
    have hb := idx_bd hx
    simp only [slices_IndexFunc_L1, slices_IndexFunc_J2]
    rw [if_pos (by simpa using hb.2), asrt_pos hb, geti_some hx]
    simp only [rows_May_1_m, Option.bind_some]
    rw [if_neg (by unfold offG at hp; rw [hp]; simp)]
    simp only [slices_IndexFunc_J3]
    rw [w64_succ (by omega)]
  · simp only [slices_IndexFunc_L1]
    rw [if_neg (by simp)]

def dimG (W H : Int) (c : List Int) : Prop := 1 ≤ W ∧ W ≤ 10 ∧ 1 ≤ H ∧ H ≤ 10 ∧ (c.length : Int) = W * H
instance (W H : Int) (c : List Int) : Decidable (dimG W H c) := by unfold dimG; infer_instance
def okG (W H : Int) (c : List Int) : Bool := decide (dimG W H c) && !c.any offG

theorem dim_b (W H : Int) (c : List Int) : (((((decide ((1 : Int) ≤ W)) && (decide (W ≤ 10))) && (decide ((1 : Int) ≤ H))) && (decide (H ≤ 10))) && ((c.length : Int) == (w64 (W * H)))) = decide (dimG W H c) := by
  unfold dimG
  by_cases h : 1 ≤ W ∧ W ≤ 10 ∧ 1 ≤ H ∧ H ≤ 10
  · have hm := mul_bd (b := W) (W := H) (by omega) (by omega)
    rw [w64_of (by omega), Bool.eq_iff_iff]
    simp only [Bool.and_eq_true, decide_eq_true_eq, beq_iff_eq, and_assoc]
    exact decide_eq_true_iff.symm
  · rw [decide_eq_false (p := 1 ≤ W ∧ W ≤ 10 ∧ 1 ≤ H ∧ H ≤ 10 ∧ (c.length : Int) = W * H) (fun h2 => h ⟨h2.1, h2.2.1, h2.2.2.1, h2.2.2.2.1⟩)]
    rw [Bool.and_eq_false_iff]
    left
    simp only [← Bool.decide_and, decide_eq_false_iff_not]
    omega

theorem may_p (W H : Int) {c : List Int} (hs : c.length ≤ 17592186044416) : rows_May_m W H c = some (okG W H c) := by
  unfold rows_May_m
  rw [dim_b]
  unfold okG
  by_cases h : dimG W H c
  · rw [decide_eq_true h, if_pos rfl]
    unfold slices_ContainsFunc_m
    rw [indexFunc_g hs]
    simp only [Option.bind_some, Bool.true_and]
    congr 2
    rw [Bool.eq_iff_iff, decide_eq_true_eq]
    exact fidx_neg offG c
  · rw [decide_eq_false h, if_neg (by decide)]
    rfl

theorem gridMay_eq (W H : Int) {c : List Int} (hs : c.length ≤ 17592186044416) : gameroomref_GridMay_m W H c = some (okG W H c) := by
  unfold gameroomref_GridMay_m gameroomref_within_m okG
  have hd := dim_b W H c
  by_cases h : dimG W H c
  · have h' := h
    obtain ⟨h1, h2, h3, h4, h5⟩ := h'
    have hm := mul_bd (b := W) (W := H) (by omega) (by omega)
    rw [decide_eq_true h1, decide_eq_true h2, decide_eq_true h3, decide_eq_true h4, decide_eq_true h, w64_of (x := W * H) (by omega), ← h5]
    simp only [Option.bind_some, Bool.and_self, Bool.not_true, Bool.not_false, if_true, Bool.or_false, bne_self_eq_false, Bool.false_eq_true, if_false, Bool.true_and]
    unfold gameroomref_GridMay_J1
    rw [search_loop (l := c) offG (fun _ => Fl.ret false) (Fl.go ()) ?_ ?_ ?_]
    · have hn := fidx_neg offG c
      unfold fidx at hn
      cases hf : c.findIdx? offG with
      | none =>
        rw [hf] at hn
        have : c.any offG = false := by
          rw [Bool.eq_false_iff]
          intro h; have := hn.2 h; simp at this
        rw [this]; rfl
      | some i =>
        rw [hf] at hn
        have : c.any offG = true := hn.1 (by simp)
        rw [this]; rfl
    · intro i x hx hp
      have hb := idx_bd hx
      simp only [gameroomref_GridMay_L1, gameroomref_GridMay_J3]
      rw [if_pos (by simpa using hb.2), asrt_pos hb, geti_some hx]
      simp only [gameroomref_within_m, Option.bind_some]
      rw [if_pos (by rw [← offG_in]; exact hp)]
    · intro i x hx hp
      have hb := idx_bd hx
      simp only [gameroomref_GridMay_L1, gameroomref_GridMay_J3]
      rw [if_pos (by simpa using hb.2), asrt_pos hb, geti_some hx]
      simp only [gameroomref_within_m, Option.bind_some]
      rw [if_neg (by rw [← offG_in, hp]; simp)]
      simp only [gameroomref_GridMay_J4]
      rw [w64_succ (by omega)]
    · simp only [gameroomref_GridMay_L1]
      rw [if_neg (by simp)]
  · rw [decide_eq_false h] at hd ⊢
    simp only [Option.bind_some, Bool.not_not, Bool.false_and]
    by_cases q1 : (decide ((1 : Int) ≤ W) && decide (W ≤ 10)) = true
    · rw [q1] at hd ⊢
      simp only [if_true, Option.bind_some, Bool.not_true, Bool.false_or]
      rw [if_pos]
      rw [Bool.true_and] at hd
      rw [Bool.or_eq_true]
      by_cases q2 : (decide ((1 : Int) ≤ H) && decide (H ≤ 10)) = true
      · right
        rw [q2, Bool.true_and] at hd
        simpa using hd
      · left
        rw [Bool.not_eq_true] at q2
        rw [q2]; rfl
    · rw [Bool.not_eq_true] at q1
      rw [q1]
      simp

/-! ## Counts -/

theorem count_take {c : List Int} {i : Nat} {x v : Int} (h : c[i]? = some x) : (c.take (i + 1)).count v = (c.take i).count v + if x = v then 1 else 0 := by
  rw [List.take_add_one, h, List.count_append]
  simp [List.count_cons]

def leadG (c : List Int) : Int := (c.count 1 : Int) - c.count 2
def moverG (c : List Int) : Int := if leadG c = 0 then 1 else if leadG c = 1 then 2 else 0

theorem mover_eq (W H : Int) {c : List Int} (hs : c.length ≤ 17592186044416) : gameroomref_GridMover_m W H c = some (moverG c) := by
  unfold gameroomref_GridMover_m
  have key : ∃ r, loop (gameroomref_GridMover_L1 c) (0, 0) = some r ∧ r = leadG c := by
    refine count_loop (step := gameroomref_GridMover_L1 c) (fun (s : Int) (i : Nat) => (s, (i : Int))) (fun i s => s = ((c.take i).count 1 : Int) - (c.take i).count 2) (fun r => r = leadG c) c.length 0 (by simp) ?_ ?_
    · intro i s hi hI
      left
      have hx : c[i]? = some (geti c i) := by rw [List.getElem?_eq_getElem hi]; congr 1; exact (geti_some (List.getElem?_eq_getElem hi)).symm
      have b1 : (c.take i).count 1 ≤ i := by have := List.count_le_length (a := (1 : Int)) (l := c.take i); simp at this; omega
      have b2 : (c.take i).count 2 ≤ i := by have := List.count_le_length (a := (2 : Int)) (l := c.take i); simp at this; omega
      have e1 : gameroomref_GridMover_L1 c (s, (i : Int)) = gameroomref_GridMover_J2 c s i := if_pos (by simp; omega)
      refine ⟨s + (if geti c i = 1 then 1 else 0) - (if geti c i = 2 then 1 else 0), ?_, ?_⟩
      · rw [e1]
        unfold gameroomref_GridMover_J2 gameroomref_GridMover_J4 gameroomref_GridMover_J3
        rw [asrt_pos (by omega)]
        by_cases q1 : geti c i = 1
        · rw [if_pos (by simpa using q1), asrt_pos (by omega), if_neg (by simp; omega), if_pos q1, if_neg (by omega), w64_of (x := s + 1) (by omega), w64_of (by omega)]
          simp
        · rw [if_neg (by simpa using q1), asrt_pos (by omega), if_neg q1]
          by_cases q2 : geti c i = 2
          · rw [if_pos (by simpa using q2), if_pos q2, w64_of (x := s - 1) (by omega), w64_of (by omega)]
            simp
          · rw [if_neg (by simpa using q2), if_neg q2, w64_of (by omega)]
            simp
      · rw [count_take hx, count_take hx, hI]
        split <;> split <;> omega
    · intro s hI
      refine ⟨s, if_neg (by simp), ?_⟩
      rw [hI, List.take_length]; rfl
  obtain ⟨r, hr, rfl⟩ := key
  rw [hr]
  simp only [Option.bind_some, gameroomref_GridMover_K1, gameroomref_GridMover_J1, gameroomref_GridMover_J5, gameroomref_GridMover_J6]
  unfold moverG
  by_cases q1 : leadG c = 0
  · rw [if_pos (by simpa using q1), if_pos q1]
  · rw [if_neg (by simpa using q1), if_neg q1]
    by_cases q2 : leadG c = 1
    · rw [if_pos (by simpa using q2), if_pos q2]
    · rw [if_neg (by simpa using q2), if_neg q2]

theorem open_eq (W H : Int) {c : List Int} (hs : c.length ≤ 17592186044416) : gameroomref_OpenPlaces_m W H c = some (c.count 0 : Int) := by
  unfold gameroomref_OpenPlaces_m
  have key : ∃ r, loop (gameroomref_OpenPlaces_L1 c) (0, 0) = some r ∧ r = (c.count 0 : Int) := by
    refine count_loop (step := gameroomref_OpenPlaces_L1 c) (fun (s : Int) (i : Nat) => (s, (i : Int))) (fun i s => s = ((c.take i).count 0 : Int)) (fun r => r = (c.count 0 : Int)) c.length 0 (by simp) ?_ ?_
    · intro i s hi hI
      left
      have hx : c[i]? = some (geti c i) := by rw [List.getElem?_eq_getElem hi]; congr 1; exact (geti_some (List.getElem?_eq_getElem hi)).symm
      have b1 : (c.take i).count 0 ≤ i := by have := List.count_le_length (a := (0 : Int)) (l := c.take i); simp at this; omega
      have e1 : gameroomref_OpenPlaces_L1 c (s, (i : Int)) = gameroomref_OpenPlaces_J2 c s i := if_pos (by simp; omega)
      refine ⟨s + (if geti c i = 0 then 1 else 0), ?_, ?_⟩
      · rw [e1]
        unfold gameroomref_OpenPlaces_J2 gameroomref_OpenPlaces_J3
        rw [asrt_pos (by omega)]
        by_cases q1 : geti c i = 0
        · rw [if_pos (by simpa using q1), if_pos q1, w64_of (x := s + 1) (by omega), w64_of (by omega)]
          simp
        · rw [if_neg (by simpa using q1), if_neg q1, w64_of (by omega)]
          simp
      · rw [count_take hx, hI]
        split <;> omega
    · intro s hI
      refine ⟨s, if_neg (by simp), ?_⟩
      rw [hI, List.take_length]
  obtain ⟨r, hr, rfl⟩ := key
  rw [hr]
  rfl

theorem many_eq {c : List Int} (hs : c.length ≤ 17592186044416) (hv : ∀ x ∈ c, 0 ≤ x ∧ x ≤ 2) : loop (rows_Solve_L1 c) ((List.replicate 3 (0 : Int)), 0) = some [(c.count 0 : Int), (c.count 1 : Int), (c.count 2 : Int)] := by
  have key : ∃ r, loop (rows_Solve_L1 c) ((List.replicate 3 (0 : Int)), 0) = some r ∧ r = [(c.count 0 : Int), (c.count 1 : Int), (c.count 2 : Int)] := by
    refine count_loop (step := rows_Solve_L1 c) (fun (s : List Int) (i : Nat) => (s, (i : Int))) (fun i s => s = [((c.take i).count 0 : Int), ((c.take i).count 1 : Int), ((c.take i).count 2 : Int)]) (fun r => r = [(c.count 0 : Int), (c.count 1 : Int), (c.count 2 : Int)]) c.length (List.replicate 3 (0 : Int)) (by simp [List.replicate]) ?_ ?_
    · intro i s hi hI
      left
      have hx : c[i]? = some (geti c i) := by rw [List.getElem?_eq_getElem hi]; congr 1; exact (geti_some (List.getElem?_eq_getElem hi)).symm
      have hb := hv _ (List.mem_of_getElem? hx)
      have bn : ∀ v : Int, (c.take i).count v ≤ i := by intro v; have := List.count_le_length (a := v) (l := c.take i); simp at this; omega
      have b0 := bn 0
      have b1 := bn 1
      have b2 := bn 2
      have e1 : rows_Solve_L1 c (s, (i : Int)) = rows_Solve_J3 c s i := if_pos (by simp; omega)
      refine ⟨[((c.take (i + 1)).count 0 : Int), ((c.take (i + 1)).count 1 : Int), ((c.take (i + 1)).count 2 : Int)], ?_, rfl⟩
      rw [e1]
      unfold rows_Solve_J3 rows_Solve_J4
      rw [asrt_pos (by omega), asrt_pos (by omega), asrt_pos (by omega), asrt_pos (by rw [hI]; simp; omega), w64_of (x := (i : Int) + 1) (by omega), hI, count_take hx, count_take hx, count_take hx]
      obtain q | q | q : geti c i = 0 ∨ geti c i = 1 ∨ geti c i = 2 := by omega
      · rw [q]
        rw [show geti [((c.take i).count 0 : Int), ((c.take i).count 1 : Int), ((c.take i).count 2 : Int)] 0 = (c.take i).count 0 from rfl, w64_of (by omega)]
        simp
      · rw [q]
        rw [show geti [((c.take i).count 0 : Int), ((c.take i).count 1 : Int), ((c.take i).count 2 : Int)] 1 = (c.take i).count 1 from rfl, w64_of (by omega)]
        simp
      · rw [q]
        rw [show geti [((c.take i).count 0 : Int), ((c.take i).count 1 : Int), ((c.take i).count 2 : Int)] 2 = (c.take i).count 2 from rfl, w64_of (by omega)]
        simp
    · intro s hI
      refine ⟨s, if_neg (by simp), ?_⟩
      rw [hI, List.take_length]
  obtain ⟨r, hr, rfl⟩ := key
  exact hr
end Go.Proofs.Ytbmhcapeikebgaa
