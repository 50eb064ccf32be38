/-
  Four: what a board may be, and who is to move.
-/
import Derived.Test.YtogecbgngnjhgaaGFa
namespace Go.Proofs.Ytogecbgngnjhgaa
open Go Go.GL

def offG (x : Int) : Bool := decide (x < 0) || decide ((2 : Int) < x)
theorem offG_in (x : Int) : offG x = !(decide (0 ≤ x) && decide (x ≤ 2)) := by
  unfold offG
  by_cases h1 : 0 ≤ x <;> by_cases h2 : x ≤ 2 <;> simp [h1, h2, Int.not_lt.2] <;> omega

theorem indexFunc_g {s : List Int} (hs : s.length ≤ 17592186044416) : slices_IndexFunc_m s = some (fidx offG s) := by
  unfold slices_IndexFunc_m
  rw [search_loop (l := s) offG (fun i => Fl.ret (i : Int)) (Fl.go ()) ?_ ?_ ?_]
  · unfold fidx
    cases s.findIdx? offG <;> rfl
  · intro i x hx hp
    have hb := idx_bd hx
    simp only [slices_IndexFunc_L1, slices_IndexFunc_J2]
    rw [if_pos (by simpa using hb.2), asrt_pos hb, geti_some hx]
    simp only [rows_May_1_m, Option.bind_some]
    exact if_pos hp
  · intro i x hx hp
    have hb := idx_bd hx
    simp only [slices_IndexFunc_L1, slices_IndexFunc_J2]
    rw [if_pos (by simpa using hb.2), asrt_pos hb, geti_some hx]
    simp only [rows_May_1_m, Option.bind_some]
    rw [if_neg (by unfold offG at hp; rw [hp]; simp)]
    simp only [slices_IndexFunc_J3]
    rw [w64_succ (by omega)]
  · simp only [slices_IndexFunc_L1]
    rw [if_neg (by simp)]

def dimG (W H : Int) (c : List Int) : Prop := 1 ≤ W ∧ W ≤ 10 ∧ 1 ≤ H ∧ H ≤ 10 ∧ (c.length : Int) = W * H
instance (W H : Int) (c : List Int) : Decidable (dimG W H c) := by unfold dimG; infer_instance
def okG (W H : Int) (c : List Int) : Bool := decide (dimG W H c) && !c.any offG

theorem dim_b (W H : Int) (c : List Int) : (((((decide ((1 : Int) ≤ W)) && (decide (W ≤ 10))) && (decide ((1 : Int) ≤ H))) && (decide (H ≤ 10))) && ((c.length : Int) == (w64 (W * H)))) = decide (dimG W H c) := by
  unfold dimG
  by_cases h : 1 ≤ W ∧ W ≤ 10 ∧ 1 ≤ H ∧ H ≤ 10
  · have hm := mul_bd' (b := W) (W := H) (by omega) (by omega)
    rw [w64_of (by omega), Bool.eq_iff_iff]
    simp only [Bool.and_eq_true, decide_eq_true_eq, beq_iff_eq, and_assoc]
    exact decide_eq_true_iff.symm
  · rw [decide_eq_false (p := 1 ≤ W ∧ W ≤ 10 ∧ 1 ≤ H ∧ H ≤ 10 ∧ (c.length : Int) = W * H) (fun h2 => h ⟨h2.1, h2.2.1, h2.2.2.1, h2.2.2.2.1⟩)]
    rw [Bool.and_eq_false_iff]
    left
    simp only [← Bool.decide_and, decide_eq_false_iff_not]
    omega

theorem may_p (W H : Int) {c : List Int} (hs : c.length ≤ 17592186044416) : rows_May_m W H c = some (okG W H c) := by
  unfold rows_May_m
  rw [dim_b]
  unfold okG
  by_cases h : dimG W H c
  · rw [decide_eq_true h, if_pos rfl]
    unfold slices_ContainsFunc_m
    rw [indexFunc_g hs]
    simp only [Option.bind_some, Bool.true_and]
    congr 2
    rw [Bool.eq_iff_iff, decide_eq_true_eq]
    exact fidx_neg offG c
  · rw [decide_eq_false h, if_neg (by decide)]
    rfl

theorem gridMay_eq (W H : Int) {c : List Int} (hs : c.length ≤ 17592186044416) : gameroomref_GridMay_m W H c = some (okG W H c) := by
  unfold gameroomref_GridMay_m gameroomref_within_m okG
  have hd := dim_b W H c
  by_cases h : dimG W H c
  · have h' := h
    obtain ⟨h1, h2, h3, h4, h5⟩ := h'
    have hm := mul_bd' (b := W) (W := H) (by omega) (by omega)
    rw [decide_eq_true h1, decide_eq_true h2, decide_eq_true h3, decide_eq_true h4, decide_eq_true h, w64_of (x := W * H) (by omega), ← h5]
    simp only [Option.bind_some, Bool.and_self, Bool.not_true, Bool.not_false, if_true, Bool.or_false, bne_self_eq_false, Bool.false_eq_true, if_false, Bool.true_and]
    unfold gameroomref_GridMay_J1
    rw [search_loop (l := c) offG (fun _ => Fl.ret false) (Fl.go ()) ?_ ?_ ?_]
    · have hn := fidx_neg offG c
      unfold fidx at hn
      cases hf : c.findIdx? offG with
      | none =>
        rw [hf] at hn
        have : c.any offG = false := by
          rw [Bool.eq_false_iff]
          intro h; have := hn.2 h; simp at this
        rw [this]; rfl
      | some i =>
        rw [hf] at hn
        have : c.any offG = true := hn.1 (by simp)
        rw [this]; rfl
    · intro i x hx hp
      have hb := idx_bd hx
      simp only [gameroomref_GridMay_L1, gameroomref_GridMay_J3]
      rw [if_pos (by simpa using hb.2), asrt_pos hb, geti_some hx]
      simp only [gameroomref_within_m, Option.bind_some]
      rw [if_pos (by rw [← offG_in]; exact hp)]
    · intro i x hx hp
      have hb := idx_bd hx
      simp only [gameroomref_GridMay_L1, gameroomref_GridMay_J3]
      rw [if_pos (by simpa using hb.2), asrt_pos hb, geti_some hx]
      simp only [gameroomref_within_m, Option.bind_some]
      rw [if_neg (by rw [← offG_in, hp]; simp)]
      simp only [gameroomref_GridMay_J4]
      rw [w64_succ (by omega)]
    · simp only [gameroomref_GridMay_L1]
      rw [if_neg (by simp)]
  · rw [decide_eq_false h] at hd ⊢
    simp only [Option.bind_some, Bool.not_not, Bool.false_and]
    by_cases q1 : (decide ((1 : Int) ≤ W) && decide (W ≤ 10)) = true
    · rw [q1] at hd ⊢
      simp only [if_true, Option.bind_some, Bool.not_true, Bool.false_or]
      rw [if_pos]
      rw [Bool.true_and] at hd
      rw [Bool.or_eq_true]
      by_cases q2 : (decide ((1 : Int) ≤ H) && decide (H ≤ 10)) = true
      · right
        rw [q2, Bool.true_and] at hd
        simpa using hd
      · left
        rw [Bool.not_eq_true] at q2
        rw [q2]; rfl
    · rw [Bool.not_eq_true] at q1
      rw [q1]
      simp


theorem count_take {c : List Int} {i : Nat} {x v : Int} (h : c[i]? = some x) : (c.take (i + 1)).count v = (c.take i).count v + if x = v then 1 else 0 := by
  rw [List.take_add_one, h, List.count_append]
  simp [List.count_cons]

def leadG (c : List Int) : Int := (c.count 1 : Int) - c.count 2
def moverG (c : List Int) : Int := if leadG c = 0 then 1 else if leadG c = 1 then 2 else 0

theorem mover_eq (W H : Int) {c : List Int} (hs : c.length ≤ 17592186044416) : gameroomref_GridMover_m W H c = some (moverG c) := by
  unfold gameroomref_GridMover_m
  have key : ∃ r, loop (gameroomref_GridMover_L1 c) (0, 0) = some r ∧ r = leadG c := by
    refine count_loop (step := gameroomref_GridMover_L1 c) (fun (s : Int) (i : Nat) => (s, (i : Int))) (fun i s => s = ((c.take i).count 1 : Int) - (c.take i).count 2) (fun r => r = leadG c) c.length 0 (by simp) ?_ ?_
    · intro i s hi hI
      left
      have hx : c[i]? = some (geti c i) := by rw [List.getElem?_eq_getElem hi]; congr 1; exact (geti_some (List.getElem?_eq_getElem hi)).symm
      have b1 : (c.take i).count 1 ≤ i := by have := List.count_le_length (a := (1 : Int)) (l := c.take i); simp at this; omega
      have b2 : (c.take i).count 2 ≤ i := by have := List.count_le_length (a := (2 : Int)) (l := c.take i); simp at this; omega
      have e1 : gameroomref_GridMover_L1 c (s, (i : Int)) = gameroomref_GridMover_J2 c s i := if_pos (by simp; omega)
      refine ⟨s + (if geti c i = 1 then 1 else 0) - (if geti c i = 2 then 1 else 0), ?_, ?_⟩
      · rw [e1]
        unfold gameroomref_GridMover_J2 gameroomref_GridMover_J4 gameroomref_GridMover_J3
        rw [asrt_pos (by omega)]
        by_cases q1 : geti c i = 1
        · rw [if_pos (by simpa using q1), asrt_pos (by omega), if_neg (by simp; omega), if_pos q1, if_neg (by omega), w64_of (x := s + 1) (by omega), w64_of (by omega)]
          simp
        · rw [if_neg (by simpa using q1), asrt_pos (by omega), if_neg q1]
          by_cases q2 : geti c i = 2
          · rw [if_pos (by simpa using q2), if_pos q2, w64_of (x := s - 1) (by omega), w64_of (by omega)]
            simp
          · rw [if_neg (by simpa using q2), if_neg q2, w64_of (by omega)]
            simp
      · rw [count_take hx, count_take hx, hI]
        split <;> split <;> omega
    · intro s hI
      refine ⟨s, if_neg (by simp), ?_⟩
      rw [hI, List.take_length]; rfl
  obtain ⟨r, hr, rfl⟩ := key
  rw [hr]
  simp only [Option.bind_some, gameroomref_GridMover_K1, gameroomref_GridMover_J1, gameroomref_GridMover_J5, gameroomref_GridMover_J6]
  unfold moverG
  by_cases q1 : leadG c = 0
  · rw [if_pos (by simpa using q1), if_pos q1]
  · rw [if_neg (by simpa using q1), if_neg q1]
    by_cases q2 : leadG c = 1
    · rw [if_pos (by simpa using q2), if_pos q2]
    · rw [if_neg (by simpa using q2), if_neg q2]


def wellP (W : Int) (c : List Int) : Prop := ∀ i : Nat, (i : Int) + W < c.length → geti c i ≠ 0 → geti c ((i : Int) + W) ≠ 0
open Classical in
noncomputable def okW (W H : Int) (c : List Int) : Bool := okG W H c && decide (wellP W c)

theorem okG_dim {W H : Int} {c : List Int} (h : okG W H c = true) : dimG W H c := by
  unfold okG at h
  rw [Bool.and_eq_true] at h
  exact of_decide_eq_true h.1
theorem okG_dm {W H : Int} {c : List Int} (h : okG W H c = true) : Dm W H c := by
  obtain ⟨h1, h2, h3, h4, h5⟩ := okG_dim h
  exact ⟨⟨h1, h2⟩, ⟨h3, h4⟩, h5⟩
theorem okG_in {W H : Int} {c : List Int} (h : okG W H c = true) (i : Nat) (hi : i < c.length) : 0 ≤ geti c i ∧ geti c i ≤ 2 := by
  unfold okG at h
  rw [Bool.and_eq_true, Bool.not_eq_true'] at h
  have hx := List.any_eq_false.1 h.2 (geti c i) (List.mem_of_getElem? (get_geti hi))
  unfold offG at hx
  simp only [Bool.or_eq_true, decide_eq_true_eq, not_or] at hx
  omega

open Classical in
theorem wellMay_r (W H : Int) {c : List Int} (hs : c.length ≤ 17592186044416) : gameroomref_WellMay_m W H c = some (okW W H c) := by
  unfold gameroomref_WellMay_m okW
  rw [gridMay_eq W H hs]
  by_cases h : okG W H c = true
  · have B := okG_dm h
    have hW := B.w
    have hsm := B.small
    rw [h]
    simp only [Option.bind_some, Bool.not_true, Bool.false_eq_true, if_false, Bool.true_and]
    unfold gameroomref_WellMay_J1
    have key := count_loop (step := gameroomref_WellMay_L1 W c) (fun (_ : Unit) (i : Nat) => (i : Int)) (fun n _ => ∀ i : Nat, i < n → (i : Int) + W < c.length → geti c i ≠ 0 → geti c ((i : Int) + W) ≠ 0)
      (fun r => r = (if wellP W c then .go () else .ret false)) c.length () (fun i hi => by omega) (by
        rintro i - hi hI
        simp only [gameroomref_WellMay_L1]
        rw [w64_of (x := (i : Int) + W) (by omega)]
        by_cases h1 : (i : Int) + W < c.length
        · rw [if_pos (decide_eq_true h1)]
          unfold gameroomref_WellMay_J3 gameroomref_WellMay_J4
          rw [asrt_pos (by omega), w64_of (x := (i : Int) + W) (by omega), asrt_pos (fun _ => by omega), w64_of (x := (i : Int) + 1) (by omega)]
          by_cases h2 : geti c i ≠ 0 ∧ geti c ((i : Int) + W) = 0
          · right
            refine ⟨.ret false, ?_, ?_⟩
            · rw [if_pos]
              simp only [Bool.and_eq_true, bne_iff_ne, beq_iff_eq]
              exact h2
            · rw [if_neg (fun hp => hp i h1 h2.1 h2.2)]
          · left
            refine ⟨(), ?_, fun j hj g1 g2 g3 => ?_⟩
            · rw [if_neg]
              · rfl
              · simp only [Bool.and_eq_true, bne_iff_ne, beq_iff_eq]
                exact h2
            · by_cases e : j = i
              · subst e; exact h2 ⟨g2, g3⟩
              · exact hI j (by omega) g1 g2 g3
        · right
          refine ⟨.go (), by rw [if_neg (by simpa using h1)], ?_⟩
          rw [if_pos]
          intro j g1 g2
          exact hI j (by omega) g1 g2) (by
        rintro - hI
        refine ⟨.go (), ?_, ?_⟩
        · simp only [gameroomref_WellMay_L1]
          rw [w64_of (x := (c.length : Int) + W) (by omega), if_neg (by simp; omega)]
        · rw [if_pos]
          intro j g1 g2
          exact hI j (by omega) g1 g2)
    obtain ⟨r, hr, rfl⟩ := key
    have hr' : loop (gameroomref_WellMay_L1 W c) 0 = _ := hr
    rw [hr', Option.bind_some]
    by_cases h2 : wellP W c
    · rw [if_pos h2, decide_eq_true h2]; rfl
    · rw [if_neg h2, decide_eq_false h2]; rfl
  · rw [Bool.not_eq_true] at h
    rw [h]
    rfl

open Classical in
theorem opened_p (W H : Int) {c : List Int} (hs : c.length ≤ 17592186044416) : ∃ m, four_opened_m W H c = some (if okW W H c = true then .ret (W, H, c, m) else .go ()) := by
  unfold four_opened_m okW
  rw [may_p W H hs]
  by_cases h : okG W H c = true
  · have B := okG_dm h
    have hin := okG_in h
    have hW := B.w
    have hsm := B.small
    rw [h]
    simp only [Option.bind_some, Bool.not_true, Bool.false_eq_true, if_false, Bool.true_and]
    unfold four_opened_J1 slices_Clone_m slices_Clone_J1
    rw [asrt_pos (by unfold bigN; omega), Option.bind_some, List.nil_append]
    unfold four_opened_J2
    have key := count_loop (step := four_opened_L1 W c) (fun (s : Int) (i : Nat) => (s, (i : Int))) (fun n s => (0 ≤ s ∧ s ≤ n) ∧ ∀ i : Nat, i < n → (i : Int) + W < c.length → geti c i ≠ 0 → geti c ((i : Int) + W) ≠ 0)
      (fun r => (wellP W c ∧ ∃ m, r = .go m) ∨ (¬ wellP W c ∧ r = .ret (.go ()))) c.length 0 ⟨by omega, fun i hi => by omega⟩ (by
        rintro i s hi ⟨hI1, hI⟩
        have hci := hin i hi
        have e : four_opened_L1 W c (s, (i : Int)) = four_opened_J4 W c s i := if_pos (decide_eq_true (by omega))
        rw [e]
        unfold four_opened_J4 four_opened_J5
        rw [asrt_pos (by omega), w64_of (x := (i : Int) + W) (by omega), w64_of (x := (i : Int) + 1) (by omega), w64_of (x := s + 1) (by omega)]
        by_cases h0 : 0 < geti c i
        · rw [if_pos (decide_eq_true h0), asrt_pos (fun q => by have := of_decide_eq_true q; omega)]
          by_cases h2 : (i : Int) + W < c.length ∧ geti c ((i : Int) + W) = 0
          · right
            refine ⟨.ret (.go ()), ?_, Or.inr ⟨fun hp => hp i h2.1 (by omega) h2.2, rfl⟩⟩
            rw [if_pos]
            simp only [Bool.and_eq_true, decide_eq_true_eq, beq_iff_eq]
            exact h2
          · left
            refine ⟨s + 1, ?_, by omega, fun j hj g1 g2 g3 => ?_⟩
            · rw [if_neg]
              · rfl
              · simp only [Bool.and_eq_true, decide_eq_true_eq, beq_iff_eq]
                exact h2
            · by_cases e : j = i
              · subst e; exact h2 ⟨g1, g3⟩
              · exact hI j (by omega) g1 g2 g3
        · left
          rw [if_neg (by simpa using h0)]
          refine ⟨s, rfl, by omega, fun j hj g1 g2 g3 => ?_⟩
          by_cases e : j = i
          · subst e; omega
          · exact hI j (by omega) g1 g2 g3) (by
        rintro s ⟨hI1, hI⟩
        refine ⟨.go s, ?_, Or.inl ⟨fun j g1 g2 => hI j (by omega) g1 g2, s, rfl⟩⟩
        simp only [four_opened_L1]
        rw [if_neg (by simp)])
    obtain ⟨r, hr, hp⟩ := key
    have hr' : loop (four_opened_L1 W c) (0, 0) = _ := hr
    rw [hr', Option.bind_some]
    rcases hp with ⟨h2, m, rfl⟩ | ⟨h2, rfl⟩
    · rw [decide_eq_true h2]
      exact ⟨m, rfl⟩
    · rw [decide_eq_false h2]
      exact ⟨0, rfl⟩
  · rw [Bool.not_eq_true] at h
    rw [h]
    exact ⟨0, rfl⟩

theorem mover_f {W H : Int} {c : List Int} (h : okG W H c = true) (k m : Int) : four_well_mover_m W H c k m = some (moverG c) := by
  have B := okG_dm h
  have hin := okG_in h
  have hsm := B.small
  unfold four_well_mover_m
  have key : ∃ r, loop (four_well_mover_L1 c) (0, 0) = some r ∧ r = leadG c ∧ -300 ≤ r ∧ r ≤ 300 := by
    refine count_loop (step := four_well_mover_L1 c) (fun (s : Int) (i : Nat) => (s, (i : Int))) (fun i s => s = ((c.take i).count 1 : Int) - (c.take i).count 2) (fun r => r = leadG c ∧ -300 ≤ r ∧ r ≤ 300) c.length 0 (by simp) ?_ ?_
    · intro i s hi hI
      left
      have hx : c[i]? = some (geti c i) := get_geti hi
      have hci := hin i hi
      have b1 : (c.take i).count 1 ≤ i := by have := List.count_le_length (a := (1 : Int)) (l := c.take i); simp at this; omega
      have b2 : (c.take i).count 2 ≤ i := by have := List.count_le_length (a := (2 : Int)) (l := c.take i); simp at this; omega
      have e1 : four_well_mover_L1 c (s, (i : Int)) = four_well_mover_J2 c s i := if_pos (by simp; omega)
      refine ⟨s + (if geti c i = 1 then 1 else 0) - (if geti c i = 2 then 1 else 0), ?_, ?_⟩
      · rw [e1]
        unfold four_well_mover_J2 four_well_mover_J3
        rw [asrt_pos (by omega), asrt_pos (by omega), w64_of (x := (i : Int) + 1) (by omega)]
        obtain q | q | q : geti c i = 0 ∨ geti c i = 1 ∨ geti c i = 2 := by omega
        · rw [q, if_neg (by decide), if_neg (by decide), show geti ([0, 1, (-1)] : List Int) 0 = 0 from rfl, w64_of (by omega)]; simp
        · rw [q, if_pos rfl, if_neg (by decide), show geti ([0, 1, (-1)] : List Int) 1 = 1 from rfl, w64_of (by omega)]; simp
        · rw [q, if_neg (by decide), if_pos rfl, show geti ([0, 1, (-1)] : List Int) 2 = -1 from rfl, w64_of (by omega)]; simp [Int.sub_eq_add_neg]
      · rw [count_take hx, count_take hx, hI]
        split <;> split <;> omega
    · intro s hI
      have b1 : (c.take c.length).count 1 ≤ c.length := by have := List.count_le_length (a := (1 : Int)) (l := c.take c.length); simp at this ⊢; omega
      have b2 : (c.take c.length).count 2 ≤ c.length := by have := List.count_le_length (a := (2 : Int)) (l := c.take c.length); simp at this ⊢; omega
      refine ⟨s, if_neg (by simp), ?_, by omega, by omega⟩
      rw [hI, List.take_length]; rfl
  obtain ⟨r, hr, hrl, hb⟩ := key
  rw [hr]
  subst hrl
  simp only [Option.bind_some, four_well_mover_K1, four_well_mover_J1, four_well_mover_J4]
  unfold moverG
  by_cases q : leadG c < 0 ∨ 1 < leadG c
  · rw [if_pos (by simpa using q), if_neg (by omega), if_neg (by omega)]
  · rw [if_neg (by simpa using q), w64_of (by omega)]
    by_cases q1 : leadG c = 0
    · rw [if_pos q1, q1]; rfl
    · rw [if_neg q1, if_pos (by omega), show leadG c = 1 by omega]; rfl
end Go.Proofs.Ytogecbgngnjhgaa
