/-
  OthelloPuts: the first board, and the law.
-/
import Derived.Test.YtogecbgngnjhgaaQOd
namespace Go.Proofs.Ytogecbgngnjhgaa
open Go Go.GL

def oddB (n : Int) : Bool := decide (n < 4) || decide ((8 : Int) < n) || (Int.tmod n 2 == 1)
theorem odd_gen (n : Int) : othello_odd_m n = some (oddB n) := by
  unfold oddB
  by_cases h : 4 ≤ n ∧ n ≤ 8
  · rw [odd_eq (by omega), decide_eq_false (p := n < 4) (by omega), decide_eq_false (p := (8 : Int) < n) (by omega), Int.tmod_eq_emod_of_nonneg (by omega)]
    congr 1
    rw [Bool.eq_iff_iff]
    simp only [Bool.not_eq_true', decide_eq_false_iff_not, Bool.or_eq_true, Bool.false_eq_true, false_or, beq_iff_eq]
    omega
  · unfold othello_odd_m
    by_cases h1 : n < 4
    · rw [decide_eq_true h1]; rfl
    · rw [decide_eq_true (show (8 : Int) < n by omega), Bool.or_true]; rfl

def cellN (w h x y : Int) : Int := if (((x == (w64 ((w64 (Int.tdiv w 2)) - 1))) || (x == (w64 (Int.tdiv w 2)))) && ((y == (w64 ((w64 (Int.tdiv h 2)) - 1))) || (y == (w64 (Int.tdiv h 2))))) then (if ((x == (w64 (Int.tdiv w 2))) == (y == (w64 (Int.tdiv h 2)))) then 2 else 1) else 0
def rowN (w h y : Int) (n : Nat) : List Int := (List.range n).map fun (x : Nat) => cellN w h x y
def newL (w h : Int) : List Int := (List.range h.toNat).flatMap fun (y : Nat) => rowN w h y w.toNat

theorem new_r {w h : Int} (hw : 1 ≤ w ∧ w ≤ 8) (hh : 1 ≤ h ∧ h ≤ 8) : gameroomref_OthelloNew_m w h = some (w, h, newL w h) := by
  unfold gameroomref_OthelloNew_m
  have row : ∀ (g : List Int) (y : Int), (g.length : Int) ≤ 100 → loop (gameroomref_OthelloNew_L2 w h y) (g, 0) = some (g ++ rowN w h y w.toNat) := by
    intro g y hg
    have key := count_loop (step := gameroomref_OthelloNew_L2 w h y) (fun (s : List Int) (i : Nat) => (s, (i : Int))) (fun n s => s = g ++ rowN w h y n) (fun r => r = g ++ rowN w h y w.toNat) w.toNat g (by simp [rowN]) (by
      rintro i s hi rfl
      left
      refine ⟨g ++ rowN w h y (i + 1), ?_, rfl⟩
      have e : gameroomref_OthelloNew_L2 w h y (g ++ rowN w h y i, (i : Int)) = gameroomref_OthelloNew_J4 w h y (g ++ rowN w h y i) i := if_pos (decide_eq_true (by omega))
      have e2 : ∀ v, gameroomref_OthelloNew_J6 (g ++ rowN w h y i) i v = some (.next (g ++ rowN w h y i ++ [v], ((i + 1 : Nat) : Int))) := by
        intro v
        unfold gameroomref_OthelloNew_J6 gameroomref_OthelloNew_J5
        rw [asrt_pos (by unfold bigN rowN; simp; omega), w64_of (by omega)]; rfl
      have e3 : rowN w h y (i + 1) = rowN w h y i ++ [cellN w h i y] := by
        unfold rowN
        rw [List.range_succ, List.map_append]; rfl
      rw [e, e3]
      unfold gameroomref_OthelloNew_J4 cellN
      simp only [e2]
      split
      · split <;> simp
      · simp) (by
      rintro s rfl
      refine ⟨_, ?_, rfl⟩
      simp only [gameroomref_OthelloNew_L2]
      rw [if_neg (by simp; omega)])
    obtain ⟨r, hr, rfl⟩ := key
    exact hr
  have key := count_loop (step := gameroomref_OthelloNew_L1 w h) (fun (s : List Int) (i : Nat) => (s, (i : Int))) (fun n s => s = (List.range n).flatMap (fun (y : Nat) => rowN w h y w.toNat) ∧ s.length ≤ 8 * n) (fun r => r = newL w h) h.toNat [] ⟨rfl, by simp⟩ (by
    rintro i s hi ⟨rfl, hl⟩
    left
    refine ⟨(List.range (i + 1)).flatMap (fun (y : Nat) => rowN w h y w.toNat), ?_, rfl, ?_⟩
    · simp only [gameroomref_OthelloNew_L1]
      rw [if_pos (decide_eq_true (by omega))]
      unfold gameroomref_OthelloNew_J2
      rw [row _ _ (by omega), Option.bind_some]
      simp only [gameroomref_OthelloNew_K2, gameroomref_OthelloNew_J3]
      rw [w64_of (by omega), List.range_succ, List.flatMap_append]
      simp
    · rw [List.range_succ, List.flatMap_append, List.length_append]
      have : ([i].flatMap (fun (y : Nat) => rowN w h y w.toNat)).length ≤ 8 := by simp [rowN]; omega
      omega) (by
    rintro s ⟨rfl, hl⟩
    refine ⟨_, ?_, rfl⟩
    simp only [gameroomref_OthelloNew_L1]
    rw [if_neg (by simp; omega)]; rfl)
  obtain ⟨r, hr, rfl⟩ := key
  have hr' : loop (gameroomref_OthelloNew_L1 w h) ([], 0) = _ := hr
  rw [hr']
  rfl

theorem even3 {n : Int} (h : oddB n = false) : n = 4 ∨ n = 6 ∨ n = 8 := by
  unfold oddB at h
  rw [Bool.or_eq_false_iff, Bool.or_eq_false_iff, decide_eq_false_iff_not, decide_eq_false_iff_not] at h
  have h2 : Int.tmod n 2 ≠ 1 := by
    intro q
    have := h.2
    rw [q] at this
    cases this
  rw [Int.tmod_eq_emod_of_nonneg (by omega)] at h2
  omega

theorem new_p {w h : Int} (hw : oddB w = false) (hh : oddB h = false) : othello_New_m w h = some (w, h, newL w h, 0) := by
  unfold othello_New_m
  rw [odd_gen, odd_gen, hw, hh]
  simp only [Option.bind_some, Bool.not_false, if_true, Bool.or_self, Bool.false_eq_true, if_false]
  unfold othello_New_J1 othello_New_J2 othello_New_J3
  rcases even3 hw with rfl | rfl | rfl <;> rcases even3 hh with rfl | rfl | rfl
  all_goals
    rw [asrt_pos (by unfold bigN; decide), asrt_pos (by decide), asrt_pos (by decide), asrt_pos (by decide), asrt_pos (by decide)]
    decide +kernel

theorem newL_len (w h : Int) (hw : oddB w = false) (hh : oddB h = false) : (newL w h).length ≤ 64 := by
  rcases even3 hw with rfl | rfl | rfl <;> rcases even3 hh with rfl | rfl | rfl <;> decide +kernel

theorem sameGrid_refl (W H : Int) {c : List Int} (hl : c.length ≤ 17592186044416) : gameroomref_SameGrid_m W H c W H c = some true := by
  unfold gameroomref_SameGrid_m
  simp only [beq_self_eq_true, Bool.and_self, if_true]
  rw [sameInts_r hl, decide_eq_true rfl]
  rfl

section
variable {W H : Int} {c : List Int} {who : Int}

theorem next_r (B : Dm W H c) (hw : who = 1 ∨ who = 2) : gameroomref_OthelloNext_m W H c who = some (nextW W H c (3 - who)) := by
  unfold gameroomref_OthelloNext_m gameroomref_OthelloNext_J1 gameroomref_OthelloNext_J2 nextW
  rw [w64_of (x := 3 - who) (by omega), places_r B (by omega), places_r B hw, Option.bind_some, Option.bind_some, show 3 - (3 - who) = who by omega]
  by_cases q0 : plcs W H c (3 - who) c.length = []
  · rw [q0, if_neg (show ¬ decide ((0 : Int) < (([] : List Int).length : Int)) = true by simp), if_neg (show ¬ (([] : List Int) ≠ []) by simp)]
    by_cases q1 : plcs W H c who c.length = []
    · rw [q1, if_neg (show ¬ decide ((0 : Int) < (([] : List Int).length : Int)) = true by simp), if_neg (show ¬ (([] : List Int) ≠ []) by simp)]
    · have := List.length_pos_iff.2 q1
      rw [if_pos (decide_eq_true (by omega)), if_pos q1]
  · have := List.length_pos_iff.2 q0
    rw [if_pos (decide_eq_true (by omega)), if_pos q0]

theorem put_law (B : Dm W H c) (hw : who = 1 ∨ who = 2) (place : Int) : ∃ r5, othello_Put_J1 W H c who place = some r5 ∧ gameroomlaw_OthelloPuts_J5 W H c who place r5 = some true := by
  have hsm := B.small
  unfold othello_Put_J1 gameroomlaw_OthelloPuts_J5
  by_cases h1 : ((decide (place < 0)) || (decide ((c.length : Int) ≤ place))) = true
  · simp only [if_pos h1]
    exact ⟨_, rfl, rfl⟩
  · simp only [if_neg h1]
    simp only [Bool.or_eq_true, decide_eq_true_eq, not_or] at h1
    have hp : 0 ≤ place ∧ place < c.length := by omega
    rw [turned_eq B hw hp, Option.bind_some]
    unfold gameroomlaw_OthelloPuts_J7
    rw [putSign_eq B hw hp]
    simp only [Option.bind_some]
    by_cases hm : mayP W H c who place
    · have h2 : turnL W H c who place D2 ≠ [] := fun h => hm.2 (nil_iff.2 h)
      have l1 := List.length_pos_iff.2 hm.2
      have l2 := List.length_pos_iff.2 h2
      rw [if_pos hm.1, if_neg (by rw [beq_iff_eq]; omega)]
      unfold othello_Put_J2
      rw [put_p B hw hp hm, Option.bind_some]
      refine ⟨_, rfl, ?_⟩
      rw [if_pos hm.1, if_neg (by rw [beq_iff_eq]; omega), if_pos ⟨hm.1, h2⟩]
      unfold gameroomlaw_OthelloPuts_J8
      simp only [beq_self_eq_true, if_true]
      rw [show (setAll c (turnL W H c who place D2) who).set place.toNat who = putB W H c who place from rfl, sameGrid_refl W H (by rw [putB_len]; omega)]
      rfl
    · have e1 : (((if geti c place = 0 then turnL W H c who place D1 else []).length : Int) == 0) = true := by
        by_cases h0 : geti c place = 0
        · rw [if_pos h0]
          have : turnL W H c who place D1 = [] := Classical.byContradiction fun q => hm ⟨h0, q⟩
          rw [this]; rfl
        · rw [if_neg h0]; rfl
      have e2 : ((if geti c place = 0 then ((turnL W H c who place D2).length : Int) else 0) == 0) = true := by
        by_cases h0 : geti c place = 0
        · rw [if_pos h0]
          have : turnL W H c who place D2 = [] := nil_iff.1 (Classical.byContradiction fun q => hm ⟨h0, q⟩)
          rw [this]; rfl
        · rw [if_neg h0]; rfl
      rw [if_pos e1]
      refine ⟨_, rfl, ?_⟩
      rw [if_pos e2]
      rfl
end

theorem true_OthelloPuts (W H : Int) (c : List Int) (who place w h : Int) (_hw : inI W) (_hh : inI H) (hl : c.length ≤ 17592186043904) (_hy : ∀ y ∈ c, inI y) (_h1 : inI who) (_h2 : inI place) (_h3 : inI w) (_h4 : inI h) : gameroomlaw_OthelloPuts_m W H c who place w h = some true := by
  have hl' : c.length ≤ 17592186044416 := by omega
  have hgo : gameroomref_GridOf_m W H c = some (W, H, c) := by
    unfold gameroomref_GridOf_m gameroomref_Ints_m
    rw [asrt_pos (by unfold bigN; omega), Option.bind_some, List.nil_append]
  have tail : ∃ r3 r5 r7, othello_Places_m W H c who = some r3 ∧ othello_Put_m W H c who place = some r5 ∧ othello_Next_m W H c who = some r7 ∧ gameroomlaw_OthelloPuts_J1 W H c who place r3 r5 r7 = some true := by
    unfold othello_Places_m othello_Put_m othello_Next_m gameroomlaw_OthelloPuts_J1
    rw [check_o W H hl' who, may_o W H hl']
    simp only [Option.bind_some]
    by_cases q1 : okO W H c = true
    · rw [q1]
      simp only [if_true, Bool.not_true, Bool.false_eq_true, if_false]
      have hg : okG W H c = true := by
        unfold okO at q1
        rw [Bool.and_eq_true, Bool.and_eq_true] at q1
        exact q1.1.1
      obtain ⟨d1, d2, d3, d4, d5⟩ := okG_dim hg
      have B : Dm W H c := ⟨⟨d1, d2⟩, ⟨d3, d4⟩, d5⟩
      have hsm := B.small
      by_cases q2 : who = 1 ∨ who = 2
      · have e2 : ¬ (who != 1 && who != 2) = true := by simp; omega
        rw [if_pos q2, if_neg (by decide), if_neg (by decide), if_neg (by decide)]
        simp only [if_neg e2]
        obtain ⟨r5, p1, p2⟩ := put_law B q2 place
        unfold othello_Places_J1 othello_Next_J1
        rw [places_p B q2, Option.bind_some, p1, w64_of (x := 3 - who) (by omega), mover_p B (who := 3 - who) (by omega), Option.bind_some]
        refine ⟨_, _, _, rfl, rfl, rfl, ?_⟩
        unfold gameroomlaw_OthelloPuts_J3
        rw [if_neg (by decide)]
        unfold gameroomlaw_OthelloPuts_J4
        simp only
        rw [if_neg (by decide), places_r B q2, Option.bind_some, if_pos (by decide), sameInts_eq (by have := plcs_len (W := W) (H := H) (c := c) (who := who) c.length; omega), decide_eq_true rfl, Option.bind_some, if_pos (by decide), next_r B q2, Option.bind_some]
        unfold gameroomlaw_OthelloPuts_J6
        rw [if_neg (by simp)]
        exact p2
      · have e2 : (who != 1 && who != 2) = true := by simp; omega
        rw [if_neg q2, if_pos (by decide), if_pos (by decide), if_pos (by decide)]
        simp only [if_pos e2]
        exact ⟨_, _, _, rfl, rfl, rfl, rfl⟩
    · rw [Bool.not_eq_true] at q1
      rw [q1]
      exact ⟨_, _, _, rfl, rfl, rfl, rfl⟩
  obtain ⟨r3, r5, r7, t1, t2, t3, t4⟩ := tail
  unfold gameroomlaw_OthelloPuts_m
  rw [hgo]
  simp only [Option.bind_some, t1, t2, t3]
  have cond : ((((((decide (w < 4)) || (decide ((8 : Int) < w))) || (decide (h < 4))) || (decide ((8 : Int) < h))) || ((Int.tmod w 2) == 1)) || ((Int.tmod h 2) == 1)) = (oddB w || oddB h) := by
    unfold oddB
    cases decide (w < 4) <;> cases decide ((8 : Int) < w) <;> cases decide (h < 4) <;> cases decide ((8 : Int) < h) <;> cases (Int.tmod w 2 == 1) <;> cases (Int.tmod h 2 == 1) <;> rfl
  rw [cond]
  by_cases q : (oddB w || oddB h) = true
  · have hn : othello_New_m w h = some (0, 0, [], 3) := by
      unfold othello_New_m
      rw [odd_gen, odd_gen]
      cases q3 : oddB w with
      | true => rfl
      | false =>
        rw [q3, Bool.false_or] at q
        rw [q]; rfl
    rw [hn, Option.bind_some, if_pos q]
    exact t4
  · rw [Bool.not_eq_true, Bool.or_eq_false_iff] at q
    have h3 := even3 q.1
    have h4 := even3 q.2
    rw [new_p q.1 q.2, Option.bind_some, q.1, q.2, if_neg (by decide)]
    simp only
    rw [if_neg (by decide), new_r (by omega) (by omega), Option.bind_some, if_pos (by decide)]
    simp only
    rw [sameGrid_refl w h (by have := newL_len w h q.1 q.2; omega), Option.bind_some]
    unfold gameroomlaw_OthelloPuts_J2
    rw [if_neg (by decide)]
    exact t4
end Go.Proofs.Ytogecbgngnjhgaa
