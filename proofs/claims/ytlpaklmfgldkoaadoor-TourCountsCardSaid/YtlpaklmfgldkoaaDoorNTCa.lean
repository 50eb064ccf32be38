/-
  Models and walks, printed by our own program (wip/gen).
-/
import Derived.Test.YtlpaklmfgldkoaaDoorFB
import Derived.Test.YtlpaklmfgldkoaaDoorLibD
import Derived.Test.YtlpaklmfgldkoaaDoorLibBg
import Derived.Test.YtlpaklmfgldkoaaDoorLibGl
namespace Go.Proofs.YtlpaklmfgldkoaaDoor
open Go Go.GL Go.RowKit




/-- What a variable holds. -/
def glob0 : List Int := [-1, -2, 1, -2, -2, -1, 2, -1, -2, 1, 2, 1, -1, 2, 1, 2]

noncomputable def tour_newField_J6  (z2 : Int) (f5 : List (List Int)) : Option (St (List (List Int) × Int) (List (List Int))) :=
  some (.next (f5, (w64 (z2 + 1))))

noncomputable def tour_newField_J5  (w1 : Int) (h1 : Int) (z1 : Int) (f3 : List (List Int)) (z2 : Int) : Option (St (List (List Int) × Int) (List (List Int))) :=
  asrt (0 ≤ z2 ∧ z2 < 8) <| if ((((decide ((0 : Int) ≤ (w64 ((Int.tmod z1 w1) + (geti glob0 (z2 * 2)))))) && (decide ((w64 ((Int.tmod z1 w1) + (geti glob0 (z2 * 2)))) < w1))) && (decide ((0 : Int) ≤ (w64 ((w64 (Int.tdiv z1 w1)) + (geti glob0 (z2 * 2 + 1))))))) && (decide ((w64 ((w64 (Int.tdiv z1 w1)) + (geti glob0 (z2 * 2 + 1)))) < h1))) then (asrt (0 ≤ z1 ∧ z1 < (((List.replicate (Int.toNat (w64 (w1 * h1))) ([] : List Int)).length : Nat) : Int)) <| asrt ((((geti2 f3 z1).length : Nat) : Int) + 1 ≤ bigN) <| asrt (0 ≤ z1 ∧ z1 < (((List.replicate (Int.toNat (w64 (w1 * h1))) ([] : List Int)).length : Nat) : Int)) <| (tour_newField_J6 z2) (f3.set (Int.toNat z1) ((geti2 f3 z1) ++ ([w64 ((w64 ((w64 ((w64 (Int.tdiv z1 w1)) + (geti glob0 (z2 * 2 + 1)))) * w1)) + (w64 ((Int.tmod z1 w1) + (geti glob0 (z2 * 2)))))] : List Int)))) else ((tour_newField_J6 z2) f3)

noncomputable def tour_newField_J4  (z1 : Int) (f4 : List (List Int)) : Option (St (List (List Int) × Int) (List (List Int))) :=
  some (.next (f4, (w64 (z1 + 1))))

noncomputable def tour_newField_K2  (z1 : Int) : (List (List Int)) → Option (St (List (List Int) × Int) (List (List Int))) :=
  fun (x : (List (List Int))) => match x with | f4 => (tour_newField_J4 z1) f4

noncomputable def tour_newField_L2  (w1 : Int) (h1 : Int) (z1 : Int) : (List (List Int) × Int) → Option (St (List (List Int) × Int) (List (List Int))) :=
  fun (x : (List (List Int) × Int)) => match x with | (f3, z2) => if (decide (z2 < 8)) then ((tour_newField_J5 w1 h1 z1 f3 z2)) else (some (.done f3))

noncomputable def tour_newField_J3  (w1 : Int) (h1 : Int) (f1 : List (List Int)) (z1 : Int) : Option (St (List (List Int) × Int) (List (List Int))) :=
  asrt (w1 ≠ (0 : Int)) <| asrt (w1 ≠ (0 : Int)) <| (loop (tour_newField_L2 w1 h1 z1) (f1, 0)).bind (tour_newField_K2 z1)

noncomputable def tour_newField_J2  (f2 : List (List Int)) : Option (List (List Int) × Int) :=
  some (f2, 0)

noncomputable def tour_newField_K1  : (List (List Int)) → Option (List (List Int) × Int) :=
  fun (x : (List (List Int))) => match x with | f2 => tour_newField_J2 f2

noncomputable def tour_newField_L1  (w1 : Int) (h1 : Int) : (List (List Int) × Int) → Option (St (List (List Int) × Int) (List (List Int))) :=
  fun (x : (List (List Int) × Int)) => match x with | (f1, z1) => if (decide (z1 < (((List.replicate (Int.toNat (w64 (w1 * h1))) ([] : List Int)).length : Nat) : Int))) then ((tour_newField_J3 w1 h1 f1 z1)) else (some (.done f1))

noncomputable def tour_newField_J1  (w1 : Int) (h1 : Int) : Option (List (List Int) × Int) :=
  asrt ((0 : Int) ≤ (w64 (w1 * h1)) ∧ (w64 (w1 * h1)) ≤ bigR) <| (loop (tour_newField_L1 w1 h1) ((List.replicate (Int.toNat (w64 (w1 * h1))) ([] : List Int)), 0)).bind tour_newField_K1

noncomputable def tour_newField_m  (w1 : Int) (h1 : Int) : Option (List (List Int) × Int) :=
  if ((decide ((minI w1 h1) < 1)) || (decide ((8 : Int) < (maxI w1 h1)))) then (some (([] : List (List Int)), 3)) else ((tour_newField_J1 w1 h1))

set_option maxRecDepth 100000 in
set_option maxHeartbeats 4000000 in
theorem tour_newField_w {w1 : Int} {h1 : Int} {r : (List (List Int) × Int)} {w0 w : World} {B : Nat} {fs : List HP} [GLV 0 glob0 w0 B] (hm : tour_newField_m w1 h1 = some r) (hS : Sep w0 B w (fs)) :
    Calls Tryd.prog 28 #[.int .i64 w1, .int .i64 h1] w fun e w' => ∃ v, e = .returned v ∧ ∃ (A3 : Option Addr) (c3 : Nat) (hd6 : List Hd), v = .tuple #[.slice A3 r.1.length c3, .int .i64 r.2] ∧ Sep w0 B w' (rows 22 3 (.slice A3 r.1.length c3) hd6 r.1 :: fs) := by
  obtain ⟨i3, hi3, hz3, hs3, hb3⟩ := info_parts Info3
  obtain ⟨i22, hi22, hz22, hs22, hb22⟩ := info_parts Info22
  unfold tour_newField_m at hm
  replace hm := start_b hm
  refine enter (l := [.int .i64 w1, .int .i64 h1]) (n := 84) Tryd.func28 rfl rfl (by simp) (fun a hF => ?_)
  refine reg [] [] [0, 1] [pl 0 (.int .i64 w1), pl 1 (.int .i64 h1)] hF hS Fol (by kernel_rfl) (by kernel_rfl) (by kernel_rfl) ?_ (fun a w hF hS => ?_)
  · exact obs_nil
  refine seq_cut (fun a w => Fr 84 [pl 0 (.int .i64 w1), pl 1 (.int .i64 h1)] a ∧ Sep w0 B w (fs) ∧ ((tour_newField_J1 w1 h1)).bind some = some r) ?_ ?_
  · rintro a w ⟨hF, hS, hm⟩
    unfold tour_newField_J1 at hm
    refine seqR ?_
    obtain ⟨hp1, hm⟩ := asrt_b hm
    refine at_run 3 [] [] [0, 1, 26] [pl 0 (.int .i64 w1), pl 1 (.int .i64 h1), pl 26 (.int .i64 (w64 (w1 * h1)))] hF hS (by kernel_rfl) (by kernel_rfl) ?_ (fun a w hF hS => ?_)
    · exact obs_nil
    obtain ⟨A1, c1, w, hrun, hS⟩ := run_mkRows (P := Tryd.prog) (t := 50) hS .i64 .i64 3 Und50 hi22 hz22 hs22 hb22 hp1
    have hS : Sep w0 B w (rows 22 3 (.slice A1 ((List.replicate (Int.toNat (w64 (w1 * h1))) ([] : List Int)).length) c1) (List.replicate (Int.toNat (w64 (w1 * h1))) ((none, 0) : Hd)) (List.replicate (Int.toNat (w64 (w1 * h1))) ([] : List Int)) :: fs) := hS
    refine at_do (d := 27) hF (by kernel_rfl) (by kernel_rfl) hrun (fun a hF => ?_)
    refine at_run 1 [] [] [0, 1, 6] [pl 0 (.int .i64 w1), pl 1 (.int .i64 h1), pl 6 (.slice A1 ((List.replicate (Int.toNat (w64 (w1 * h1))) ([] : List Int)).length) c1)] hF hS (by kernel_rfl) (by kernel_rfl) ?_ (fun a w hF hS => ?_)
    · exact obs_nil
    refine at_end [0, 1, 6] [pl 0 (.int .i64 w1), pl 1 (.int .i64 h1), pl 6 (.slice A1 ((List.replicate (Int.toNat (w64 (w1 * h1))) ([] : List Int)).length) c1)] hF rfl (by kernel_rfl) (fun hF => ?_)
    refine then_n ?_
    refine seq_cut (fun a w => ∃ (f2 : List (List Int)) (hd2 : List Hd), Fr 84 [pl 6 (.slice A1 ((List.replicate (Int.toNat (w64 (w1 * h1))) ([] : List Int)).length) c1)] a ∧ Sep w0 B w (rows 22 3 (.slice A1 ((List.replicate (Int.toNat (w64 (w1 * h1))) ([] : List Int)).length) c1) hd2 f2 :: fs) ∧ (tour_newField_J2 f2).bind some = some r) ?_ ?_
    · rintro a w ⟨f2, hd2, hF, hS, hm⟩
      unfold tour_newField_J2 at hm
      refine reg [] [] [4, 5] [pl 4 (.slice A1 ((List.replicate (Int.toNat (w64 (w1 * h1))) ([] : List Int)).length) c1), pl 5 (.int .i64 0)] hF hS Fol (by kernel_rfl) (by kernel_rfl) (by kernel_rfl) ?_ (fun a w hF hS => ?_)
      · exact obs_nil
      refine wpIn_ret ?_
      have hl2 := (hS.at_ 0 rfl).lenR
      have hS := (hS.at_ 0 rfl).reNR hl2
      have hS : Sep w0 B w (rows 22 3 (.slice A1 f2.length c1) hd2 f2 :: fs) := hS
      have hF := hF.cast (t := 4) (v := .slice A1 ((List.replicate (Int.toNat (w64 (w1 * h1))) ([] : List Int)).length) c1) (v' := .slice A1 f2.length c1) rfl rfl (congrArg (fun k => Value.slice A1 k c1) hl2)
      have hm : some (f2, 0) = some r := hm
      obtain rfl := Option.some.inj hm
      exact retV (rs := [.tmp 4, .tmp 5]) (vs := [.slice A1 f2.length c1, .int .i64 0]) hF rfl (rv_t (by kernel_rfl) <| rv_t (by kernel_rfl) <| rv_nil) rfl ⟨_, rfl, A1, c1, hd2, rfl, hS⟩
    · refine reg [] [] [0, 1, 6, 29, 30] [pl 0 (.int .i64 w1), pl 1 (.int .i64 h1), pl 6 (.slice A1 ((List.replicate (Int.toNat (w64 (w1 * h1))) ([] : List Int)).length) c1), pl 29 (.int .i64 (((List.replicate (Int.toNat (w64 (w1 * h1))) ([] : List Int)).length : Nat) : Int)), pl 30 (.int .i64 0)] hF hS Fol (by kernel_rfl) (by kernel_rfl) (by kernel_rfl) ?_ (fun a w hF hS => ?_)
      · exact obs_nil
      refine wpIn_block ?_
      refine wp_loop_model (S := (List (List Int) × Int)) (R := (List (List Int))) (tour_newField_L1 w1 h1) (fun x => (tour_newField_K1 x).bind some) r (fun (x : (List (List Int) × Int)) a w => ∃ (hd1 : List Hd), Fr 84 [pl 0 (.int .i64 w1), pl 1 (.int .i64 h1), pl 6 (.slice A1 ((List.replicate (Int.toNat (w64 (w1 * h1))) ([] : List Int)).length) c1), pl 29 (.int .i64 (((List.replicate (Int.toNat (w64 (w1 * h1))) ([] : List Int)).length : Nat) : Int)), pl 30 (.int .i64 x.2)] a ∧ Sep w0 B w (rows 22 3 (.slice A1 ((List.replicate (Int.toNat (w64 (w1 * h1))) ([] : List Int)).length) c1) hd1 x.1 :: fs)) (assoc_b hm) ⟨(List.replicate (Int.toNat (w64 (w1 * h1))) ((none, 0) : Hd)), hF.weak [0, 1, 6, 29, 30] (by kernel_rfl), hS⟩ ?_
      clear hF hS hm
      rintro nn1 ⟨f1, z1⟩ a w ⟨hd1, hF, hS⟩ hm
      generalize hφ1 : stK (tour_newField_L1 w1 h1) nn1 (fun x => (tour_newField_K1 x).bind some) = φ1 at hm
      unfold tour_newField_L1 at hm
      dsimp only at hF hS hm
      refine reg [] [] [0, 1, 6, 29, 30, 31] [pl 0 (.int .i64 w1), pl 1 (.int .i64 h1), pl 6 (.slice A1 ((List.replicate (Int.toNat (w64 (w1 * h1))) ([] : List Int)).length) c1), pl 29 (.int .i64 (((List.replicate (Int.toNat (w64 (w1 * h1))) ([] : List Int)).length : Nat) : Int)), pl 30 (.int .i64 z1), pl 31 (.bool (decide (z1 < (((List.replicate (Int.toNat (w64 (w1 * h1))) ([] : List Int)).length : Nat) : Int))))] hF hS Fol (by kernel_rfl) (by kernel_rfl) (by kernel_rfl) ?_ (fun a w hF hS => ?_)
      · exact obs_nil
      refine seq_cut (fun a w => Fr 84 [pl 0 (.int .i64 w1), pl 1 (.int .i64 h1), pl 6 (.slice A1 ((List.replicate (Int.toNat (w64 (w1 * h1))) ([] : List Int)).length) c1), pl 29 (.int .i64 (((List.replicate (Int.toNat (w64 (w1 * h1))) ([] : List Int)).length : Nat) : Int)), pl 30 (.int .i64 z1)] a ∧ Sep w0 B w (rows 22 3 (.slice A1 ((List.replicate (Int.toNat (w64 (w1 * h1))) ([] : List Int)).length) c1) hd1 f1 :: fs) ∧ ((tour_newField_J3 w1 h1 f1 z1)).bind φ1 = some r) ?_ ?_
      · rintro a w ⟨hF, hS, hm⟩
        unfold tour_newField_J3 at hm
        refine seq_cut (fun a w => ∃ (f4 : List (List Int)) (hd4 : List Hd), Fr 84 [pl 0 (.int .i64 w1), pl 1 (.int .i64 h1), pl 6 (.slice A1 ((List.replicate (Int.toNat (w64 (w1 * h1))) ([] : List Int)).length) c1), pl 29 (.int .i64 (((List.replicate (Int.toNat (w64 (w1 * h1))) ([] : List Int)).length : Nat) : Int)), pl 30 (.int .i64 z1)] a ∧ Sep w0 B w (rows 22 3 (.slice A1 ((List.replicate (Int.toNat (w64 (w1 * h1))) ([] : List Int)).length) c1) hd4 f4 :: fs) ∧ ((tour_newField_J4 z1) f4).bind φ1 = some r) ?_ ?_
        · rintro a w ⟨f4, hd4, hF, hS, hm⟩
          unfold tour_newField_J4 at hm
          refine reg1 [] [] [0, 1, 6, 29, 30] [pl 0 (.int .i64 w1), pl 1 (.int .i64 h1), pl 6 (.slice A1 ((List.replicate (Int.toNat (w64 (w1 * h1))) ([] : List Int)).length) c1), pl 29 (.int .i64 (((List.replicate (Int.toNat (w64 (w1 * h1))) ([] : List Int)).length : Nat) : Int)), pl 30 (.int .i64 (w64 (z1 + 1)))] hF hS Fol (by kernel_rfl) (by kernel_rfl) (by kernel_rfl) ?_ (fun a w hF hS => ?_)
          · exact obs_nil
          refine then_n ?_
          rw [← hφ1] at hm
          exact ⟨(f4, (w64 (z1 + 1))), ⟨hd4, hF.weak [0, 1, 6, 29, 30] (by kernel_rfl), hS⟩, hm⟩
        · refine wpIn_block ?_
          refine reg [] [] [0, 1, 6, 7, 29, 30] [pl 0 (.int .i64 w1), pl 1 (.int .i64 h1), pl 6 (.slice A1 ((List.replicate (Int.toNat (w64 (w1 * h1))) ([] : List Int)).length) c1), pl 7 (.int .i64 z1), pl 29 (.int .i64 (((List.replicate (Int.toNat (w64 (w1 * h1))) ([] : List Int)).length : Nat) : Int)), pl 30 (.int .i64 z1)] hF hS Fol (by kernel_rfl) (by kernel_rfl) (by kernel_rfl) ?_ (fun a w hF hS => ?_)
          · exact obs_nil
          obtain ⟨hp2, hm⟩ := asrt_b hm
          obtain ⟨hp3, hm⟩ := asrt_b hm
          refine reg [⟨true, [], vS (Op.intDiv .rem .i64 z1 w1), .int .i64 (Int.tmod z1 w1)⟩, ⟨true, [], vS (Op.intDiv .quo .i64 z1 w1), .int .i64 (w64 (Int.tdiv z1 w1))⟩] [none, none, some (.int .i64 (Int.tmod z1 w1)), none, none, some (.int .i64 (w64 (Int.tdiv z1 w1))), none, none] [0, 1, 6, 7, 8, 9, 29, 30] [pl 0 (.int .i64 w1), pl 1 (.int .i64 h1), pl 6 (.slice A1 ((List.replicate (Int.toNat (w64 (w1 * h1))) ([] : List Int)).length) c1), pl 7 (.int .i64 z1), pl 8 (.int .i64 (Int.tmod z1 w1)), pl 9 (.int .i64 (w64 (Int.tdiv z1 w1))), pl 29 (.int .i64 (((List.replicate (Int.toNat (w64 (w1 * h1))) ([] : List Int)).length : Nat) : Int)), pl 30 (.int .i64 z1)] hF hS Fol (by kernel_rfl) (by kernel_rfl) (by kernel_rfl) ?_ (fun a w hF hS => ?_)
          · exact obs_cons (ob_rem rfl (fun _ => hp2)) <| obs_cons (ob_quo rfl (fun _ => hp3)) <| obs_nil
          refine reg [⟨false, [], vS (Instr.loadAt 73 (.pointer (some ⟨0, 0, none⟩))), .agg (List.toArray (([] : List Value) ++ (arr1 (Value.int .i64) (0 : Int) 16 glob0 ++ ([] : List Value))))⟩] [some (.agg (List.toArray (([] : List Value) ++ (arr1 (Value.int .i64) (0 : Int) 16 glob0 ++ ([] : List Value))))), none] [0, 1, 6, 7, 8, 9, 29, 30, 39, 40] [pl 0 (.int .i64 w1), pl 1 (.int .i64 h1), pl 6 (.slice A1 ((List.replicate (Int.toNat (w64 (w1 * h1))) ([] : List Int)).length) c1), pl 7 (.int .i64 z1), pl 8 (.int .i64 (Int.tmod z1 w1)), pl 9 (.int .i64 (w64 (Int.tdiv z1 w1))), pl 29 (.int .i64 (((List.replicate (Int.toNat (w64 (w1 * h1))) ([] : List Int)).length : Nat) : Int)), pl 30 (.int .i64 z1), pl 39 (.agg (List.toArray (([] : List Value) ++ (arr1 (Value.int .i64) (0 : Int) 16 glob0 ++ ([] : List Value))))), pl 40 (.int .i64 0)] hF hS Fol (by kernel_rfl) (by kernel_rfl) (by kernel_rfl) ?_ (fun a w hF hS => ?_)
          · exact obs_cons (ob_glob (g := 0) (m := glob0) rfl (by kernel_rfl) (by kernel_rfl)) <| obs_nil
          refine wpIn_block ?_
          refine wp_loop_model (S := (List (List Int) × Int)) (R := (List (List Int))) (tour_newField_L2 w1 h1 z1) (fun x => ((tour_newField_K2 z1) x).bind φ1) r (fun (x : (List (List Int) × Int)) a w => ∃ (hd3 : List Hd), Fr 84 [pl 0 (.int .i64 w1), pl 1 (.int .i64 h1), pl 6 (.slice A1 ((List.replicate (Int.toNat (w64 (w1 * h1))) ([] : List Int)).length) c1), pl 7 (.int .i64 z1), pl 8 (.int .i64 (Int.tmod z1 w1)), pl 9 (.int .i64 (w64 (Int.tdiv z1 w1))), pl 29 (.int .i64 (((List.replicate (Int.toNat (w64 (w1 * h1))) ([] : List Int)).length : Nat) : Int)), pl 30 (.int .i64 z1), pl 39 (.agg (List.toArray (([] : List Value) ++ (arr1 (Value.int .i64) (0 : Int) 16 glob0 ++ ([] : List Value))))), pl 40 (.int .i64 x.2)] a ∧ Sep w0 B w (rows 22 3 (.slice A1 ((List.replicate (Int.toNat (w64 (w1 * h1))) ([] : List Int)).length) c1) hd3 x.1 :: fs)) (assoc_b hm) ⟨hd1, hF.weak [0, 1, 6, 7, 8, 9, 29, 30, 39, 40] (by kernel_rfl), hS⟩ ?_
          clear hF hS hm
          rintro nn2 ⟨f3, z2⟩ a w ⟨hd3, hF, hS⟩ hm
          generalize hφ2 : stK (tour_newField_L2 w1 h1 z1) nn2 (fun x => ((tour_newField_K2 z1) x).bind φ1) = φ2 at hm
          unfold tour_newField_L2 at hm
          dsimp only at hF hS hm
          refine reg [] [] [0, 1, 6, 7, 8, 9, 29, 30, 39, 40, 41] [pl 0 (.int .i64 w1), pl 1 (.int .i64 h1), pl 6 (.slice A1 ((List.replicate (Int.toNat (w64 (w1 * h1))) ([] : List Int)).length) c1), pl 7 (.int .i64 z1), pl 8 (.int .i64 (Int.tmod z1 w1)), pl 9 (.int .i64 (w64 (Int.tdiv z1 w1))), pl 29 (.int .i64 (((List.replicate (Int.toNat (w64 (w1 * h1))) ([] : List Int)).length : Nat) : Int)), pl 30 (.int .i64 z1), pl 39 (.agg (List.toArray (([] : List Value) ++ (arr1 (Value.int .i64) (0 : Int) 16 glob0 ++ ([] : List Value))))), pl 40 (.int .i64 z2), pl 41 (.bool (decide (z2 < 8)))] hF hS Fol (by kernel_rfl) (by kernel_rfl) (by kernel_rfl) ?_ (fun a w hF hS => ?_)
          · exact obs_nil
          refine seq_cut (fun a w => Fr 84 [pl 0 (.int .i64 w1), pl 1 (.int .i64 h1), pl 6 (.slice A1 ((List.replicate (Int.toNat (w64 (w1 * h1))) ([] : List Int)).length) c1), pl 7 (.int .i64 z1), pl 8 (.int .i64 (Int.tmod z1 w1)), pl 9 (.int .i64 (w64 (Int.tdiv z1 w1))), pl 29 (.int .i64 (((List.replicate (Int.toNat (w64 (w1 * h1))) ([] : List Int)).length : Nat) : Int)), pl 30 (.int .i64 z1), pl 39 (.agg (List.toArray (([] : List Value) ++ (arr1 (Value.int .i64) (0 : Int) 16 glob0 ++ ([] : List Value))))), pl 40 (.int .i64 z2)] a ∧ Sep w0 B w (rows 22 3 (.slice A1 ((List.replicate (Int.toNat (w64 (w1 * h1))) ([] : List Int)).length) c1) hd3 f3 :: fs) ∧ ((tour_newField_J5 w1 h1 z1 f3 z2)).bind φ2 = some r) ?_ ?_
          · rintro a w ⟨hF, hS, hm⟩
            unfold tour_newField_J5 at hm
            refine seq_cut (fun a w => ∃ (f5 : List (List Int)) (hd5 : List Hd), Fr 84 [pl 0 (.int .i64 w1), pl 1 (.int .i64 h1), pl 6 (.slice A1 ((List.replicate (Int.toNat (w64 (w1 * h1))) ([] : List Int)).length) c1), pl 7 (.int .i64 z1), pl 8 (.int .i64 (Int.tmod z1 w1)), pl 9 (.int .i64 (w64 (Int.tdiv z1 w1))), pl 29 (.int .i64 (((List.replicate (Int.toNat (w64 (w1 * h1))) ([] : List Int)).length : Nat) : Int)), pl 30 (.int .i64 z1), pl 39 (.agg (List.toArray (([] : List Value) ++ (arr1 (Value.int .i64) (0 : Int) 16 glob0 ++ ([] : List Value))))), pl 40 (.int .i64 z2)] a ∧ Sep w0 B w (rows 22 3 (.slice A1 ((List.replicate (Int.toNat (w64 (w1 * h1))) ([] : List Int)).length) c1) hd5 f5 :: fs) ∧ ((tour_newField_J6 z2) f5).bind φ2 = some r) ?_ ?_
            · rintro a w ⟨f5, hd5, hF, hS, hm⟩
              unfold tour_newField_J6 at hm
              refine reg1 [] [] [0, 1, 6, 7, 8, 9, 29, 30, 39, 40] [pl 0 (.int .i64 w1), pl 1 (.int .i64 h1), pl 6 (.slice A1 ((List.replicate (Int.toNat (w64 (w1 * h1))) ([] : List Int)).length) c1), pl 7 (.int .i64 z1), pl 8 (.int .i64 (Int.tmod z1 w1)), pl 9 (.int .i64 (w64 (Int.tdiv z1 w1))), pl 29 (.int .i64 (((List.replicate (Int.toNat (w64 (w1 * h1))) ([] : List Int)).length : Nat) : Int)), pl 30 (.int .i64 z1), pl 39 (.agg (List.toArray (([] : List Value) ++ (arr1 (Value.int .i64) (0 : Int) 16 glob0 ++ ([] : List Value))))), pl 40 (.int .i64 (w64 (z2 + 1)))] hF hS Fol (by kernel_rfl) (by kernel_rfl) (by kernel_rfl) ?_ (fun a w hF hS => ?_)
              · exact obs_nil
              refine then_n ?_
              rw [← hφ2] at hm
              exact ⟨(f5, (w64 (z2 + 1))), ⟨hd5, hF.weak [0, 1, 6, 7, 8, 9, 29, 30, 39, 40] (by kernel_rfl), hS⟩, hm⟩
            · refine wpIn_block ?_
              refine seqR ?_
              obtain ⟨hp4, hm⟩ := asrt_b hm
              refine at_run 1 [⟨true, [], vS (Instr.index 73 (.agg (List.toArray (([] : List Value) ++ (arr1 (Value.int .i64) (0 : Int) 16 glob0 ++ ([] : List Value))))) (.int .i64 z2)), .agg #[.int .i64 (geti glob0 (z2 * 2)), .int .i64 (geti glob0 (z2 * 2 + 1))]⟩] [some (.agg #[.int .i64 (geti glob0 (z2 * 2)), .int .i64 (geti glob0 (z2 * 2 + 1))])] [0, 1, 6, 7, 8, 9, 29, 30, 39, 40, 42] [pl 0 (.int .i64 w1), pl 1 (.int .i64 h1), pl 6 (.slice A1 ((List.replicate (Int.toNat (w64 (w1 * h1))) ([] : List Int)).length) c1), pl 7 (.int .i64 z1), pl 8 (.int .i64 (Int.tmod z1 w1)), pl 9 (.int .i64 (w64 (Int.tdiv z1 w1))), pl 29 (.int .i64 (((List.replicate (Int.toNat (w64 (w1 * h1))) ([] : List Int)).length : Nat) : Int)), pl 30 (.int .i64 z1), pl 39 (.agg (List.toArray (([] : List Value) ++ (arr1 (Value.int .i64) (0 : Int) 16 glob0 ++ ([] : List Value))))), pl 40 (.int .i64 z2), pl 42 (.agg #[.int .i64 (geti glob0 (z2 * 2)), .int .i64 (geti glob0 (z2 * 2 + 1))])] hF hS (by kernel_rfl) (by kernel_rfl) ?_ (fun a w hF hS => ?_)
              · exact obs_cons (ob_idxP2 (f := (Value.int .i64)) (z := (0 : Int)) (m := glob0) UndA73 (by kernel_rfl) (by kernel_rfl) rfl (fun _ => hp4)) <| obs_nil
              refine at_do (d := 11) (s := vS (Instr.alloc 72 true (.tuple #[]))) (v := .pointer (some ⟨w.heap.size, 0, none⟩)) (w' := w.alloc (.cells #[.int .i64 0, .int .i64 0] 72)) hF (by kernel_rfl) (by kernel_rfl) (by kernel_rfl) (fun a hF => ?_)
              have hS : Sep w0 B (w.alloc (.cells #[.int .i64 0, .int .i64 0] 72)) (blk w.heap.size 72 #[.int .i64 0, .int .i64 0] :: (rows 22 3 (.slice A1 ((List.replicate (Int.toNat (w64 (w1 * h1))) ([] : List Int)).length) c1) hd3 f3 :: fs)) := hS.box 72 #[.int .i64 0, .int .i64 0]
              generalize w.heap.size = g1 at hF hS
              generalize w.alloc (.cells #[.int .i64 0, .int .i64 0] 72) = w at hS ⊢
              obtain ⟨w, hrun, hS⟩ := run_putA (P := Tryd.prog) (t := 72) (us := #[.int .i64 (geti glob0 (z2 * 2)), .int .i64 (geti glob0 (z2 * 2 + 1))]) (o := 0) (hS.at_ 0 rfl) (by kernel_rfl) (all_one (by kernel_rfl)) (Nat.le_of_ble_eq_true (by kernel_rfl))
              refine at_skip hF (by kernel_rfl) hrun ?_
              have hS : Sep w0 B w (blk g1 72 #[.int .i64 (geti glob0 (z2 * 2)), .int .i64 (geti glob0 (z2 * 2 + 1))] :: rows 22 3 (.slice A1 ((List.replicate (Int.toNat (w64 (w1 * h1))) ([] : List Int)).length) c1) hd3 f3 :: fs) := hS
              refine at_end [0, 1, 6, 7, 8, 9, 11, 29, 30, 39, 40] [pl 0 (.int .i64 w1), pl 1 (.int .i64 h1), pl 6 (.slice A1 ((List.replicate (Int.toNat (w64 (w1 * h1))) ([] : List Int)).length) c1), pl 7 (.int .i64 z1), pl 8 (.int .i64 (Int.tmod z1 w1)), pl 9 (.int .i64 (w64 (Int.tdiv z1 w1))), pl 11 (.pointer (some ⟨g1, 0, none⟩)), pl 29 (.int .i64 (((List.replicate (Int.toNat (w64 (w1 * h1))) ([] : List Int)).length : Nat) : Int)), pl 30 (.int .i64 z1), pl 39 (.agg (List.toArray (([] : List Value) ++ (arr1 (Value.int .i64) (0 : Int) 16 glob0 ++ ([] : List Value))))), pl 40 (.int .i64 z2)] hF rfl (by kernel_rfl) (fun hF => ?_)
              refine then_n ?_
              refine reg [⟨false, [], vS (Instr.loadAt 3 (.pointer (some ⟨g1, 0, none⟩))), .int .i64 (geti glob0 (z2 * 2))⟩, ⟨false, [], vS (Instr.loadAt 3 (.pointer (some ⟨g1, 1, none⟩))), .int .i64 (geti glob0 (z2 * 2 + 1))⟩] [none, none, some (.int .i64 (geti glob0 (z2 * 2))), none, none, none, some (.int .i64 (geti glob0 (z2 * 2 + 1))), none, none, none] [0, 1, 6, 7, 8, 9, 12, 13, 29, 30, 39, 40] [pl 0 (.int .i64 w1), pl 1 (.int .i64 h1), pl 6 (.slice A1 ((List.replicate (Int.toNat (w64 (w1 * h1))) ([] : List Int)).length) c1), pl 7 (.int .i64 z1), pl 8 (.int .i64 (Int.tmod z1 w1)), pl 9 (.int .i64 (w64 (Int.tdiv z1 w1))), pl 12 (.int .i64 (w64 ((Int.tmod z1 w1) + (geti glob0 (z2 * 2))))), pl 13 (.int .i64 (w64 ((w64 (Int.tdiv z1 w1)) + (geti glob0 (z2 * 2 + 1))))), pl 29 (.int .i64 (((List.replicate (Int.toNat (w64 (w1 * h1))) ([] : List Int)).length : Nat) : Int)), pl 30 (.int .i64 z1), pl 39 (.agg (List.toArray (([] : List Value) ++ (arr1 (Value.int .i64) (0 : Int) 16 glob0 ++ ([] : List Value))))), pl 40 (.int .i64 z2)] hF hS Fol (by kernel_rfl) (by kernel_rfl) (by kernel_rfl) ?_ (fun a w hF hS => ?_)
              · exact obs_cons (ob_load Agg3 (fun _ _ hS => (hS.at_ 0 rfl).cell rfl)) <| obs_cons (ob_load Agg3 (fun _ _ hS => (hS.at_ 0 rfl).cell rfl)) <| obs_nil
              refine reg [] [] [0, 1, 6, 7, 8, 9, 12, 13, 29, 30, 39, 40, 66] [pl 0 (.int .i64 w1), pl 1 (.int .i64 h1), pl 6 (.slice A1 ((List.replicate (Int.toNat (w64 (w1 * h1))) ([] : List Int)).length) c1), pl 7 (.int .i64 z1), pl 8 (.int .i64 (Int.tmod z1 w1)), pl 9 (.int .i64 (w64 (Int.tdiv z1 w1))), pl 12 (.int .i64 (w64 ((Int.tmod z1 w1) + (geti glob0 (z2 * 2))))), pl 13 (.int .i64 (w64 ((w64 (Int.tdiv z1 w1)) + (geti glob0 (z2 * 2 + 1))))), pl 29 (.int .i64 (((List.replicate (Int.toNat (w64 (w1 * h1))) ([] : List Int)).length : Nat) : Int)), pl 30 (.int .i64 z1), pl 39 (.agg (List.toArray (([] : List Value) ++ (arr1 (Value.int .i64) (0 : Int) 16 glob0 ++ ([] : List Value))))), pl 40 (.int .i64 z2), pl 66 (.bool ((((decide ((0 : Int) ≤ (w64 ((Int.tmod z1 w1) + (geti glob0 (z2 * 2)))))) && (decide ((w64 ((Int.tmod z1 w1) + (geti glob0 (z2 * 2)))) < w1))) && (decide ((0 : Int) ≤ (w64 ((w64 (Int.tdiv z1 w1)) + (geti glob0 (z2 * 2 + 1))))))) && (decide ((w64 ((w64 (Int.tdiv z1 w1)) + (geti glob0 (z2 * 2 + 1)))) < h1))))] hF hS Fol (by kernel_rfl) (by kernel_rfl) (by kernel_rfl) ?_ (fun a w hF hS => ?_)
              · exact obs_nil
              refine cond_ev (t := 66) (b := (((decide ((0 : Int) ≤ (w64 ((Int.tmod z1 w1) + (geti glob0 (z2 * 2)))))) && (decide ((w64 ((Int.tmod z1 w1) + (geti glob0 (z2 * 2)))) < w1))) && (decide ((0 : Int) ≤ (w64 ((w64 (Int.tdiv z1 w1)) + (geti glob0 (z2 * 2 + 1))))))) && (decide ((w64 ((w64 (Int.tdiv z1 w1)) + (geti glob0 (z2 * 2 + 1)))) < h1))) hF (by kernel_rfl) (fun hb => ?_) (fun hb => ?_)
              · replace hm := if_t hm hb
                refine oneR ?_
                obtain ⟨hp5, hm⟩ := asrt_b hm
                obtain ⟨hp6, hm⟩ := asrt_b hm
                obtain ⟨hp7, hm⟩ := asrt_b hm
                have hb1 := rowb (n := (List.replicate (Int.toNat (w64 (w1 * h1))) ([] : List Int)).length) (hS.at_ 1 rfl).lenR hp5
                refine at_run 11 [⟨true, [], vS (Instr.indexAt 50 (.slice A1 ((List.replicate (Int.toNat (w64 (w1 * h1))) ([] : List Int)).length) c1) (.int .i64 z1)), .pointer (some (sAddr A1 z1))⟩, ⟨false, [], vS (Instr.loadAt 22 (.pointer (some (sAddr A1 z1)))), .slice (hdA hd3 z1) ((geti2 f3 z1).length) (hdC hd3 z1)⟩] [none, none, none, none, some (.pointer (some (sAddr A1 z1))), some (.slice (hdA hd3 z1) ((geti2 f3 z1).length) (hdC hd3 z1)), none, none, none, none, none] [0, 1, 6, 7, 8, 9, 29, 30, 39, 40, 67, 68, 72, 77] [pl 0 (.int .i64 w1), pl 1 (.int .i64 h1), pl 6 (.slice A1 ((List.replicate (Int.toNat (w64 (w1 * h1))) ([] : List Int)).length) c1), pl 7 (.int .i64 z1), pl 8 (.int .i64 (Int.tmod z1 w1)), pl 9 (.int .i64 (w64 (Int.tdiv z1 w1))), pl 29 (.int .i64 (((List.replicate (Int.toNat (w64 (w1 * h1))) ([] : List Int)).length : Nat) : Int)), pl 30 (.int .i64 z1), pl 39 (.agg (List.toArray (([] : List Value) ++ (arr1 (Value.int .i64) (0 : Int) 16 glob0 ++ ([] : List Value))))), pl 40 (.int .i64 z2), pl 67 (.slice A1 ((List.replicate (Int.toNat (w64 (w1 * h1))) ([] : List Int)).length) c1), pl 68 (.int .i64 z1), pl 72 (.slice (hdA hd3 z1) ((geti2 f3 z1).length) (hdC hd3 z1)), pl 77 (.int .i64 (w64 ((w64 ((w64 ((w64 (Int.tdiv z1 w1)) + (geti glob0 (z2 * 2 + 1)))) * w1)) + (w64 ((Int.tmod z1 w1) + (geti glob0 (z2 * 2)))))))] hF hS (by kernel_rfl) (by kernel_rfl) ?_ (fun a w hF hS => ?_)
                · exact obs_cons (ob_ixRn Und50 hi22 hs22 (hS.at_ 1 rfl).rdRows (hS.at_ 1 rfl).lenR (fun _ => hp5)) <| obs_cons (ob_getR Agg22 (fun _ hS => ⟨_, (hS.at_ 1 rfl).rdRows⟩) (fun _ => hb1)) <| obs_nil
                refine at_do (d := 78) (s := vS (Instr.buildSlice 22 1 #[(0, .int .i64 (w64 ((w64 ((w64 ((w64 (Int.tdiv z1 w1)) + (geti glob0 (z2 * 2 + 1)))) * w1)) + (w64 ((Int.tmod z1 w1) + (geti glob0 (z2 * 2)))))))])) (v := .slice (some ⟨w.heap.size, 0, none⟩) 1 1) (w' := w.alloc (.cells #[.int .i64 (w64 ((w64 ((w64 ((w64 (Int.tdiv z1 w1)) + (geti glob0 (z2 * 2 + 1)))) * w1)) + (w64 ((Int.tmod z1 w1) + (geti glob0 (z2 * 2))))))] 3)) hF (by kernel_rfl) (by kernel_rfl) (by kernel_rfl) (fun a hF => ?_)
                have hS : Sep w0 B (w.alloc (.cells #[.int .i64 (w64 ((w64 ((w64 ((w64 (Int.tdiv z1 w1)) + (geti glob0 (z2 * 2 + 1)))) * w1)) + (w64 ((Int.tmod z1 w1) + (geti glob0 (z2 * 2))))))] 3)) (own 3 (.slice (some (⟨w.heap.size, 0, none⟩ : Addr)) 1 1) (vI ([w64 ((w64 ((w64 ((w64 (Int.tdiv z1 w1)) + (geti glob0 (z2 * 2 + 1)))) * w1)) + (w64 ((Int.tmod z1 w1) + (geti glob0 (z2 * 2)))))] : List Int)) :: (blk g1 72 #[.int .i64 (geti glob0 (z2 * 2)), .int .i64 (geti glob0 (z2 * 2 + 1))] :: rows 22 3 (.slice A1 ((List.replicate (Int.toNat (w64 (w1 * h1))) ([] : List Int)).length) c1) hd3 f3 :: fs)) := hS.lit 3 #[.int .i64 (w64 ((w64 ((w64 ((w64 (Int.tdiv z1 w1)) + (geti glob0 (z2 * 2 + 1)))) * w1)) + (w64 ((Int.tmod z1 w1) + (geti glob0 (z2 * 2))))))] 1 rfl (by omega)
                generalize (some (⟨w.heap.size, 0, none⟩ : Addr)) = g2 at hF hS
                generalize w.alloc (.cells #[.int .i64 (w64 ((w64 ((w64 ((w64 (Int.tdiv z1 w1)) + (geti glob0 (z2 * 2 + 1)))) * w1)) + (w64 ((Int.tmod z1 w1) + (geti glob0 (z2 * 2))))))] 3) = w at hS ⊢
                have hS : Sep w0 B w (own 3 (.slice (hdA hd3 z1) ((geti2 f3 z1).length) (hdC hd3 z1)) (vI (geti2 f3 z1)) :: own 3 (.slice g2 1 1) (vI ([w64 ((w64 ((w64 ((w64 (Int.tdiv z1 w1)) + (geti glob0 (z2 * 2 + 1)))) * w1)) + (w64 ((Int.tmod z1 w1) + (geti glob0 (z2 * 2)))))] : List Int)) :: blk g1 72 #[.int .i64 (geti glob0 (z2 * 2)), .int .i64 (geti glob0 (z2 * 2 + 1))] :: rowsBut 22 3 (.slice A1 ((List.replicate (Int.toNat (w64 (w1 * h1))) ([] : List Int)).length) c1) hd3 f3 (Int.toNat z1) :: fs) := (hS.at_ 2 rfl).takeRow hb1
                obtain ⟨A2, c2, w, hrun, hS⟩ := run_app1 (P := Tryd.prog) (t := 22) (m := (geti2 f3 z1)) (ys := ([w64 ((w64 ((w64 ((w64 (Int.tdiv z1 w1)) + (geti glob0 (z2 * 2 + 1)))) * w1)) + (w64 ((Int.tmod z1 w1) + (geti glob0 (z2 * 2)))))] : List Int)) (A2 := g2) (m2 := 1) (c2 := 1) (Value.int .i64) (0 : Int) (hS.at_ 0 rfl) (hS.at_ 1 rfl).rd ((hS.at_ 1 rfl).len1) 22 Und22 hi3 hz3 hs3 (by omega) rfl (fun _ => rfl) hp6
                have hS : Sep w0 B w (own 3 (.slice A2 (((geti2 f3 z1) ++ ([w64 ((w64 ((w64 ((w64 (Int.tdiv z1 w1)) + (geti glob0 (z2 * 2 + 1)))) * w1)) + (w64 ((Int.tmod z1 w1) + (geti glob0 (z2 * 2)))))] : List Int)).length) c2) (vI ((geti2 f3 z1) ++ ([w64 ((w64 ((w64 ((w64 (Int.tdiv z1 w1)) + (geti glob0 (z2 * 2 + 1)))) * w1)) + (w64 ((Int.tmod z1 w1) + (geti glob0 (z2 * 2)))))] : List Int))) :: own 3 (.slice g2 1 1) (vI ([w64 ((w64 ((w64 ((w64 (Int.tdiv z1 w1)) + (geti glob0 (z2 * 2 + 1)))) * w1)) + (w64 ((Int.tmod z1 w1) + (geti glob0 (z2 * 2)))))] : List Int)) :: blk g1 72 #[.int .i64 (geti glob0 (z2 * 2)), .int .i64 (geti glob0 (z2 * 2 + 1))] :: rowsBut 22 3 (.slice A1 ((List.replicate (Int.toNat (w64 (w1 * h1))) ([] : List Int)).length) c1) hd3 f3 (Int.toNat z1) :: fs) := hS
                refine at_do (d := 79) hF (by kernel_rfl) (by kernel_rfl) hrun (fun a hF => ?_)
                refine at_run 1 [⟨true, [], vS (Instr.indexAt 50 (.slice A1 ((List.replicate (Int.toNat (w64 (w1 * h1))) ([] : List Int)).length) c1) (.int .i64 z1)), .pointer (some (sAddr A1 z1))⟩] [some (.pointer (some (sAddr A1 z1)))] [0, 1, 6, 7, 8, 9, 29, 30, 39, 40, 79, 80] [pl 0 (.int .i64 w1), pl 1 (.int .i64 h1), pl 6 (.slice A1 ((List.replicate (Int.toNat (w64 (w1 * h1))) ([] : List Int)).length) c1), pl 7 (.int .i64 z1), pl 8 (.int .i64 (Int.tmod z1 w1)), pl 9 (.int .i64 (w64 (Int.tdiv z1 w1))), pl 29 (.int .i64 (((List.replicate (Int.toNat (w64 (w1 * h1))) ([] : List Int)).length : Nat) : Int)), pl 30 (.int .i64 z1), pl 39 (.agg (List.toArray (([] : List Value) ++ (arr1 (Value.int .i64) (0 : Int) 16 glob0 ++ ([] : List Value))))), pl 40 (.int .i64 z2), pl 79 (.slice A2 (((geti2 f3 z1) ++ ([w64 ((w64 ((w64 ((w64 (Int.tdiv z1 w1)) + (geti glob0 (z2 * 2 + 1)))) * w1)) + (w64 ((Int.tmod z1 w1) + (geti glob0 (z2 * 2)))))] : List Int)).length) c2), pl 80 (.pointer (some (sAddr A1 z1)))] hF hS (by kernel_rfl) (by kernel_rfl) ?_ (fun a w hF hS => ?_)
                · exact obs_cons (ob_ixHn Und50 hi22 hs22 (hS.at_ 3 rfl).butRd (hS.at_ 3 rfl).butLen (fun _ => hp7)) <| obs_nil
                have hb2 := (rowb (hS.at_ 3 rfl).butLen hp7)
                have hS := hS.pickN 4 [0, 1, 2, 3] (by decide)
                have hS : Sep w0 B w (own 3 (.slice A2 (((geti2 f3 z1) ++ ([w64 ((w64 ((w64 ((w64 (Int.tdiv z1 w1)) + (geti glob0 (z2 * 2 + 1)))) * w1)) + (w64 ((Int.tmod z1 w1) + (geti glob0 (z2 * 2)))))] : List Int)).length) c2) (vI ((geti2 f3 z1) ++ ([w64 ((w64 ((w64 ((w64 (Int.tdiv z1 w1)) + (geti glob0 (z2 * 2 + 1)))) * w1)) + (w64 ((Int.tmod z1 w1) + (geti glob0 (z2 * 2)))))] : List Int))) :: own 3 (.slice g2 1 1) (vI ([w64 ((w64 ((w64 ((w64 (Int.tdiv z1 w1)) + (geti glob0 (z2 * 2 + 1)))) * w1)) + (w64 ((Int.tmod z1 w1) + (geti glob0 (z2 * 2)))))] : List Int)) :: blk g1 72 #[.int .i64 (geti glob0 (z2 * 2)), .int .i64 (geti glob0 (z2 * 2 + 1))] :: rowsBut 22 3 (.slice A1 ((List.replicate (Int.toNat (w64 (w1 * h1))) ([] : List Int)).length) c1) hd3 f3 (Int.toNat z1) :: fs) := hS
                obtain ⟨w, hrun, hS⟩ := run_storeRowN (P := Tryd.prog) (t := 22) (hS.at2 2 rfl) hi22 hs22 hb2
                refine at_skip hF (by kernel_rfl) hrun ?_
                try simp only [List.length_set] at hS
                have hS : Sep w0 B w (own 3 (.slice g2 1 1) (vI ([w64 ((w64 ((w64 ((w64 (Int.tdiv z1 w1)) + (geti glob0 (z2 * 2 + 1)))) * w1)) + (w64 ((Int.tmod z1 w1) + (geti glob0 (z2 * 2)))))] : List Int)) :: blk g1 72 #[.int .i64 (geti glob0 (z2 * 2)), .int .i64 (geti glob0 (z2 * 2 + 1))] :: rows 22 3 (.slice A1 ((List.replicate (Int.toNat (w64 (w1 * h1))) ([] : List Int)).length) c1) (hd3.set (Int.toNat z1) (A2, c2)) (f3.set (Int.toNat z1) ((geti2 f3 z1) ++ ([w64 ((w64 ((w64 ((w64 (Int.tdiv z1 w1)) + (geti glob0 (z2 * 2 + 1)))) * w1)) + (w64 ((Int.tmod z1 w1) + (geti glob0 (z2 * 2)))))] : List Int))) :: fs) := hS
                refine at_end [0, 1, 6, 7, 8, 9, 29, 30, 39, 40] [pl 0 (.int .i64 w1), pl 1 (.int .i64 h1), pl 6 (.slice A1 ((List.replicate (Int.toNat (w64 (w1 * h1))) ([] : List Int)).length) c1), pl 7 (.int .i64 z1), pl 8 (.int .i64 (Int.tmod z1 w1)), pl 9 (.int .i64 (w64 (Int.tdiv z1 w1))), pl 29 (.int .i64 (((List.replicate (Int.toNat (w64 (w1 * h1))) ([] : List Int)).length : Nat) : Int)), pl 30 (.int .i64 z1), pl 39 (.agg (List.toArray (([] : List Value) ++ (arr1 (Value.int .i64) (0 : Int) 16 glob0 ++ ([] : List Value))))), pl 40 (.int .i64 z2)] hF rfl (by kernel_rfl) (fun hF => ?_)
                refine block_n ?_
                refine then_n ?_
                have hS := hS.pickN 3 [2] (by decide)
                exact ⟨(f3.set (Int.toNat z1) ((geti2 f3 z1) ++ ([w64 ((w64 ((w64 ((w64 (Int.tdiv z1 w1)) + (geti glob0 (z2 * 2 + 1)))) * w1)) + (w64 ((Int.tmod z1 w1) + (geti glob0 (z2 * 2)))))] : List Int))), (hd3.set (Int.toNat z1) (A2, c2)), hF.weak [0, 1, 6, 7, 8, 9, 29, 30, 39, 40] (by kernel_rfl), hS, hm⟩
              · replace hm := if_f hm hb
                refine wpIn_skip ?_
                refine block_n ?_
                refine then_n ?_
                have hS := hS.pickN 2 [1] (by decide)
                exact ⟨f3, hd3, hF.weak [0, 1, 6, 7, 8, 9, 29, 30, 39, 40] (by kernel_rfl), hS, hm⟩
          · refine cond_ev (t := 41) (b := decide (z2 < 8)) hF (by kernel_rfl) (fun hb => ?_) (fun hb => ?_)
            · replace hm := if_t hm hb
              refine wpIn_skip ?_
              refine then_n ?_
              exact ⟨hF.weak [0, 1, 6, 7, 8, 9, 29, 30, 39, 40] (by kernel_rfl), hS, hm⟩
            · replace hm := if_f hm hb
              refine wpIn_exit ?_
              refine then_e (then_e (block_e (block_n (then_n ?_))))
              rw [← hφ2] at hm
              replace hm := done_b hm
              unfold tour_newField_K2 at hm
              try dsimp only at hm
              have hm : ((tour_newField_J4 z1) f3).bind φ1 = some r := hm
              exact ⟨f3, hd3, hF.weak [0, 1, 6, 29, 30] (by kernel_rfl), hS, hm⟩
      · refine cond_ev (t := 31) (b := decide (z1 < (((List.replicate (Int.toNat (w64 (w1 * h1))) ([] : List Int)).length : Nat) : Int))) hF (by kernel_rfl) (fun hb => ?_) (fun hb => ?_)
        · replace hm := if_t hm hb
          refine wpIn_skip ?_
          refine then_n ?_
          exact ⟨hF.weak [0, 1, 6, 29, 30] (by kernel_rfl), hS, hm⟩
        · replace hm := if_f hm hb
          refine wpIn_exit ?_
          refine then_e (then_e (block_e (then_n ?_)))
          rw [← hφ1] at hm
          replace hm := done_b hm
          unfold tour_newField_K1 at hm
          try dsimp only at hm
          have hm : (tour_newField_J2 f1).bind some = some r := hm
          exact ⟨f1, hd1, hF.weak [6] (by kernel_rfl), hS, hm⟩
  · refine reg [⟨true, [], vS (Builtin.min_ #[3, 3] 3 #[.int .i64 w1, .int .i64 h1]), .int .i64 (minI w1 h1)⟩, ⟨true, [(decide ((minI w1 h1) < 1), false)], vS (Builtin.max_ #[3, 3] 3 #[.int .i64 w1, .int .i64 h1]), .int .i64 (maxI w1 h1)⟩] [none, none, some (.int .i64 (minI w1 h1)), none, none, none, none, some (.int .i64 (maxI w1 h1)), none, none] [0, 1, 23] [pl 0 (.int .i64 w1), pl 1 (.int .i64 h1), pl 23 (.bool ((decide ((minI w1 h1) < 1)) || (decide ((8 : Int) < (maxI w1 h1)))))] hF hS Fol (by kernel_rfl) (by kernel_rfl) (by kernel_rfl) ?_ (fun a w hF hS => ?_)
    · exact obs_cons (ob_min rfl) <| obs_cons (ob_max rfl) <| obs_nil
    refine cond_ev (t := 23) (b := (decide ((minI w1 h1) < 1)) || (decide ((8 : Int) < (maxI w1 h1)))) hF (by kernel_rfl) (fun hb => ?_) (fun hb => ?_)
    · replace hm := if_t hm hb
      refine reg [] [] [4, 5] [pl 4 (.slice none 0 0), pl 5 (.int .i64 3)] hF hS Fol (by kernel_rfl) (by kernel_rfl) (by kernel_rfl) ?_ (fun a w hF hS => ?_)
      · exact obs_nil
      refine wpIn_ret ?_
      refine then_r ?_
      have hS : Sep w0 B w (rows 22 3 (.slice none 0 0) ([]) ([] : List (List Int)) :: fs) := hS.nilRows0 22 3
      have hl1 := (hS.at_ 0 rfl).lenR
      have hS := (hS.at_ 0 rfl).reNR hl1
      have hS : Sep w0 B w (rows 22 3 (.slice none (([] : List (List Int)).length) 0) ([]) ([] : List (List Int)) :: fs) := hS
      have hm : some (([] : List (List Int)), 3) = some r := hm
      obtain rfl := Option.some.inj hm
      exact retV (rs := [.tmp 4, .tmp 5]) (vs := [.slice none (([] : List (List Int)).length) 0, .int .i64 3]) hF rfl (rv_t (by kernel_rfl) <| rv_t (by kernel_rfl) <| rv_nil) rfl ⟨_, rfl, none, 0, ([]), rfl, hS⟩
    · replace hm := if_f hm hb
      refine wpIn_skip ?_
      refine then_n ?_
      exact ⟨hF.weak [0, 1] (by kernel_rfl), hS, hm⟩

noncomputable def tour_field_has_m  (f1 : List (List Int)) (at1 : Int) : Option Bool :=
  some ((decide ((0 : Int) ≤ at1)) && (decide (at1 < (f1.length : Int))))

set_option maxRecDepth 100000 in
set_option maxHeartbeats 4000000 in
theorem tour_field_has_w {A1 : Option Addr} {c1 : Nat} {n1 : Nat} {hd1 : List Hd} {f1 : List (List Int)} {at1 : Int} {r : Bool} {w0 w : World} {B : Nat} {fs : List HP} (hm : tour_field_has_m f1 at1 = some r) (hS : Sep w0 B w (fs)) (hr_f1 : RdRowsF w0 B fs A1 hd1 f1) (_hc_f1 : f1.length ≤ c1) (_hn_f1 : n1 = f1.length) :
    Calls Tryd.prog 29 #[.slice A1 n1 c1, .int .i64 at1] w fun e w' => e = .returned (.bool r) ∧ Sep w0 B w' (fs) := by
  obtain rfl := _hn_f1
  unfold tour_field_has_m at hm
  replace hm := start_b hm
  refine enter (l := [.slice A1 f1.length c1, .int .i64 at1]) (n := 13) Tryd.func29 rfl rfl (by simp) (fun a hF => ?_)
  refine reg [] [] [0, 1] [pl 0 (.slice A1 f1.length c1), pl 1 (.int .i64 at1)] hF hS Fol (by kernel_rfl) (by kernel_rfl) (by kernel_rfl) ?_ (fun a w hF hS => ?_)
  · exact obs_nil
  refine reg [] [] [4] [pl 4 (.bool ((decide ((0 : Int) ≤ at1)) && (decide (at1 < (f1.length : Int)))))] hF hS Fol (by kernel_rfl) (by kernel_rfl) (by kernel_rfl) ?_ (fun a w hF hS => ?_)
  · exact obs_nil
  refine wpIn_ret ?_
  have hm : some ((decide ((0 : Int) ≤ at1)) && (decide (at1 < (f1.length : Int)))) = some r := hm
  obtain rfl := Option.some.inj hm
  exact retV (rs := [.tmp 4]) (vs := [.bool ((decide ((0 : Int) ≤ at1)) && (decide (at1 < (f1.length : Int))))]) hF rfl (rv_t (by kernel_rfl) <| rv_nil) rfl ⟨rfl, hS⟩

noncomputable def tour_at_J3  (z1 : Int) (e3 : Int) : Option (St (Int × Int) Int) :=
  some (.next (e3, (w64 (z1 + 1))))

noncomputable def tour_at_J2  (places1 : List Int) (r1 : (List (List Int) × Int)) (e1 : Int) (z1 : Int) : Option (St (Int × Int) Int) :=
  asrt (0 ≤ z1 ∧ z1 < (places1.length : Int)) <| ((if (e1 == 0) then tour_field_has_m r1.1 (geti places1 z1) else some false)).bind fun r2 => if ((e1 == 0) && (!r2)) then ((tour_at_J3 z1) 5) else ((tour_at_J3 z1) e1)

noncomputable def tour_at_J1  (r1 : (List (List Int) × Int)) (e2 : Int) : Option (List (List Int) × Int) :=
  some (r1.1, e2)

noncomputable def tour_at_K1  (r1 : (List (List Int) × Int)) : Int → Option (List (List Int) × Int) :=
  fun (x : Int) => match x with | e2 => (tour_at_J1 r1) e2

noncomputable def tour_at_L1  (places1 : List Int) (r1 : (List (List Int) × Int)) : (Int × Int) → Option (St (Int × Int) Int) :=
  fun (x : (Int × Int)) => match x with | (e1, z1) => if (decide (z1 < (places1.length : Int))) then ((tour_at_J2 places1 r1 e1 z1)) else (some (.done e1))

noncomputable def tour_at_m  (w1 : Int) (h1 : Int) (places1 : List Int) : Option (List (List Int) × Int) :=
  (tour_newField_m w1 h1).bind fun r1 => (loop (tour_at_L1 places1 r1) (r1.2, 0)).bind (tour_at_K1 r1)

set_option maxRecDepth 100000 in
set_option maxHeartbeats 4000000 in
theorem tour_at_w {w1 : Int} {h1 : Int} {A1 : Option Addr} {c1 : Nat} {n1 : Nat} {places1 : List Int} {r : (List (List Int) × Int)} {w0 w : World} {B : Nat} {fs : List HP} [GLV 0 glob0 w0 B] (hm : tour_at_m w1 h1 places1 = some r) (hS : Sep w0 B w (fs)) (hr_places1 : RdF w0 B fs A1 (vI places1)) (_hc_places1 : places1.length ≤ c1) (_hn_places1 : n1 = places1.length) :
    Calls Tryd.prog 27 #[.int .i64 w1, .int .i64 h1, .slice A1 n1 c1] w fun e w' => ∃ v, e = .returned v ∧ ∃ (A3 : Option Addr) (c3 : Nat) (hd2 : List Hd), v = .tuple #[.slice A3 r.1.length c3, .int .i64 r.2] ∧ Sep w0 B w' (rows 22 3 (.slice A3 r.1.length c3) hd2 r.1 :: fs) := by
  obtain ⟨i3, hi3, hz3, hs3, hb3⟩ := info_parts Info3
  obtain rfl := _hn_places1
  unfold tour_at_m at hm
  replace hm := start_b hm
  refine enter (l := [.int .i64 w1, .int .i64 h1, .slice A1 places1.length c1]) (n := 35) Tryd.func27 rfl rfl (by simp) (fun a hF => ?_)
  refine reg [] [] [0, 1, 2] [pl 0 (.int .i64 w1), pl 1 (.int .i64 h1), pl 2 (.slice A1 places1.length c1)] hF hS Fol (by kernel_rfl) (by kernel_rfl) (by kernel_rfl) ?_ (fun a w hF hS => ?_)
  · exact obs_nil
  refine seqR ?_
  obtain ⟨r1, hr1, hm⟩ := call_b hm
  refine at_run 2 [] [] [2, 13, 14] [pl 2 (.slice A1 places1.length c1), pl 13 (.int .i64 w1), pl 14 (.int .i64 h1)] hF hS (by kernel_rfl) (by kernel_rfl) ?_ (fun a w hF hS => ?_)
  · exact obs_nil
  refine at_call (f := 28) (args := #[.int .i64 w1, .int .i64 h1]) (d := 15) hF (by kernel_rfl) (by kernel_rfl) Tryd.func28 (by kernel_rfl) rfl (tour_newField_w hr1 hS ) (fun v a w hR hF => ?_)
  clear hS
  obtain ⟨A2, c2, hd1, rfl, hS⟩ := hR
  have hS : Sep w0 B w (rows 22 3 (.slice A2 r1.1.length c2) hd1 r1.1 :: fs) := hS
  refine at_run 5 [] [] [2, 8, 9] [pl 2 (.slice A1 places1.length c1), pl 8 (.slice A2 r1.1.length c2), pl 9 (.int .i64 r1.2)] hF hS (by kernel_rfl) (by kernel_rfl) ?_ (fun a w hF hS => ?_)
  · exact obs_nil
  refine at_end [2, 8, 9] [pl 2 (.slice A1 places1.length c1), pl 8 (.slice A2 r1.1.length c2), pl 9 (.int .i64 r1.2)] hF rfl (by kernel_rfl) (fun hF => ?_)
  refine then_n ?_
  refine seq_cut (fun a w => ∃ (e2 : Int), Fr 35 [pl 8 (.slice A2 r1.1.length c2), pl 9 (.int .i64 e2)] a ∧ Sep w0 B w (rows 22 3 (.slice A2 r1.1.length c2) hd1 r1.1 :: fs) ∧ ((tour_at_J1 r1) e2).bind some = some r) ?_ ?_
  · rintro a w ⟨e2, hF, hS, hm⟩
    unfold tour_at_J1 at hm
    refine reg [] [] [6, 7] [pl 6 (.slice A2 r1.1.length c2), pl 7 (.int .i64 e2)] hF hS Fol (by kernel_rfl) (by kernel_rfl) (by kernel_rfl) ?_ (fun a w hF hS => ?_)
    · exact obs_nil
    refine wpIn_ret ?_
    have hm : some (r1.1, e2) = some r := hm
    obtain rfl := Option.some.inj hm
    exact retV (rs := [.tmp 6, .tmp 7]) (vs := [.slice A2 r1.1.length c2, .int .i64 e2]) hF rfl (rv_t (by kernel_rfl) <| rv_t (by kernel_rfl) <| rv_nil) rfl ⟨_, rfl, A2, c2, hd1, rfl, hS⟩
  · refine reg [] [] [8, 9, 18, 19, 20] [pl 8 (.slice A2 r1.1.length c2), pl 9 (.int .i64 r1.2), pl 18 (.slice A1 places1.length c1), pl 19 (.int .i64 (places1.length : Int)), pl 20 (.int .i64 0)] hF hS Fol (by kernel_rfl) (by kernel_rfl) (by kernel_rfl) ?_ (fun a w hF hS => ?_)
    · exact obs_nil
    refine wpIn_block ?_
    refine wp_loop_model (S := (Int × Int)) (R := Int) (tour_at_L1 places1 r1) (fun x => ((tour_at_K1 r1) x).bind some) r (fun (x : (Int × Int)) a w => Fr 35 [pl 8 (.slice A2 r1.1.length c2), pl 9 (.int .i64 x.1), pl 18 (.slice A1 places1.length c1), pl 19 (.int .i64 (places1.length : Int)), pl 20 (.int .i64 x.2)] a ∧ Sep w0 B w (rows 22 3 (.slice A2 r1.1.length c2) hd1 r1.1 :: fs)) (assoc_b hm) ⟨hF.weak [8, 9, 18, 19, 20] (by kernel_rfl), hS⟩ ?_
    clear hF hS hm
    rintro nn1 ⟨e1, z1⟩ a w ⟨hF, hS⟩ hm
    generalize hφ1 : stK (tour_at_L1 places1 r1) nn1 (fun x => ((tour_at_K1 r1) x).bind some) = φ1 at hm
    unfold tour_at_L1 at hm
    dsimp only at hF hS hm
    refine reg [] [] [8, 9, 18, 19, 20, 21] [pl 8 (.slice A2 r1.1.length c2), pl 9 (.int .i64 e1), pl 18 (.slice A1 places1.length c1), pl 19 (.int .i64 (places1.length : Int)), pl 20 (.int .i64 z1), pl 21 (.bool (decide (z1 < (places1.length : Int))))] hF hS Fol (by kernel_rfl) (by kernel_rfl) (by kernel_rfl) ?_ (fun a w hF hS => ?_)
    · exact obs_nil
    refine seq_cut (fun a w => Fr 35 [pl 8 (.slice A2 r1.1.length c2), pl 9 (.int .i64 e1), pl 18 (.slice A1 places1.length c1), pl 19 (.int .i64 (places1.length : Int)), pl 20 (.int .i64 z1)] a ∧ Sep w0 B w (rows 22 3 (.slice A2 r1.1.length c2) hd1 r1.1 :: fs) ∧ ((tour_at_J2 places1 r1 e1 z1)).bind φ1 = some r) ?_ ?_
    · rintro a w ⟨hF, hS, hm⟩
      unfold tour_at_J2 at hm
      refine seq_cut (fun a w => ∃ (e3 : Int), Fr 35 [pl 8 (.slice A2 r1.1.length c2), pl 9 (.int .i64 e3), pl 18 (.slice A1 places1.length c1), pl 19 (.int .i64 (places1.length : Int)), pl 20 (.int .i64 z1)] a ∧ Sep w0 B w (rows 22 3 (.slice A2 r1.1.length c2) hd1 r1.1 :: fs) ∧ ((tour_at_J3 z1) e3).bind φ1 = some r) ?_ ?_
      · rintro a w ⟨e3, hF, hS, hm⟩
        unfold tour_at_J3 at hm
        refine reg1 [] [] [8, 9, 18, 19, 20] [pl 8 (.slice A2 r1.1.length c2), pl 9 (.int .i64 e3), pl 18 (.slice A1 places1.length c1), pl 19 (.int .i64 (places1.length : Int)), pl 20 (.int .i64 (w64 (z1 + 1)))] hF hS Fol (by kernel_rfl) (by kernel_rfl) (by kernel_rfl) ?_ (fun a w hF hS => ?_)
        · exact obs_nil
        refine then_n ?_
        rw [← hφ1] at hm
        exact ⟨(e3, (w64 (z1 + 1))), ⟨hF.weak [8, 9, 18, 19, 20] (by kernel_rfl), hS⟩, hm⟩
      · refine wpIn_block ?_
        obtain ⟨hp1, hm⟩ := asrt_b hm
        refine reg [⟨true, [], vS (Instr.indexAt 22 (.slice A1 places1.length c1) (.int .i64 z1)), .pointer (some (sAddr A1 z1))⟩, ⟨false, [], vS (Instr.loadAt 3 (.pointer (some (sAddr A1 z1)))), .int .i64 (geti places1 z1)⟩] [some (.pointer (some (sAddr A1 z1))), some (.int .i64 (geti places1 z1)), none] [8, 9, 11, 18, 19, 20] [pl 8 (.slice A2 r1.1.length c2), pl 9 (.int .i64 e1), pl 11 (.int .i64 (geti places1 z1)), pl 18 (.slice A1 places1.length c1), pl 19 (.int .i64 (places1.length : Int)), pl 20 (.int .i64 z1)] hF hS Fol (by kernel_rfl) (by kernel_rfl) (by kernel_rfl) ?_ (fun a w hF hS => ?_)
        · exact obs_cons (ob_ix1 (f := (Value.int .i64)) (m := places1) Und22 hi3 hs3 (hr_places1 _ (hS.dropN 1)) rfl (fun _ => hp1)) <| obs_cons (ob_get1 (n := places1.length) (m := places1) (Value.int .i64) (0 : Int) Agg3 (fun _ hS => ⟨_, (hr_places1 _ (hS.dropN 1))⟩) (fun _ hS => rfl) (fun _ => hp1)) <| obs_nil
        obtain ⟨r2, hr2, hm⟩ := call_b hm
        refine reg [⟨false, [((e1 == 0), true)], callFunc 29 #[.slice A2 r1.1.length c2, .int .i64 (geti places1 z1)], .bool r2⟩] [none, none, none, none, none, some (.bool r2), none, none] [8, 9, 18, 19, 20, 31] [pl 8 (.slice A2 r1.1.length c2), pl 9 (.int .i64 e1), pl 18 (.slice A1 places1.length c1), pl 19 (.int .i64 (places1.length : Int)), pl 20 (.int .i64 z1), pl 31 (.bool ((e1 == 0) && (!r2)))] hF hS Fol (by kernel_rfl) (by kernel_rfl) (by kernel_rfl) ?_ (fun a w hF hS => ?_)
        · exact obs_cons (ob_call Tryd.func29 (by kernel_rfl) rfl (fun hy _ hS => tour_field_has_w (ite_some hr2 (by rw [show (e1 == 0) = true from hy ((e1 == 0), true) (by simp)]; try rfl)) hS (fun _ hS => (hS.at_ 0 rfl).rdRows) (hS.at_ 0 rfl).rowsLen.2 (hS.at_ 0 rfl).lenR)) <| obs_nil
        refine cond_ev (t := 31) (b := (e1 == 0) && (!r2)) hF (by kernel_rfl) (fun hb => ?_) (fun hb => ?_)
        · replace hm := if_t hm hb
          refine reg1 [] [] [8, 9, 18, 19, 20] [pl 8 (.slice A2 r1.1.length c2), pl 9 (.int .i64 5), pl 18 (.slice A1 places1.length c1), pl 19 (.int .i64 (places1.length : Int)), pl 20 (.int .i64 z1)] hF hS Fol (by kernel_rfl) (by kernel_rfl) (by kernel_rfl) ?_ (fun a w hF hS => ?_)
          · exact obs_nil
          refine block_n ?_
          refine then_n ?_
          exact ⟨5, hF.weak [8, 9, 18, 19, 20] (by kernel_rfl), hS, hm⟩
        · replace hm := if_f hm hb
          refine wpIn_skip ?_
          refine block_n ?_
          refine then_n ?_
          exact ⟨e1, hF.weak [8, 9, 18, 19, 20] (by kernel_rfl), hS, hm⟩
    · refine cond_ev (t := 21) (b := decide (z1 < (places1.length : Int))) hF (by kernel_rfl) (fun hb => ?_) (fun hb => ?_)
      · replace hm := if_t hm hb
        refine wpIn_skip ?_
        refine then_n ?_
        exact ⟨hF.weak [8, 9, 18, 19, 20] (by kernel_rfl), hS, hm⟩
      · replace hm := if_f hm hb
        refine wpIn_exit ?_
        refine then_e (then_e (block_e (then_n ?_)))
        rw [← hφ1] at hm
        replace hm := done_b hm
        unfold tour_at_K1 at hm
        try dsimp only at hm
        have hm : ((tour_at_J1 r1) e1).bind some = some r := hm
        exact ⟨e1, hF.weak [8, 9] (by kernel_rfl), hS, hm⟩

noncomputable def tour_Walks_J9  (r1 : (List (List Int) × Int)) (many1 : List Int) (z2 : Int) (next3 : List Int) (z3 : Int) : Option (St (List Int × Int) (List Int)) :=
  some (.next ((next3.set (Int.toNat (geti (geti2 r1.1 z2) z3)) (w64 ((geti next3 (geti (geti2 r1.1 z2) z3)) + (geti many1 z2)))), (w64 (z3 + 1))))

noncomputable def tour_Walks_J8  (r1 : (List (List Int) × Int)) (many1 : List Int) (z2 : Int) (next3 : List Int) (z3 : Int) : Option (St (List Int × Int) (List Int)) :=
  asrt (0 ≤ z3 ∧ z3 < (((geti2 r1.1 z2).length : Nat) : Int)) <| asrt (0 ≤ (geti (geti2 r1.1 z2) z3) ∧ (geti (geti2 r1.1 z2) z3) < (((Int.toNat (r1.1.length : Int)) : Nat) : Int)) <| asrt (0 ≤ (geti (geti2 r1.1 z2) z3) ∧ (geti (geti2 r1.1 z2) z3) < (((Int.toNat (r1.1.length : Int)) : Nat) : Int)) <| (tour_Walks_J9 r1 many1 z2 next3 z3)

noncomputable def tour_Walks_J7  (z2 : Int) (next4 : List Int) : Option (St (List Int × Int) (List Int)) :=
  some (.next (next4, (w64 (z2 + 1))))

noncomputable def tour_Walks_K3  (z2 : Int) : (List Int) → Option (St (List Int × Int) (List Int)) :=
  fun (x : (List Int)) => match x with | next4 => (tour_Walks_J7 z2) next4

noncomputable def tour_Walks_L3  (r1 : (List (List Int) × Int)) (many1 : List Int) (z2 : Int) : (List Int × Int) → Option (St (List Int × Int) (List Int)) :=
  fun (x : (List Int × Int)) => match x with | (next3, z3) => if (decide (z3 < (((geti2 r1.1 z2).length : Nat) : Int))) then ((tour_Walks_J8 r1 many1 z2 next3 z3)) else (some (.done next3))

noncomputable def tour_Walks_J6  (r1 : (List (List Int) × Int)) (many1 : List Int) (next1 : List Int) (z2 : Int) : Option (St (List Int × Int) (List Int)) :=
  asrt (0 ≤ z2 ∧ z2 < (many1.length : Int)) <| asrt (0 ≤ z2 ∧ z2 < (r1.1.length : Int)) <| (loop (tour_Walks_L3 r1 many1 z2) (next1, 0)).bind (tour_Walks_K3 z2)

noncomputable def tour_Walks_J4  (z1 : Int) (many3 : List Int) : Option (St (List Int × Int) (List Int)) :=
  some (.next (many3, (w64 (z1 + 1))))

noncomputable def tour_Walks_J5  (z1 : Int) (next2 : List Int) : Option (St (List Int × Int) (List Int)) :=
  (tour_Walks_J4 z1) next2

noncomputable def tour_Walks_K2  (z1 : Int) : (List Int) → Option (St (List Int × Int) (List Int)) :=
  fun (x : (List Int)) => match x with | next2 => (tour_Walks_J5 z1) next2

noncomputable def tour_Walks_L2  (r1 : (List (List Int) × Int)) (many1 : List Int) : (List Int × Int) → Option (St (List Int × Int) (List Int)) :=
  fun (x : (List Int × Int)) => match x with | (next1, z2) => if (decide (z2 < (many1.length : Int))) then ((tour_Walks_J6 r1 many1 next1 z2)) else (some (.done next1))

noncomputable def tour_Walks_J3  (r1 : (List (List Int) × Int)) (many1 : List Int) (z1 : Int) : Option (St (List Int × Int) (List Int)) :=
  asrt ((0 : Int) ≤ (r1.1.length : Int) ∧ (r1.1.length : Int) ≤ bigN) <| (loop (tour_Walks_L2 r1 many1) ((List.replicate (Int.toNat (r1.1.length : Int)) (0 : Int)), 0)).bind (tour_Walks_K2 z1)

noncomputable def tour_Walks_J2  (to1 : Int) (many2 : List Int) : Option (Int × Int) :=
  asrt (0 ≤ to1 ∧ to1 < (many2.length : Int)) <| some ((geti many2 to1), 0)

noncomputable def tour_Walks_K1  (to1 : Int) : (List Int) → Option (Int × Int) :=
  fun (x : (List Int)) => match x with | many2 => (tour_Walks_J2 to1) many2

noncomputable def tour_Walks_L1  (steps1 : Int) (r1 : (List (List Int) × Int)) : (List Int × Int) → Option (St (List Int × Int) (List Int)) :=
  fun (x : (List Int × Int)) => match x with | (many1, z1) => if (decide (z1 < steps1)) then ((tour_Walks_J3 r1 many1 z1)) else (some (.done many1))

noncomputable def tour_Walks_J1  (from1 : Int) (to1 : Int) (steps1 : Int) (r1 : (List (List Int) × Int)) : Option (Int × Int) :=
  asrt ((0 : Int) ≤ (r1.1.length : Int) ∧ (r1.1.length : Int) ≤ bigN) <| asrt (0 ≤ from1 ∧ from1 < (((Int.toNat (r1.1.length : Int)) : Nat) : Int)) <| (loop (tour_Walks_L1 steps1 r1) (((List.replicate (Int.toNat (r1.1.length : Int)) (0 : Int)).set (Int.toNat from1) 1), 0)).bind (tour_Walks_K1 to1)

noncomputable def tour_Walks_m  (w1 : Int) (h1 : Int) (from1 : Int) (to1 : Int) (steps1 : Int) : Option (Int × Int) :=
  (tour_at_m w1 h1 ([from1, to1] : List Int)).bind fun r1 => if (r1.2 != 0) then (some (0, r1.2)) else (if ((decide (steps1 < 0)) || (decide ((12 : Int) < steps1))) then (some (0, 11)) else ((tour_Walks_J1 from1 to1 steps1 r1)))

set_option maxRecDepth 100000 in
set_option maxHeartbeats 4000000 in
theorem tour_Walks_w {w1 : Int} {h1 : Int} {from1 : Int} {to1 : Int} {steps1 : Int} {r : (Int × Int)} {w0 w : World} {B : Nat} {fs : List HP} [GLV 0 glob0 w0 B] (hm : tour_Walks_m w1 h1 from1 to1 steps1 = some r) (hS : Sep w0 B w (fs)) :
    Calls Tryd.prog 15 #[.int .i64 w1, .int .i64 h1, .int .i64 from1, .int .i64 to1, .int .i64 steps1] w fun e w' => e = .returned (.tuple #[.int .i64 r.1, .int .i64 r.2]) ∧ Sep w0 B w' (fs) := by
  obtain ⟨i3, hi3, hz3, hs3, hb3⟩ := info_parts Info3
  obtain ⟨i22, hi22, hz22, hs22, hb22⟩ := info_parts Info22
  unfold tour_Walks_m at hm
  replace hm := start_b hm
  refine enter (l := [.int .i64 w1, .int .i64 h1, .int .i64 from1, .int .i64 to1, .int .i64 steps1]) (n := 83) Tryd.func15 rfl rfl (by simp) (fun a hF => ?_)
  refine reg [] [] [0, 1, 2, 3, 4] [pl 0 (.int .i64 w1), pl 1 (.int .i64 h1), pl 2 (.int .i64 from1), pl 3 (.int .i64 to1), pl 4 (.int .i64 steps1)] hF hS Fol (by kernel_rfl) (by kernel_rfl) (by kernel_rfl) ?_ (fun a w hF hS => ?_)
  · exact obs_nil
  refine seqR ?_
  obtain ⟨r1, hr1, hm⟩ := call_b hm
  refine at_run 4 [] [] [2, 3, 4, 21, 22, 23, 24] [pl 2 (.int .i64 from1), pl 3 (.int .i64 to1), pl 4 (.int .i64 steps1), pl 21 (.int .i64 w1), pl 22 (.int .i64 h1), pl 23 (.int .i64 from1), pl 24 (.int .i64 to1)] hF hS (by kernel_rfl) (by kernel_rfl) ?_ (fun a w hF hS => ?_)
  · exact obs_nil
  refine at_do (d := 25) (s := vS (Instr.buildSlice 22 2 #[(0, .int .i64 from1), (1, .int .i64 to1)])) (v := .slice (some ⟨w.heap.size, 0, none⟩) 2 2) (w' := w.alloc (.cells #[.int .i64 from1, .int .i64 to1] 3)) hF (by kernel_rfl) (by kernel_rfl) (by kernel_rfl) (fun a hF => ?_)
  have hS : Sep w0 B (w.alloc (.cells #[.int .i64 from1, .int .i64 to1] 3)) (own 3 (.slice (some (⟨w.heap.size, 0, none⟩ : Addr)) 2 2) (vI ([from1, to1] : List Int)) :: (fs)) := hS.lit 3 #[.int .i64 from1, .int .i64 to1] 2 rfl (by omega)
  generalize (some (⟨w.heap.size, 0, none⟩ : Addr)) = g1 at hF hS
  generalize w.alloc (.cells #[.int .i64 from1, .int .i64 to1] 3) = w at hS ⊢
  refine at_call (f := 27) (args := #[.int .i64 w1, .int .i64 h1, .slice g1 2 2]) (d := 26) hF (by kernel_rfl) (by kernel_rfl) Tryd.func27 (by kernel_rfl) rfl (tour_at_w hr1 hS (fun _ hS => (hS.at_ 0 rfl).rd) ((hS.at_ 0 rfl).cap1) ((hS.at_ 0 rfl).len1)) (fun v a w hR hF => ?_)
  clear hS
  obtain ⟨A1, c1, hd1, rfl, hS⟩ := hR
  have hS : Sep w0 B w (rows 22 3 (.slice A1 r1.1.length c1) hd1 r1.1 :: own 3 (.slice g1 2 2) (vI ([from1, to1] : List Int)) :: fs) := hS
  refine at_run 5 [] [] [2, 3, 4, 12, 13] [pl 2 (.int .i64 from1), pl 3 (.int .i64 to1), pl 4 (.int .i64 steps1), pl 12 (.slice A1 r1.1.length c1), pl 13 (.int .i64 r1.2)] hF hS (by kernel_rfl) (by kernel_rfl) ?_ (fun a w hF hS => ?_)
  · exact obs_nil
  refine at_end [2, 3, 4, 12, 13] [pl 2 (.int .i64 from1), pl 3 (.int .i64 to1), pl 4 (.int .i64 steps1), pl 12 (.slice A1 r1.1.length c1), pl 13 (.int .i64 r1.2)] hF rfl (by kernel_rfl) (fun hF => ?_)
  refine then_n ?_
  refine seq_cut (fun a w => Fr 83 [pl 2 (.int .i64 from1), pl 3 (.int .i64 to1), pl 4 (.int .i64 steps1), pl 12 (.slice A1 r1.1.length c1)] a ∧ Sep w0 B w (rows 22 3 (.slice A1 r1.1.length c1) hd1 r1.1 :: fs) ∧ ((tour_Walks_J1 from1 to1 steps1 r1)).bind some = some r) ?_ ?_
  · rintro a w ⟨hF, hS, hm⟩
    unfold tour_Walks_J1 at hm
    refine seqR ?_
    obtain ⟨hp1, hm⟩ := asrt_b hm
    refine at_run 2 [] [] [2, 3, 4, 12, 41] [pl 2 (.int .i64 from1), pl 3 (.int .i64 to1), pl 4 (.int .i64 steps1), pl 12 (.slice A1 r1.1.length c1), pl 41 (.int .i64 (r1.1.length : Int))] hF hS (by kernel_rfl) (by kernel_rfl) ?_ (fun a w hF hS => ?_)
    · exact obs_nil
    obtain ⟨A2, c2, w, hrun, hS⟩ := run_mk1 (P := Tryd.prog) (t := 22) (Value.int .i64) (0 : Int) hS .i64 .i64 Und22 hi3 hz3 hs3 (by omega) rfl hp1
    have hS : Sep w0 B w (own 3 (.slice A2 (Int.toNat (r1.1.length : Int)) c2) (vI (List.replicate (Int.toNat (r1.1.length : Int)) (0 : Int))) :: rows 22 3 (.slice A1 r1.1.length c1) hd1 r1.1 :: fs) := hS
    refine at_do (d := 42) hF (by kernel_rfl) (by kernel_rfl) hrun (fun a hF => ?_)
    refine at_run 1 [] [] [2, 3, 4, 12, 14] [pl 2 (.int .i64 from1), pl 3 (.int .i64 to1), pl 4 (.int .i64 steps1), pl 12 (.slice A1 r1.1.length c1), pl 14 (.slice A2 (Int.toNat (r1.1.length : Int)) c2)] hF hS (by kernel_rfl) (by kernel_rfl) ?_ (fun a w hF hS => ?_)
    · exact obs_nil
    refine at_end [2, 3, 4, 12, 14] [pl 2 (.int .i64 from1), pl 3 (.int .i64 to1), pl 4 (.int .i64 steps1), pl 12 (.slice A1 r1.1.length c1), pl 14 (.slice A2 (Int.toNat (r1.1.length : Int)) c2)] hF rfl (by kernel_rfl) (fun hF => ?_)
    refine then_n ?_
    refine seqR ?_
    obtain ⟨hp2, hm⟩ := asrt_b hm
    refine at_run 3 [⟨true, [], vS (Instr.indexAt 22 (.slice A2 (Int.toNat (r1.1.length : Int)) c2) (.int .i64 from1)), .pointer (some (sAddr A2 from1))⟩] [none, none, some (.pointer (some (sAddr A2 from1)))] [3, 4, 12, 14, 45] [pl 3 (.int .i64 to1), pl 4 (.int .i64 steps1), pl 12 (.slice A1 r1.1.length c1), pl 14 (.slice A2 (Int.toNat (r1.1.length : Int)) c2), pl 45 (.pointer (some (sAddr A2 from1)))] hF hS (by kernel_rfl) (by kernel_rfl) ?_ (fun a w hF hS => ?_)
    · exact obs_cons (ob_ix1 (f := (Value.int .i64)) (m := (List.replicate (Int.toNat (r1.1.length : Int)) (0 : Int))) Und22 hi3 hs3 (hS.at_ 0 rfl).rd ((hS.at_ 0 rfl).len1) (fun _ => hp2)) <| obs_nil
    obtain ⟨w, hrun, hS⟩ := run_set1 (P := Tryd.prog) (t := 3) (x := 1) (Value.int .i64) (hS.at_ 0 rfl) hi3 hs3 rfl rfl hp2
    refine at_skip hF (by kernel_rfl) hrun ?_
    have hS : Sep w0 B w (own 3 (.slice A2 (Int.toNat (r1.1.length : Int)) c2) (vI ((List.replicate (Int.toNat (r1.1.length : Int)) (0 : Int)).set (Int.toNat from1) 1)) :: rows 22 3 (.slice A1 r1.1.length c1) hd1 r1.1 :: fs) := hS
    refine at_end [3, 4, 12, 14] [pl 3 (.int .i64 to1), pl 4 (.int .i64 steps1), pl 12 (.slice A1 r1.1.length c1), pl 14 (.slice A2 (Int.toNat (r1.1.length : Int)) c2)] hF rfl (by kernel_rfl) (fun hF => ?_)
    refine then_n ?_
    refine seq_cut (fun a w => ∃ (many2 : List Int) (A4 : Option Addr) (c4 : Nat), Fr 83 [pl 3 (.int .i64 to1), pl 14 (.slice A4 many2.length c4)] a ∧ Sep w0 B w (own 3 (.slice A4 many2.length c4) (vI many2) :: fs) ∧ ((tour_Walks_J2 to1) many2).bind some = some r) ?_ ?_
    · rintro a w ⟨many2, A4, c4, hF, hS, hm⟩
      unfold tour_Walks_J2 at hm
      obtain ⟨hp9, hm⟩ := asrt_b hm
      refine reg [⟨true, [], vS (Instr.indexAt 22 (.slice A4 many2.length c4) (.int .i64 to1)), .pointer (some (sAddr A4 to1))⟩, ⟨false, [], vS (Instr.loadAt 3 (.pointer (some (sAddr A4 to1)))), .int .i64 (geti many2 to1)⟩] [none, none, some (.pointer (some (sAddr A4 to1))), some (.int .i64 (geti many2 to1)), none, none] [10, 11] [pl 10 (.int .i64 (geti many2 to1)), pl 11 (.int .i64 0)] hF hS Fol (by kernel_rfl) (by kernel_rfl) (by kernel_rfl) ?_ (fun a w hF hS => ?_)
      · exact obs_cons (ob_ix1 (f := (Value.int .i64)) (m := many2) Und22 hi3 hs3 (hS.at_ 0 rfl).rd rfl (fun _ => hp9)) <| obs_cons (ob_get1 (n := many2.length) (m := many2) (Value.int .i64) (0 : Int) Agg3 (fun _ hS => ⟨_, (hS.at_ 0 rfl).rd⟩) (fun _ hS => rfl) (fun _ => hp9)) <| obs_nil
      refine wpIn_ret ?_
      have hS := hS.pickN 1 [] (by decide)
      have hm : some ((geti many2 to1), 0) = some r := hm
      obtain rfl := Option.some.inj hm
      exact retV (rs := [.tmp 10, .tmp 11]) (vs := [.int .i64 (geti many2 to1), .int .i64 0]) hF rfl (rv_t (by kernel_rfl) <| rv_t (by kernel_rfl) <| rv_nil) rfl ⟨rfl, hS⟩
    · refine reg [] [] [3, 12, 14, 46, 47] [pl 3 (.int .i64 to1), pl 12 (.slice A1 r1.1.length c1), pl 14 (.slice A2 (Int.toNat (r1.1.length : Int)) c2), pl 46 (.int .i64 steps1), pl 47 (.int .i64 0)] hF hS Fol (by kernel_rfl) (by kernel_rfl) (by kernel_rfl) ?_ (fun a w hF hS => ?_)
      · exact obs_nil
      refine wpIn_block ?_
      have hl1 := (hS.at_ 0 rfl).len1
      have hS := (hS.at_ 0 rfl).reN hl1
      have hS : Sep w0 B w (own 3 (.slice A2 (((List.replicate (Int.toNat (r1.1.length : Int)) (0 : Int)).set (Int.toNat from1) 1).length) c2) (vI ((List.replicate (Int.toNat (r1.1.length : Int)) (0 : Int)).set (Int.toNat from1) 1)) :: rows 22 3 (.slice A1 r1.1.length c1) hd1 r1.1 :: fs) := hS
      have hF := hF.cast (t := 14) (v := .slice A2 (Int.toNat (r1.1.length : Int)) c2) (v' := .slice A2 (((List.replicate (Int.toNat (r1.1.length : Int)) (0 : Int)).set (Int.toNat from1) 1).length) c2) rfl rfl (congrArg (fun k => Value.slice A2 k c2) hl1)
      have hS := hS.pickN 2 [1, 0] (by decide)
      refine wp_loop_model (S := (List Int × Int)) (R := (List Int)) (tour_Walks_L1 steps1 r1) (fun x => ((tour_Walks_K1 to1) x).bind some) r (fun (x : (List Int × Int)) a w => ∃ (A3 : Option Addr) (c3 : Nat), Fr 83 [pl 3 (.int .i64 to1), pl 12 (.slice A1 r1.1.length c1), pl 14 (.slice A3 x.1.length c3), pl 46 (.int .i64 steps1), pl 47 (.int .i64 x.2)] a ∧ Sep w0 B w (rows 22 3 (.slice A1 r1.1.length c1) hd1 r1.1 :: own 3 (.slice A3 x.1.length c3) (vI x.1) :: fs)) (assoc_b hm) ⟨A2, c2, hF.weak [3, 12, 14, 46, 47] (by kernel_rfl), hS⟩ ?_
      clear hF hS hm
      rintro nn1 ⟨many1, z1⟩ a w ⟨A3, c3, hF, hS⟩ hm
      generalize hφ1 : stK (tour_Walks_L1 steps1 r1) nn1 (fun x => ((tour_Walks_K1 to1) x).bind some) = φ1 at hm
      unfold tour_Walks_L1 at hm
      dsimp only at hF hS hm
      refine reg [] [] [3, 12, 14, 46, 47, 48] [pl 3 (.int .i64 to1), pl 12 (.slice A1 r1.1.length c1), pl 14 (.slice A3 many1.length c3), pl 46 (.int .i64 steps1), pl 47 (.int .i64 z1), pl 48 (.bool (decide (z1 < steps1)))] hF hS Fol (by kernel_rfl) (by kernel_rfl) (by kernel_rfl) ?_ (fun a w hF hS => ?_)
      · exact obs_nil
      refine seq_cut (fun a w => Fr 83 [pl 3 (.int .i64 to1), pl 12 (.slice A1 r1.1.length c1), pl 14 (.slice A3 many1.length c3), pl 46 (.int .i64 steps1), pl 47 (.int .i64 z1)] a ∧ Sep w0 B w (rows 22 3 (.slice A1 r1.1.length c1) hd1 r1.1 :: own 3 (.slice A3 many1.length c3) (vI many1) :: fs) ∧ ((tour_Walks_J3 r1 many1 z1)).bind φ1 = some r) ?_ ?_
      · rintro a w ⟨hF, hS, hm⟩
        unfold tour_Walks_J3 at hm
        refine seq_cut (fun a w => ∃ (many3 : List Int) (A6 : Option Addr) (c6 : Nat), Fr 83 [pl 3 (.int .i64 to1), pl 12 (.slice A1 r1.1.length c1), pl 14 (.slice A6 many3.length c6), pl 46 (.int .i64 steps1), pl 47 (.int .i64 z1)] a ∧ Sep w0 B w (rows 22 3 (.slice A1 r1.1.length c1) hd1 r1.1 :: own 3 (.slice A6 many3.length c6) (vI many3) :: fs) ∧ ((tour_Walks_J4 z1) many3).bind φ1 = some r) ?_ ?_
        · rintro a w ⟨many3, A6, c6, hF, hS, hm⟩
          unfold tour_Walks_J4 at hm
          refine reg1 [] [] [3, 12, 14, 46, 47] [pl 3 (.int .i64 to1), pl 12 (.slice A1 r1.1.length c1), pl 14 (.slice A6 many3.length c6), pl 46 (.int .i64 steps1), pl 47 (.int .i64 (w64 (z1 + 1)))] hF hS Fol (by kernel_rfl) (by kernel_rfl) (by kernel_rfl) ?_ (fun a w hF hS => ?_)
          · exact obs_nil
          refine then_n ?_
          rw [← hφ1] at hm
          exact ⟨(many3, (w64 (z1 + 1))), ⟨A6, c6, hF.weak [3, 12, 14, 46, 47] (by kernel_rfl), hS⟩, hm⟩
        · refine wpIn_block ?_
          refine seqR ?_
          obtain ⟨hp3, hm⟩ := asrt_b hm
          refine at_run 2 [] [] [3, 12, 14, 46, 47, 50] [pl 3 (.int .i64 to1), pl 12 (.slice A1 r1.1.length c1), pl 14 (.slice A3 many1.length c3), pl 46 (.int .i64 steps1), pl 47 (.int .i64 z1), pl 50 (.int .i64 (r1.1.length : Int))] hF hS (by kernel_rfl) (by kernel_rfl) ?_ (fun a w hF hS => ?_)
          · exact obs_nil
          obtain ⟨A5, c5, w, hrun, hS⟩ := run_mk1 (P := Tryd.prog) (t := 22) (Value.int .i64) (0 : Int) hS .i64 .i64 Und22 hi3 hz3 hs3 (by omega) rfl hp3
          have hS : Sep w0 B w (own 3 (.slice A5 (Int.toNat (r1.1.length : Int)) c5) (vI (List.replicate (Int.toNat (r1.1.length : Int)) (0 : Int))) :: rows 22 3 (.slice A1 r1.1.length c1) hd1 r1.1 :: own 3 (.slice A3 many1.length c3) (vI many1) :: fs) := hS
          refine at_do (d := 51) hF (by kernel_rfl) (by kernel_rfl) hrun (fun a hF => ?_)
          refine at_run 1 [] [] [3, 12, 14, 15, 46, 47] [pl 3 (.int .i64 to1), pl 12 (.slice A1 r1.1.length c1), pl 14 (.slice A3 many1.length c3), pl 15 (.slice A5 (Int.toNat (r1.1.length : Int)) c5), pl 46 (.int .i64 steps1), pl 47 (.int .i64 z1)] hF hS (by kernel_rfl) (by kernel_rfl) ?_ (fun a w hF hS => ?_)
          · exact obs_nil
          refine at_end [3, 12, 14, 15, 46, 47] [pl 3 (.int .i64 to1), pl 12 (.slice A1 r1.1.length c1), pl 14 (.slice A3 many1.length c3), pl 15 (.slice A5 (Int.toNat (r1.1.length : Int)) c5), pl 46 (.int .i64 steps1), pl 47 (.int .i64 z1)] hF rfl (by kernel_rfl) (fun hF => ?_)
          refine then_n ?_
          refine seq_cut (fun a w => ∃ (next2 : List Int), Fr 83 [pl 3 (.int .i64 to1), pl 12 (.slice A1 r1.1.length c1), pl 15 (.slice A5 (Int.toNat (r1.1.length : Int)) c5), pl 46 (.int .i64 steps1), pl 47 (.int .i64 z1)] a ∧ Sep w0 B w (rows 22 3 (.slice A1 r1.1.length c1) hd1 r1.1 :: own 3 (.slice A5 (Int.toNat (r1.1.length : Int)) c5) (vI next2) :: fs) ∧ ((tour_Walks_J5 z1) next2).bind φ1 = some r) ?_ ?_
          · rintro a w ⟨next2, hF, hS, hm⟩
            unfold tour_Walks_J5 at hm
            refine reg1 [] [] [3, 12, 14, 46, 47] [pl 3 (.int .i64 to1), pl 12 (.slice A1 r1.1.length c1), pl 14 (.slice A5 (Int.toNat (r1.1.length : Int)) c5), pl 46 (.int .i64 steps1), pl 47 (.int .i64 z1)] hF hS Fol (by kernel_rfl) (by kernel_rfl) (by kernel_rfl) ?_ (fun a w hF hS => ?_)
            · exact obs_nil
            refine block_n ?_
            refine then_n ?_
            have hl2 := (hS.at_ 1 rfl).len1
            have hS := (hS.at_ 1 rfl).reN hl2
            have hS : Sep w0 B w (rows 22 3 (.slice A1 r1.1.length c1) hd1 r1.1 :: own 3 (.slice A5 next2.length c5) (vI next2) :: fs) := hS
            have hF := hF.cast (t := 14) (v := .slice A5 (Int.toNat (r1.1.length : Int)) c5) (v' := .slice A5 next2.length c5) rfl rfl (congrArg (fun k => Value.slice A5 k c5) hl2)
            exact ⟨next2, A5, c5, hF.weak [3, 12, 14, 46, 47] (by kernel_rfl), hS, hm⟩
          · refine reg [] [] [3, 12, 15, 46, 47, 52, 53, 54] [pl 3 (.int .i64 to1), pl 12 (.slice A1 r1.1.length c1), pl 15 (.slice A5 (Int.toNat (r1.1.length : Int)) c5), pl 46 (.int .i64 steps1), pl 47 (.int .i64 z1), pl 52 (.slice A3 many1.length c3), pl 53 (.int .i64 (many1.length : Int)), pl 54 (.int .i64 0)] hF hS Fol (by kernel_rfl) (by kernel_rfl) (by kernel_rfl) ?_ (fun a w hF hS => ?_)
            · exact obs_nil
            refine wpIn_block ?_
            have hS := hS.pickN 3 [1, 0, 2] (by decide)
            refine wp_loop_model (S := (List Int × Int)) (R := (List Int)) (tour_Walks_L2 r1 many1) (fun x => ((tour_Walks_K2 z1) x).bind φ1) r (fun (x : (List Int × Int)) a w => Fr 83 [pl 3 (.int .i64 to1), pl 12 (.slice A1 r1.1.length c1), pl 15 (.slice A5 (Int.toNat (r1.1.length : Int)) c5), pl 46 (.int .i64 steps1), pl 47 (.int .i64 z1), pl 52 (.slice A3 many1.length c3), pl 53 (.int .i64 (many1.length : Int)), pl 54 (.int .i64 x.2)] a ∧ Sep w0 B w (rows 22 3 (.slice A1 r1.1.length c1) hd1 r1.1 :: own 3 (.slice A5 (Int.toNat (r1.1.length : Int)) c5) (vI x.1) :: own 3 (.slice A3 many1.length c3) (vI many1) :: fs)) (assoc_b hm) ⟨hF.weak [3, 12, 15, 46, 47, 52, 53, 54] (by kernel_rfl), hS⟩ ?_
            clear hF hS hm
            rintro nn2 ⟨next1, z2⟩ a w ⟨hF, hS⟩ hm
            generalize hφ2 : stK (tour_Walks_L2 r1 many1) nn2 (fun x => ((tour_Walks_K2 z1) x).bind φ1) = φ2 at hm
            unfold tour_Walks_L2 at hm
            dsimp only at hF hS hm
            refine reg [] [] [3, 12, 15, 46, 47, 52, 53, 54, 55] [pl 3 (.int .i64 to1), pl 12 (.slice A1 r1.1.length c1), pl 15 (.slice A5 (Int.toNat (r1.1.length : Int)) c5), pl 46 (.int .i64 steps1), pl 47 (.int .i64 z1), pl 52 (.slice A3 many1.length c3), pl 53 (.int .i64 (many1.length : Int)), pl 54 (.int .i64 z2), pl 55 (.bool (decide (z2 < (many1.length : Int))))] hF hS Fol (by kernel_rfl) (by kernel_rfl) (by kernel_rfl) ?_ (fun a w hF hS => ?_)
            · exact obs_nil
            refine seq_cut (fun a w => Fr 83 [pl 3 (.int .i64 to1), pl 12 (.slice A1 r1.1.length c1), pl 15 (.slice A5 (Int.toNat (r1.1.length : Int)) c5), pl 46 (.int .i64 steps1), pl 47 (.int .i64 z1), pl 52 (.slice A3 many1.length c3), pl 53 (.int .i64 (many1.length : Int)), pl 54 (.int .i64 z2)] a ∧ Sep w0 B w (rows 22 3 (.slice A1 r1.1.length c1) hd1 r1.1 :: own 3 (.slice A5 (Int.toNat (r1.1.length : Int)) c5) (vI next1) :: own 3 (.slice A3 many1.length c3) (vI many1) :: fs) ∧ ((tour_Walks_J6 r1 many1 next1 z2)).bind φ2 = some r) ?_ ?_
            · rintro a w ⟨hF, hS, hm⟩
              unfold tour_Walks_J6 at hm
              refine seq_cut (fun a w => ∃ (next4 : List Int), Fr 83 [pl 3 (.int .i64 to1), pl 12 (.slice A1 r1.1.length c1), pl 15 (.slice A5 (Int.toNat (r1.1.length : Int)) c5), pl 46 (.int .i64 steps1), pl 47 (.int .i64 z1), pl 52 (.slice A3 many1.length c3), pl 53 (.int .i64 (many1.length : Int)), pl 54 (.int .i64 z2)] a ∧ Sep w0 B w (rows 22 3 (.slice A1 r1.1.length c1) hd1 r1.1 :: own 3 (.slice A5 (Int.toNat (r1.1.length : Int)) c5) (vI next4) :: own 3 (.slice A3 many1.length c3) (vI many1) :: fs) ∧ ((tour_Walks_J7 z2) next4).bind φ2 = some r) ?_ ?_
              · rintro a w ⟨next4, hF, hS, hm⟩
                unfold tour_Walks_J7 at hm
                refine reg1 [] [] [3, 12, 15, 46, 47, 52, 53, 54] [pl 3 (.int .i64 to1), pl 12 (.slice A1 r1.1.length c1), pl 15 (.slice A5 (Int.toNat (r1.1.length : Int)) c5), pl 46 (.int .i64 steps1), pl 47 (.int .i64 z1), pl 52 (.slice A3 many1.length c3), pl 53 (.int .i64 (many1.length : Int)), pl 54 (.int .i64 (w64 (z2 + 1)))] hF hS Fol (by kernel_rfl) (by kernel_rfl) (by kernel_rfl) ?_ (fun a w hF hS => ?_)
                · exact obs_nil
                refine then_n ?_
                rw [← hφ2] at hm
                exact ⟨(next4, (w64 (z2 + 1))), ⟨hF.weak [3, 12, 15, 46, 47, 52, 53, 54] (by kernel_rfl), hS⟩, hm⟩
              · refine wpIn_block ?_
                obtain ⟨hp4, hm⟩ := asrt_b hm
                refine reg [⟨true, [], vS (Instr.indexAt 22 (.slice A3 many1.length c3) (.int .i64 z2)), .pointer (some (sAddr A3 z2))⟩, ⟨false, [], vS (Instr.loadAt 3 (.pointer (some (sAddr A3 z2)))), .int .i64 (geti many1 z2)⟩] [none, some (.pointer (some (sAddr A3 z2))), some (.int .i64 (geti many1 z2)), none, none] [3, 12, 15, 16, 17, 46, 47, 52, 53, 54] [pl 3 (.int .i64 to1), pl 12 (.slice A1 r1.1.length c1), pl 15 (.slice A5 (Int.toNat (r1.1.length : Int)) c5), pl 16 (.int .i64 z2), pl 17 (.int .i64 (geti many1 z2)), pl 46 (.int .i64 steps1), pl 47 (.int .i64 z1), pl 52 (.slice A3 many1.length c3), pl 53 (.int .i64 (many1.length : Int)), pl 54 (.int .i64 z2)] hF hS Fol (by kernel_rfl) (by kernel_rfl) (by kernel_rfl) ?_ (fun a w hF hS => ?_)
                · exact obs_cons (ob_ix1 (f := (Value.int .i64)) (m := many1) Und22 hi3 hs3 (hS.at_ 2 rfl).rd rfl (fun _ => hp4)) <| obs_cons (ob_get1 (n := many1.length) (m := many1) (Value.int .i64) (0 : Int) Agg3 (fun _ hS => ⟨_, (hS.at_ 2 rfl).rd⟩) (fun _ hS => rfl) (fun _ => hp4)) <| obs_nil
                obtain ⟨hp5, hm⟩ := asrt_b hm
                have hb1 := rowb (n := r1.1.length) (hS.at_ 0 rfl).lenR hp5
                refine reg [⟨true, [], vS (Instr.indexAt 50 (.slice A1 r1.1.length c1) (.int .i64 z2)), .pointer (some (sAddr A1 z2))⟩, ⟨false, [], vS (Instr.loadAt 22 (.pointer (some (sAddr A1 z2)))), .slice (hdA hd1 z2) ((geti2 r1.1 z2).length) (hdC hd1 z2)⟩] [none, none, some (.pointer (some (sAddr A1 z2))), some (.slice (hdA hd1 z2) ((geti2 r1.1 z2).length) (hdC hd1 z2)), none, none] [3, 12, 15, 17, 46, 47, 52, 53, 54, 62, 63, 64] [pl 3 (.int .i64 to1), pl 12 (.slice A1 r1.1.length c1), pl 15 (.slice A5 (Int.toNat (r1.1.length : Int)) c5), pl 17 (.int .i64 (geti many1 z2)), pl 46 (.int .i64 steps1), pl 47 (.int .i64 z1), pl 52 (.slice A3 many1.length c3), pl 53 (.int .i64 (many1.length : Int)), pl 54 (.int .i64 z2), pl 62 (.slice (hdA hd1 z2) ((geti2 r1.1 z2).length) (hdC hd1 z2)), pl 63 (.int .i64 (((geti2 r1.1 z2).length : Nat) : Int)), pl 64 (.int .i64 0)] hF hS Fol (by kernel_rfl) (by kernel_rfl) (by kernel_rfl) ?_ (fun a w hF hS => ?_)
                · exact obs_cons (ob_ixRn Und50 hi22 hs22 (hS.at_ 0 rfl).rdRows (hS.at_ 0 rfl).lenR (fun _ => hp5)) <| obs_cons (ob_getR Agg22 (fun _ hS => ⟨_, (hS.at_ 0 rfl).rdRows⟩) (fun _ => hb1)) <| obs_nil
                refine wpIn_block ?_
                refine wp_loop_model (S := (List Int × Int)) (R := (List Int)) (tour_Walks_L3 r1 many1 z2) (fun x => ((tour_Walks_K3 z2) x).bind φ2) r (fun (x : (List Int × Int)) a w => Fr 83 [pl 3 (.int .i64 to1), pl 12 (.slice A1 r1.1.length c1), pl 15 (.slice A5 (Int.toNat (r1.1.length : Int)) c5), pl 17 (.int .i64 (geti many1 z2)), pl 46 (.int .i64 steps1), pl 47 (.int .i64 z1), pl 52 (.slice A3 many1.length c3), pl 53 (.int .i64 (many1.length : Int)), pl 54 (.int .i64 z2), pl 62 (.slice (hdA hd1 z2) ((geti2 r1.1 z2).length) (hdC hd1 z2)), pl 63 (.int .i64 (((geti2 r1.1 z2).length : Nat) : Int)), pl 64 (.int .i64 x.2)] a ∧ Sep w0 B w (rows 22 3 (.slice A1 r1.1.length c1) hd1 r1.1 :: own 3 (.slice A5 (Int.toNat (r1.1.length : Int)) c5) (vI x.1) :: own 3 (.slice A3 many1.length c3) (vI many1) :: fs)) (assoc_b hm) ⟨hF.weak [3, 12, 15, 17, 46, 47, 52, 53, 54, 62, 63, 64] (by kernel_rfl), hS⟩ ?_
                clear hF hS hm
                rintro nn3 ⟨next3, z3⟩ a w ⟨hF, hS⟩ hm
                generalize hφ3 : stK (tour_Walks_L3 r1 many1 z2) nn3 (fun x => ((tour_Walks_K3 z2) x).bind φ2) = φ3 at hm
                unfold tour_Walks_L3 at hm
                dsimp only at hF hS hm
                refine reg [] [] [3, 12, 15, 17, 46, 47, 52, 53, 54, 62, 63, 64, 65] [pl 3 (.int .i64 to1), pl 12 (.slice A1 r1.1.length c1), pl 15 (.slice A5 (Int.toNat (r1.1.length : Int)) c5), pl 17 (.int .i64 (geti many1 z2)), pl 46 (.int .i64 steps1), pl 47 (.int .i64 z1), pl 52 (.slice A3 many1.length c3), pl 53 (.int .i64 (many1.length : Int)), pl 54 (.int .i64 z2), pl 62 (.slice (hdA hd1 z2) ((geti2 r1.1 z2).length) (hdC hd1 z2)), pl 63 (.int .i64 (((geti2 r1.1 z2).length : Nat) : Int)), pl 64 (.int .i64 z3), pl 65 (.bool (decide (z3 < (((geti2 r1.1 z2).length : Nat) : Int))))] hF hS Fol (by kernel_rfl) (by kernel_rfl) (by kernel_rfl) ?_ (fun a w hF hS => ?_)
                · exact obs_nil
                refine seq_cut (fun a w => Fr 83 [pl 3 (.int .i64 to1), pl 12 (.slice A1 r1.1.length c1), pl 15 (.slice A5 (Int.toNat (r1.1.length : Int)) c5), pl 17 (.int .i64 (geti many1 z2)), pl 46 (.int .i64 steps1), pl 47 (.int .i64 z1), pl 52 (.slice A3 many1.length c3), pl 53 (.int .i64 (many1.length : Int)), pl 54 (.int .i64 z2), pl 62 (.slice (hdA hd1 z2) ((geti2 r1.1 z2).length) (hdC hd1 z2)), pl 63 (.int .i64 (((geti2 r1.1 z2).length : Nat) : Int)), pl 64 (.int .i64 z3)] a ∧ Sep w0 B w (rows 22 3 (.slice A1 r1.1.length c1) hd1 r1.1 :: own 3 (.slice A5 (Int.toNat (r1.1.length : Int)) c5) (vI next3) :: own 3 (.slice A3 many1.length c3) (vI many1) :: fs) ∧ ((tour_Walks_J8 r1 many1 z2 next3 z3)).bind φ3 = some r) ?_ ?_
                · rintro a w ⟨hF, hS, hm⟩
                  unfold tour_Walks_J8 at hm
                  refine seq_cut (fun a w => Fr 83 [pl 3 (.int .i64 to1), pl 12 (.slice A1 r1.1.length c1), pl 15 (.slice A5 (Int.toNat (r1.1.length : Int)) c5), pl 17 (.int .i64 (geti many1 z2)), pl 46 (.int .i64 steps1), pl 47 (.int .i64 z1), pl 52 (.slice A3 many1.length c3), pl 53 (.int .i64 (many1.length : Int)), pl 54 (.int .i64 z2), pl 62 (.slice (hdA hd1 z2) ((geti2 r1.1 z2).length) (hdC hd1 z2)), pl 63 (.int .i64 (((geti2 r1.1 z2).length : Nat) : Int)), pl 64 (.int .i64 z3)] a ∧ Sep w0 B w (rows 22 3 (.slice A1 r1.1.length c1) hd1 r1.1 :: own 3 (.slice A5 (Int.toNat (r1.1.length : Int)) c5) (vI (next3.set (Int.toNat (geti (geti2 r1.1 z2) z3)) (w64 ((geti next3 (geti (geti2 r1.1 z2) z3)) + (geti many1 z2))))) :: own 3 (.slice A3 many1.length c3) (vI many1) :: fs) ∧ ((tour_Walks_J9 r1 many1 z2 next3 z3)).bind φ3 = some r) ?_ ?_
                  · rintro a w ⟨hF, hS, hm⟩
                    unfold tour_Walks_J9 at hm
                    refine reg1 [] [] [3, 12, 15, 17, 46, 47, 52, 53, 54, 62, 63, 64] [pl 3 (.int .i64 to1), pl 12 (.slice A1 r1.1.length c1), pl 15 (.slice A5 (Int.toNat (r1.1.length : Int)) c5), pl 17 (.int .i64 (geti many1 z2)), pl 46 (.int .i64 steps1), pl 47 (.int .i64 z1), pl 52 (.slice A3 many1.length c3), pl 53 (.int .i64 (many1.length : Int)), pl 54 (.int .i64 z2), pl 62 (.slice (hdA hd1 z2) ((geti2 r1.1 z2).length) (hdC hd1 z2)), pl 63 (.int .i64 (((geti2 r1.1 z2).length : Nat) : Int)), pl 64 (.int .i64 (w64 (z3 + 1)))] hF hS Fol (by kernel_rfl) (by kernel_rfl) (by kernel_rfl) ?_ (fun a w hF hS => ?_)
                    · exact obs_nil
                    refine then_n ?_
                    rw [← hφ3] at hm
                    exact ⟨((next3.set (Int.toNat (geti (geti2 r1.1 z2) z3)) (w64 ((geti next3 (geti (geti2 r1.1 z2) z3)) + (geti many1 z2)))), (w64 (z3 + 1))), ⟨hF.weak [3, 12, 15, 17, 46, 47, 52, 53, 54, 62, 63, 64] (by kernel_rfl), hS⟩, hm⟩
                  · refine wpIn_block ?_
                    obtain ⟨hp6, hm⟩ := asrt_b hm
                    refine reg [⟨true, [], vS (Instr.indexAt 22 (.slice (hdA hd1 z2) ((geti2 r1.1 z2).length) (hdC hd1 z2)) (.int .i64 z3)), .pointer (some (sAddr (hdA hd1 z2) z3))⟩, ⟨false, [], vS (Instr.loadAt 3 (.pointer (some (sAddr (hdA hd1 z2) z3)))), .int .i64 (geti (geti2 r1.1 z2) z3)⟩] [some (.pointer (some (sAddr (hdA hd1 z2) z3))), some (.int .i64 (geti (geti2 r1.1 z2) z3)), none] [3, 12, 15, 17, 19, 46, 47, 52, 53, 54, 62, 63, 64] [pl 3 (.int .i64 to1), pl 12 (.slice A1 r1.1.length c1), pl 15 (.slice A5 (Int.toNat (r1.1.length : Int)) c5), pl 17 (.int .i64 (geti many1 z2)), pl 19 (.int .i64 (geti (geti2 r1.1 z2) z3)), pl 46 (.int .i64 steps1), pl 47 (.int .i64 z1), pl 52 (.slice A3 many1.length c3), pl 53 (.int .i64 (many1.length : Int)), pl 54 (.int .i64 z2), pl 62 (.slice (hdA hd1 z2) ((geti2 r1.1 z2).length) (hdC hd1 z2)), pl 63 (.int .i64 (((geti2 r1.1 z2).length : Nat) : Int)), pl 64 (.int .i64 z3)] hF hS Fol (by kernel_rfl) (by kernel_rfl) (by kernel_rfl) ?_ (fun a w hF hS => ?_)
                    · exact obs_cons (ob_ix1 (f := (Value.int .i64)) (m := (geti2 r1.1 z2)) Und22 hi3 hs3 ((hS.at_ 0 rfl).rdRows.row _ hb1).1 rfl (fun _ => hp6)) <| obs_cons (ob_get1 (n := (geti2 r1.1 z2).length) (m := (geti2 r1.1 z2)) (Value.int .i64) (0 : Int) Agg3 (fun _ hS => ⟨_, ((hS.at_ 0 rfl).rdRows.row _ hb1).1⟩) (fun _ hS => rfl) (fun _ => hp6)) <| obs_nil
                    refine oneR ?_
                    obtain ⟨hp7, hm⟩ := asrt_b hm
                    obtain ⟨hp8, hm⟩ := asrt_b hm
                    refine at_run 7 [⟨true, [], vS (Instr.indexAt 22 (.slice A5 (Int.toNat (r1.1.length : Int)) c5) (.int .i64 (geti (geti2 r1.1 z2) z3))), .pointer (some (sAddr A5 (geti (geti2 r1.1 z2) z3)))⟩, ⟨false, [], vS (Instr.loadAt 3 (.pointer (some (sAddr A5 (geti (geti2 r1.1 z2) z3))))), .int .i64 (geti next3 (geti (geti2 r1.1 z2) z3))⟩, ⟨true, [], vS (Instr.indexAt 22 (.slice A5 (Int.toNat (r1.1.length : Int)) c5) (.int .i64 (geti (geti2 r1.1 z2) z3))), .pointer (some (sAddr A5 (geti (geti2 r1.1 z2) z3)))⟩] [none, none, some (.pointer (some (sAddr A5 (geti (geti2 r1.1 z2) z3)))), some (.int .i64 (geti next3 (geti (geti2 r1.1 z2) z3))), none, none, some (.pointer (some (sAddr A5 (geti (geti2 r1.1 z2) z3))))] [3, 12, 15, 17, 46, 47, 52, 53, 54, 62, 63, 64, 73, 74] [pl 3 (.int .i64 to1), pl 12 (.slice A1 r1.1.length c1), pl 15 (.slice A5 (Int.toNat (r1.1.length : Int)) c5), pl 17 (.int .i64 (geti many1 z2)), pl 46 (.int .i64 steps1), pl 47 (.int .i64 z1), pl 52 (.slice A3 many1.length c3), pl 53 (.int .i64 (many1.length : Int)), pl 54 (.int .i64 z2), pl 62 (.slice (hdA hd1 z2) ((geti2 r1.1 z2).length) (hdC hd1 z2)), pl 63 (.int .i64 (((geti2 r1.1 z2).length : Nat) : Int)), pl 64 (.int .i64 z3), pl 73 (.int .i64 (w64 ((geti next3 (geti (geti2 r1.1 z2) z3)) + (geti many1 z2)))), pl 74 (.pointer (some (sAddr A5 (geti (geti2 r1.1 z2) z3))))] hF hS (by kernel_rfl) (by kernel_rfl) ?_ (fun a w hF hS => ?_)
                    · exact obs_cons (ob_ix1 (f := (Value.int .i64)) (m := next3) Und22 hi3 hs3 (hS.at_ 1 rfl).rd ((hS.at_ 1 rfl).len1) (fun _ => hp7)) <| obs_cons (ob_get1 (n := (Int.toNat (r1.1.length : Int))) (m := next3) (Value.int .i64) (0 : Int) Agg3 (fun _ hS => ⟨_, (hS.at_ 1 rfl).rd⟩) (fun _ hS => ((hS.at_ 1 rfl).len1)) (fun _ => hp7)) <| obs_cons (ob_ix1 (f := (Value.int .i64)) (m := next3) Und22 hi3 hs3 (hS.at_ 1 rfl).rd ((hS.at_ 1 rfl).len1) (fun _ => hp8)) <| obs_nil
                    obtain ⟨w, hrun, hS⟩ := run_set1 (P := Tryd.prog) (t := 3) (x := (w64 ((geti next3 (geti (geti2 r1.1 z2) z3)) + (geti many1 z2)))) (Value.int .i64) (hS.at_ 1 rfl) hi3 hs3 rfl rfl hp8
                    refine at_skip hF (by kernel_rfl) hrun ?_
                    have hS : Sep w0 B w (rows 22 3 (.slice A1 r1.1.length c1) hd1 r1.1 :: own 3 (.slice A5 (Int.toNat (r1.1.length : Int)) c5) (vI (next3.set (Int.toNat (geti (geti2 r1.1 z2) z3)) (w64 ((geti next3 (geti (geti2 r1.1 z2) z3)) + (geti many1 z2))))) :: own 3 (.slice A3 many1.length c3) (vI many1) :: fs) := hS
                    refine at_end [3, 12, 15, 17, 46, 47, 52, 53, 54, 62, 63, 64] [pl 3 (.int .i64 to1), pl 12 (.slice A1 r1.1.length c1), pl 15 (.slice A5 (Int.toNat (r1.1.length : Int)) c5), pl 17 (.int .i64 (geti many1 z2)), pl 46 (.int .i64 steps1), pl 47 (.int .i64 z1), pl 52 (.slice A3 many1.length c3), pl 53 (.int .i64 (many1.length : Int)), pl 54 (.int .i64 z2), pl 62 (.slice (hdA hd1 z2) ((geti2 r1.1 z2).length) (hdC hd1 z2)), pl 63 (.int .i64 (((geti2 r1.1 z2).length : Nat) : Int)), pl 64 (.int .i64 z3)] hF rfl (by kernel_rfl) (fun hF => ?_)
                    refine block_n ?_
                    refine then_n ?_
                    exact ⟨hF.weak [3, 12, 15, 17, 46, 47, 52, 53, 54, 62, 63, 64] (by kernel_rfl), hS, hm⟩
                · refine cond_ev (t := 65) (b := decide (z3 < (((geti2 r1.1 z2).length : Nat) : Int))) hF (by kernel_rfl) (fun hb => ?_) (fun hb => ?_)
                  · replace hm := if_t hm hb
                    refine wpIn_skip ?_
                    refine then_n ?_
                    exact ⟨hF.weak [3, 12, 15, 17, 46, 47, 52, 53, 54, 62, 63, 64] (by kernel_rfl), hS, hm⟩
                  · replace hm := if_f hm hb
                    refine wpIn_exit ?_
                    refine then_e (then_e (block_e (block_n (then_n ?_))))
                    rw [← hφ3] at hm
                    replace hm := done_b hm
                    unfold tour_Walks_K3 at hm
                    try dsimp only at hm
                    have hm : ((tour_Walks_J7 z2) next3).bind φ2 = some r := hm
                    exact ⟨next3, hF.weak [3, 12, 15, 46, 47, 52, 53, 54] (by kernel_rfl), hS, hm⟩
            · refine cond_ev (t := 55) (b := decide (z2 < (many1.length : Int))) hF (by kernel_rfl) (fun hb => ?_) (fun hb => ?_)
              · replace hm := if_t hm hb
                refine wpIn_skip ?_
                refine then_n ?_
                exact ⟨hF.weak [3, 12, 15, 46, 47, 52, 53, 54] (by kernel_rfl), hS, hm⟩
              · replace hm := if_f hm hb
                refine wpIn_exit ?_
                refine then_e (then_e (block_e (then_n ?_)))
                have hS := hS.pickN 3 [0, 1] (by decide)
                rw [← hφ2] at hm
                replace hm := done_b hm
                unfold tour_Walks_K2 at hm
                try dsimp only at hm
                have hm : ((tour_Walks_J5 z1) next1).bind φ1 = some r := hm
                exact ⟨next1, hF.weak [3, 12, 15, 46, 47] (by kernel_rfl), hS, hm⟩
      · refine cond_ev (t := 48) (b := decide (z1 < steps1)) hF (by kernel_rfl) (fun hb => ?_) (fun hb => ?_)
        · replace hm := if_t hm hb
          refine wpIn_skip ?_
          refine then_n ?_
          exact ⟨hF.weak [3, 12, 14, 46, 47] (by kernel_rfl), hS, hm⟩
        · replace hm := if_f hm hb
          refine wpIn_exit ?_
          refine then_e (then_e (block_e (then_n ?_)))
          have hS := hS.pickN 2 [1] (by decide)
          rw [← hφ1] at hm
          replace hm := done_b hm
          unfold tour_Walks_K1 at hm
          try dsimp only at hm
          have hm : ((tour_Walks_J2 to1) many1).bind some = some r := hm
          exact ⟨many1, A3, c3, hF.weak [3, 14] (by kernel_rfl), hS, hm⟩
  · refine wpIn_block ?_
    refine reg [] [] [2, 3, 4, 12, 13, 29] [pl 2 (.int .i64 from1), pl 3 (.int .i64 to1), pl 4 (.int .i64 steps1), pl 12 (.slice A1 r1.1.length c1), pl 13 (.int .i64 r1.2), pl 29 (.bool (r1.2 != 0))] hF hS Fol (by kernel_rfl) (by kernel_rfl) (by kernel_rfl) ?_ (fun a w hF hS => ?_)
    · exact obs_nil
    refine cond_ev (t := 29) (b := (r1.2 != 0)) hF (by kernel_rfl) (fun hb => ?_) (fun hb => ?_)
    · replace hm := if_t hm hb
      refine reg [] [] [10, 11] [pl 10 (.int .i64 0), pl 11 (.int .i64 r1.2)] hF hS Fol (by kernel_rfl) (by kernel_rfl) (by kernel_rfl) ?_ (fun a w hF hS => ?_)
      · exact obs_nil
      refine wpIn_ret ?_
      refine block_r (then_r ?_)
      have hS := hS.pickN 2 [] (by decide)
      have hm : some (0, r1.2) = some r := hm
      obtain rfl := Option.some.inj hm
      exact retV (rs := [.tmp 10, .tmp 11]) (vs := [.int .i64 0, .int .i64 r1.2]) hF rfl (rv_t (by kernel_rfl) <| rv_t (by kernel_rfl) <| rv_nil) rfl ⟨rfl, hS⟩
    · replace hm := if_f hm hb
      refine reg [] [] [2, 3, 4, 12, 33] [pl 2 (.int .i64 from1), pl 3 (.int .i64 to1), pl 4 (.int .i64 steps1), pl 12 (.slice A1 r1.1.length c1), pl 33 (.bool ((decide (steps1 < 0)) || (decide ((12 : Int) < steps1))))] hF hS Fol (by kernel_rfl) (by kernel_rfl) (by kernel_rfl) ?_ (fun a w hF hS => ?_)
      · exact obs_nil
      refine cond_ev (t := 33) (b := (decide (steps1 < 0)) || (decide ((12 : Int) < steps1))) hF (by kernel_rfl) (fun hb => ?_) (fun hb => ?_)
      · replace hm := if_t hm hb
        refine reg [] [] [10, 11] [pl 10 (.int .i64 0), pl 11 (.int .i64 11)] hF hS Fol (by kernel_rfl) (by kernel_rfl) (by kernel_rfl) ?_ (fun a w hF hS => ?_)
        · exact obs_nil
        refine wpIn_ret ?_
        refine block_r (then_r ?_)
        have hS := hS.pickN 2 [] (by decide)
        have hm : some (0, 11) = some r := hm
        obtain rfl := Option.some.inj hm
        exact retV (rs := [.tmp 10, .tmp 11]) (vs := [.int .i64 0, .int .i64 11]) hF rfl (rv_t (by kernel_rfl) <| rv_t (by kernel_rfl) <| rv_nil) rfl ⟨rfl, hS⟩
      · replace hm := if_f hm hb
        refine wpIn_skip ?_
        refine block_n ?_
        refine then_n ?_
        have hS := hS.pickN 2 [0] (by decide)
        exact ⟨hF.weak [2, 3, 4, 12] (by kernel_rfl), hS, hm⟩

noncomputable def slices_Index_J3  (z1 : Int) : Option (St Int (Fl Unit Int)) :=
  some (.next (w64 (z1 + 1)))

noncomputable def slices_Index_J2  (s1 : List Int) (v1 : Int) (z1 : Int) : Option (St Int (Fl Unit Int)) :=
  asrt (0 ≤ z1 ∧ z1 < (s1.length : Int)) <| if (v1 == (geti s1 z1)) then (some (.done (.ret z1))) else ((slices_Index_J3 z1))

noncomputable def slices_Index_J1  : Option Int :=
  some (-1)

noncomputable def slices_Index_K1  : (Fl Unit Int) → Option Int :=
  fun (x : (Fl Unit Int)) => match x with | .go _ => slices_Index_J1 | .ret x => some x

noncomputable def slices_Index_L1  (s1 : List Int) (v1 : Int) : Int → Option (St Int (Fl Unit Int)) :=
  fun (x : Int) => match x with | z1 => if (decide (z1 < (s1.length : Int))) then ((slices_Index_J2 s1 v1 z1)) else (some (.done (.go ())))

noncomputable def slices_Index_m  (s1 : List Int) (v1 : Int) : Option Int :=
  (loop (slices_Index_L1 s1 v1) 0).bind slices_Index_K1

set_option maxRecDepth 100000 in
set_option maxHeartbeats 4000000 in
theorem slices_Index_w {A1 : Option Addr} {c1 : Nat} {n1 : Nat} {s1 : List Int} {v1 : Int} {r : Int} {w0 w : World} {B : Nat} {fs : List HP} (hm : slices_Index_m s1 v1 = some r) (hS : Sep w0 B w (fs)) (hr_s1 : RdF w0 B fs A1 (vI s1)) (_hc_s1 : s1.length ≤ c1) (_hn_s1 : n1 = s1.length) :
    Calls Tryd.prog 46 #[.slice A1 n1 c1, .int .i64 v1] w fun e w' => e = .returned (.int .i64 r) ∧ Sep w0 B w' (fs) := by
  obtain ⟨i3, hi3, hz3, hs3, hb3⟩ := info_parts Info3
  obtain rfl := _hn_s1
  unfold slices_Index_m at hm
  replace hm := start_b hm
  refine enter (l := [.slice A1 s1.length c1, .int .i64 v1]) (n := 19) Tryd.func46 rfl rfl (by simp) (fun a hF => ?_)
  refine reg [] [] [0, 1] [pl 0 (.slice A1 s1.length c1), pl 1 (.int .i64 v1)] hF hS Fol (by kernel_rfl) (by kernel_rfl) (by kernel_rfl) ?_ (fun a w hF hS => ?_)
  · exact obs_nil
  refine seq_cut (fun a w => Fr 19 [] a ∧ Sep w0 B w (fs) ∧ (slices_Index_J1).bind some = some r) ?_ ?_
  · rintro a w ⟨hF, hS, hm⟩
    unfold slices_Index_J1 at hm
    refine reg [] [] [4] [pl 4 (.int .i64 (-1))] hF hS Fol (by kernel_rfl) (by kernel_rfl) (by kernel_rfl) ?_ (fun a w hF hS => ?_)
    · exact obs_nil
    refine wpIn_ret ?_
    have hm : some (-1) = some r := hm
    obtain rfl := Option.some.inj hm
    exact retV (rs := [.tmp 4]) (vs := [.int .i64 (-1)]) hF rfl (rv_t (by kernel_rfl) <| rv_nil) rfl ⟨rfl, hS⟩
  · refine reg [] [] [0, 1, 7, 8] [pl 0 (.slice A1 s1.length c1), pl 1 (.int .i64 v1), pl 7 (.int .i64 (s1.length : Int)), pl 8 (.int .i64 0)] hF hS Fol (by kernel_rfl) (by kernel_rfl) (by kernel_rfl) ?_ (fun a w hF hS => ?_)
    · exact obs_nil
    refine wpIn_block ?_
    refine wp_loop_model (S := Int) (R := (Fl Unit Int)) (slices_Index_L1 s1 v1) (fun x => (slices_Index_K1 x).bind some) r (fun (x : Int) a w => Fr 19 [pl 0 (.slice A1 s1.length c1), pl 1 (.int .i64 v1), pl 7 (.int .i64 (s1.length : Int)), pl 8 (.int .i64 x)] a ∧ Sep w0 B w (fs)) (assoc_b hm) ⟨hF.weak [0, 1, 7, 8] (by kernel_rfl), hS⟩ ?_
    clear hF hS hm
    rintro nn1 z1 a w ⟨hF, hS⟩ hm
    generalize hφ1 : stK (slices_Index_L1 s1 v1) nn1 (fun x => (slices_Index_K1 x).bind some) = φ1 at hm
    unfold slices_Index_L1 at hm
    dsimp only at hm
    refine reg [] [] [0, 1, 7, 8, 9] [pl 0 (.slice A1 s1.length c1), pl 1 (.int .i64 v1), pl 7 (.int .i64 (s1.length : Int)), pl 8 (.int .i64 z1), pl 9 (.bool (decide (z1 < (s1.length : Int))))] hF hS Fol (by kernel_rfl) (by kernel_rfl) (by kernel_rfl) ?_ (fun a w hF hS => ?_)
    · exact obs_nil
    refine seq_cut (fun a w => Fr 19 [pl 0 (.slice A1 s1.length c1), pl 1 (.int .i64 v1), pl 7 (.int .i64 (s1.length : Int)), pl 8 (.int .i64 z1)] a ∧ Sep w0 B w (fs) ∧ ((slices_Index_J2 s1 v1 z1)).bind φ1 = some r) ?_ ?_
    · rintro a w ⟨hF, hS, hm⟩
      unfold slices_Index_J2 at hm
      refine seq_cut (fun a w => Fr 19 [pl 0 (.slice A1 s1.length c1), pl 1 (.int .i64 v1), pl 7 (.int .i64 (s1.length : Int)), pl 8 (.int .i64 z1)] a ∧ Sep w0 B w (fs) ∧ ((slices_Index_J3 z1)).bind φ1 = some r) ?_ ?_
      · rintro a w ⟨hF, hS, hm⟩
        unfold slices_Index_J3 at hm
        refine reg1 [] [] [0, 1, 7, 8] [pl 0 (.slice A1 s1.length c1), pl 1 (.int .i64 v1), pl 7 (.int .i64 (s1.length : Int)), pl 8 (.int .i64 (w64 (z1 + 1)))] hF hS Fol (by kernel_rfl) (by kernel_rfl) (by kernel_rfl) ?_ (fun a w hF hS => ?_)
        · exact obs_nil
        refine then_n ?_
        rw [← hφ1] at hm
        exact ⟨(w64 (z1 + 1)), ⟨hF.weak [0, 1, 7, 8] (by kernel_rfl), hS⟩, hm⟩
      · refine wpIn_block ?_
        refine reg [] [] [0, 1, 5, 7, 8] [pl 0 (.slice A1 s1.length c1), pl 1 (.int .i64 v1), pl 5 (.int .i64 z1), pl 7 (.int .i64 (s1.length : Int)), pl 8 (.int .i64 z1)] hF hS Fol (by kernel_rfl) (by kernel_rfl) (by kernel_rfl) ?_ (fun a w hF hS => ?_)
        · exact obs_nil
        obtain ⟨hp1, hm⟩ := asrt_b hm
        refine reg [⟨true, [], vS (Instr.indexAt 22 (.slice A1 s1.length c1) (.int .i64 z1)), .pointer (some (sAddr A1 z1))⟩, ⟨false, [], vS (Instr.loadAt 3 (.pointer (some (sAddr A1 z1)))), .int .i64 (geti s1 z1)⟩] [none, none, none, some (.pointer (some (sAddr A1 z1))), some (.int .i64 (geti s1 z1)), none] [0, 1, 5, 7, 8, 16] [pl 0 (.slice A1 s1.length c1), pl 1 (.int .i64 v1), pl 5 (.int .i64 z1), pl 7 (.int .i64 (s1.length : Int)), pl 8 (.int .i64 z1), pl 16 (.bool (v1 == (geti s1 z1)))] hF hS Fol (by kernel_rfl) (by kernel_rfl) (by kernel_rfl) ?_ (fun a w hF hS => ?_)
        · exact obs_cons (ob_ix1 (f := (Value.int .i64)) (m := s1) Und22 hi3 hs3 (hr_s1 _ (hS.dropN 0)) rfl (fun _ => hp1)) <| obs_cons (ob_get1 (n := s1.length) (m := s1) (Value.int .i64) (0 : Int) Agg3 (fun _ hS => ⟨_, (hr_s1 _ (hS.dropN 0))⟩) (fun _ hS => rfl) (fun _ => hp1)) <| obs_nil
        refine cond_ev (t := 16) (b := (v1 == (geti s1 z1))) hF (by kernel_rfl) (fun hb => ?_) (fun hb => ?_)
        · replace hm := if_t hm hb
          refine reg [] [] [4] [pl 4 (.int .i64 z1)] hF hS Fol (by kernel_rfl) (by kernel_rfl) (by kernel_rfl) ?_ (fun a w hF hS => ?_)
          · exact obs_nil
          refine wpIn_ret ?_
          refine block_r (then_r (then_r (block_r (then_r ?_))))
          rw [← hφ1] at hm
          replace hm := done_b hm
          unfold slices_Index_K1 at hm
          try dsimp only at hm
          have hm : some z1 = some r := hm
          obtain rfl := Option.some.inj hm
          exact retV (rs := [.tmp 4]) (vs := [.int .i64 z1]) hF rfl (rv_t (by kernel_rfl) <| rv_nil) rfl ⟨rfl, hS⟩
        · replace hm := if_f hm hb
          refine wpIn_skip ?_
          refine block_n ?_
          refine then_n ?_
          exact ⟨hF.weak [0, 1, 7, 8] (by kernel_rfl), hS, hm⟩
    · refine cond_ev (t := 9) (b := decide (z1 < (s1.length : Int))) hF (by kernel_rfl) (fun hb => ?_) (fun hb => ?_)
      · replace hm := if_t hm hb
        refine wpIn_skip ?_
        refine then_n ?_
        exact ⟨hF.weak [0, 1, 7, 8] (by kernel_rfl), hS, hm⟩
      · replace hm := if_f hm hb
        refine wpIn_exit ?_
        refine then_e (then_e (block_e (then_n ?_)))
        rw [← hφ1] at hm
        replace hm := done_b hm
        unfold slices_Index_K1 at hm
        try dsimp only at hm
        have hm : (slices_Index_J1).bind some = some r := hm
        exact ⟨hF.weak [] (by kernel_rfl), hS, hm⟩

noncomputable def slices_Contains_m  (s1 : List Int) (v1 : Int) : Option Bool :=
  (slices_Index_m s1 v1).bind fun r1 => some (decide ((0 : Int) ≤ r1))

set_option maxRecDepth 100000 in
set_option maxHeartbeats 4000000 in
theorem slices_Contains_w {A1 : Option Addr} {c1 : Nat} {n1 : Nat} {s1 : List Int} {v1 : Int} {r : Bool} {w0 w : World} {B : Nat} {fs : List HP} (hm : slices_Contains_m s1 v1 = some r) (hS : Sep w0 B w (fs)) (hr_s1 : RdF w0 B fs A1 (vI s1)) (_hc_s1 : s1.length ≤ c1) (_hn_s1 : n1 = s1.length) :
    Calls Tryd.prog 30 #[.slice A1 n1 c1, .int .i64 v1] w fun e w' => e = .returned (.bool r) ∧ Sep w0 B w' (fs) := by
  obtain ⟨i3, hi3, hz3, hs3, hb3⟩ := info_parts Info3
  obtain rfl := _hn_s1
  unfold slices_Contains_m at hm
  replace hm := start_b hm
  refine enter (l := [.slice A1 s1.length c1, .int .i64 v1]) (n := 9) Tryd.func30 rfl rfl (by simp) (fun a hF => ?_)
  refine reg [] [] [0, 1] [pl 0 (.slice A1 s1.length c1), pl 1 (.int .i64 v1)] hF hS Fol (by kernel_rfl) (by kernel_rfl) (by kernel_rfl) ?_ (fun a w hF hS => ?_)
  · exact obs_nil
  obtain ⟨r1, hr1, hm⟩ := call_b hm
  refine reg [⟨false, [], callFunc 46 #[.slice A1 s1.length c1, .int .i64 v1], .int .i64 r1⟩] [none, none, some (.int .i64 r1), none, none] [4] [pl 4 (.bool (decide ((0 : Int) ≤ r1)))] hF hS Fol (by kernel_rfl) (by kernel_rfl) (by kernel_rfl) ?_ (fun a w hF hS => ?_)
  · exact obs_cons (ob_call Tryd.func46 (by kernel_rfl) rfl (fun _ _ hS => slices_Index_w hr1 hS (fun _ hS => (hr_s1 _ (hS.dropN 0))) _hc_s1 rfl)) <| obs_nil
  refine wpIn_ret ?_
  have hm : some (decide ((0 : Int) ≤ r1)) = some r := hm
  obtain rfl := Option.some.inj hm
  exact retV (rs := [.tmp 4]) (vs := [.bool (decide ((0 : Int) ≤ r1))]) hF rfl (rv_t (by kernel_rfl) <| rv_nil) rfl ⟨rfl, hS⟩

noncomputable def tour_Count_1_J3  (p31 : Int) (p63 : Int) : Option (Int × Int) :=
  some ((w64 (p31 + 1)), p63)

noncomputable def tour_Count_1_J5  (z3 : Int) (z4 : Int) (z5 : Int) : Option (St (Int × Int × Int) (Int × Int)) :=
  some (.next (z4, z5, (w64 (z3 + 1))))

noncomputable def tour_Count_1_J4  (rec_tour_Count_1 : Int → Int → Int → Int → List (List Int) → Int → Int → Option (Int × Int)) (place1 : Int) (seen1 : Int) (left1 : Int) (p41 : List (List Int)) (p51 : Int) (z1 : Int) (z2 : Int) (z3 : Int) : Option (St (Int × Int × Int) (Int × Int)) :=
  asrt (0 ≤ z3 ∧ z3 < (((geti2 p41 place1).length : Nat) : Int)) <| asrt ((0 : Int) ≤ (geti (geti2 p41 place1) z3)) <| if ((andK .u64 (shrK .u64 seen1 (geti (geti2 p41 place1) z3)) 1) == 0) then (asrt ((0 : Int) ≤ (geti (geti2 p41 place1) z3)) <| (rec_tour_Count_1 (geti (geti2 p41 place1) z3) (orK .u64 seen1 (shlK .u64 1 (geti (geti2 p41 place1) z3))) (w64 (left1 - 1)) z1 p41 p51 z2).bind fun r2 => (tour_Count_1_J5 z3) r2.1 r2.2) else ((tour_Count_1_J5 z3) z1 z2)

noncomputable def tour_Count_1_J1  (p33 : Int) (p64 : Int) : Option (Int × Int) :=
  some (p33, p64)

noncomputable def tour_Count_1_K1  : (Int × Int) → Option (Int × Int) :=
  fun (x : (Int × Int)) => match x with | (p33, p64) => tour_Count_1_J1 p33 p64

noncomputable def tour_Count_1_L1  (rec_tour_Count_1 : Int → Int → Int → Int → List (List Int) → Int → Int → Option (Int × Int)) (place1 : Int) (seen1 : Int) (left1 : Int) (p41 : List (List Int)) (p51 : Int) : (Int × Int × Int) → Option (St (Int × Int × Int) (Int × Int)) :=
  fun (x : (Int × Int × Int)) => match x with | (z1, z2, z3) => if (decide (z3 < (((geti2 p41 place1).length : Nat) : Int))) then ((tour_Count_1_J4 rec_tour_Count_1 place1 seen1 left1 p41 p51 z1 z2 z3)) else (some (.done (z1, z2)))

noncomputable def tour_Count_1_J2  (rec_tour_Count_1 : Int → Int → Int → Int → List (List Int) → Int → Int → Option (Int × Int)) (place1 : Int) (seen1 : Int) (left1 : Int) (p31 : Int) (p41 : List (List Int)) (p51 : Int) (p61 : Int) : Option (Int × Int) :=
  asrt (0 ≤ place1 ∧ place1 < (p41.length : Int)) <| (loop (tour_Count_1_L1 rec_tour_Count_1 place1 seen1 left1 p41 p51) (p31, p61, 0)).bind tour_Count_1_K1

noncomputable def tour_Count_1_B (rec_tour_Count_1 : Int → Int → Int → Int → List (List Int) → Int → Int → Option (Int × Int)) (place1 : Int) (seen1 : Int) (left1 : Int) (p31 : Int) (p41 : List (List Int)) (p51 : Int) (p61 : Int) : Option (Int × Int) :=
  if (left1 == 0) then (asrt (0 ≤ place1 ∧ place1 < (p41.length : Int)) <| (slices_Contains_m (geti2 p41 place1) p51).bind fun r1 => if r1 then ((tour_Count_1_J3 p31) (w64 (p61 + 1))) else ((tour_Count_1_J3 p31) p61)) else ((tour_Count_1_J2 rec_tour_Count_1 place1 seen1 left1 p31 p41 p51 p61))

noncomputable def tour_Count_1_mF : Nat → Int → Int → Int → Int → List (List Int) → Int → Int → Option (Int × Int)
  | 0 => fun _ _ _ _ _ _ _ => none
  | n + 1 => fun place1 seen1 left1 p31 p41 p51 p61 => tour_Count_1_B (tour_Count_1_mF n) place1 seen1 left1 p31 p41 p51 p61

noncomputable def tour_Count_1_m (place1 : Int) (seen1 : Int) (left1 : Int) (p31 : Int) (p41 : List (List Int)) (p51 : Int) (p61 : Int) : Option (Int × Int) :=
  recM fun n => tour_Count_1_mF n place1 seen1 left1 p31 p41 p51 p61

set_option maxRecDepth 100000 in
set_option maxHeartbeats 4000000 in
theorem tour_Count_1_wB {rec_tour_Count_1 : Int → Int → Int → Int → List (List Int) → Int → Int → Option (Int × Int)} (ih_tour_Count_1 : ∀ {place1 : Int} {seen1 : Int} {left1 : Int} {g1 : Nat} {p31 : Int} {g2 : Nat} {A1 : Option Addr} {c1 : Nat} {n1 : Nat} {hd1 : List Hd} {p41 : List (List Int)} {g3 : Nat} {p51 : Int} {g4 : Nat} {p61 : Int} {g5 : Nat} {r : (Int × Int)} {w0 w : World} {B : Nat} {fs : List HP} (_ : rec_tour_Count_1 place1 seen1 left1 p31 p41 p51 p61 = some r) (_ : Sep w0 B w (blk g1 3 #[.int .i64 p31] :: blk g2 50 #[.slice A1 n1 c1] :: rows 22 3 (.slice A1 n1 c1) hd1 p41 :: blk g3 3 #[.int .i64 p51] :: blk g4 3 #[.int .i64 p61] :: blk g5 60 #[.func (.func 35) #[] #[.pointer (some ⟨g1, 0, none⟩), .pointer (some ⟨g2, 0, none⟩), .pointer (some ⟨g3, 0, none⟩), .pointer (some ⟨g4, 0, none⟩), .pointer (some ⟨g5, 0, none⟩)]] :: fs)), Calls Tryd.prog 35 #[.int .i64 place1, .int .u64 seen1, .int .i64 left1, .pointer (some ⟨g1, 0, none⟩), .pointer (some ⟨g2, 0, none⟩), .pointer (some ⟨g3, 0, none⟩), .pointer (some ⟨g4, 0, none⟩), .pointer (some ⟨g5, 0, none⟩)] w fun e w' => ∃ v, e = .returned v ∧ v = .tuple #[] ∧ Sep w0 B w' (blk g1 3 #[.int .i64 r.1] :: blk g2 50 #[.slice A1 n1 c1] :: rows 22 3 (.slice A1 n1 c1) hd1 p41 :: blk g3 3 #[.int .i64 p51] :: blk g4 3 #[.int .i64 r.2] :: blk g5 60 #[.func (.func 35) #[] #[.pointer (some ⟨g1, 0, none⟩), .pointer (some ⟨g2, 0, none⟩), .pointer (some ⟨g3, 0, none⟩), .pointer (some ⟨g4, 0, none⟩), .pointer (some ⟨g5, 0, none⟩)]] :: fs)) {place1 : Int} {seen1 : Int} {left1 : Int} {g1 : Nat} {p31 : Int} {g2 : Nat} {A1 : Option Addr} {c1 : Nat} {n1 : Nat} {hd1 : List Hd} {p41 : List (List Int)} {g3 : Nat} {p51 : Int} {g4 : Nat} {p61 : Int} {g5 : Nat} {r : (Int × Int)} {w0 w : World} {B : Nat} {fs : List HP} (hm : tour_Count_1_B rec_tour_Count_1 place1 seen1 left1 p31 p41 p51 p61 = some r) (hS : Sep w0 B w (blk g1 3 #[.int .i64 p31] :: blk g2 50 #[.slice A1 n1 c1] :: rows 22 3 (.slice A1 n1 c1) hd1 p41 :: blk g3 3 #[.int .i64 p51] :: blk g4 3 #[.int .i64 p61] :: blk g5 60 #[.func (.func 35) #[] #[.pointer (some ⟨g1, 0, none⟩), .pointer (some ⟨g2, 0, none⟩), .pointer (some ⟨g3, 0, none⟩), .pointer (some ⟨g4, 0, none⟩), .pointer (some ⟨g5, 0, none⟩)]] :: fs)) :
    Calls Tryd.prog 35 #[.int .i64 place1, .int .u64 seen1, .int .i64 left1, .pointer (some ⟨g1, 0, none⟩), .pointer (some ⟨g2, 0, none⟩), .pointer (some ⟨g3, 0, none⟩), .pointer (some ⟨g4, 0, none⟩), .pointer (some ⟨g5, 0, none⟩)] w fun e w' => ∃ v, e = .returned v ∧ v = .tuple #[] ∧ Sep w0 B w' (blk g1 3 #[.int .i64 r.1] :: blk g2 50 #[.slice A1 n1 c1] :: rows 22 3 (.slice A1 n1 c1) hd1 p41 :: blk g3 3 #[.int .i64 p51] :: blk g4 3 #[.int .i64 r.2] :: blk g5 60 #[.func (.func 35) #[] #[.pointer (some ⟨g1, 0, none⟩), .pointer (some ⟨g2, 0, none⟩), .pointer (some ⟨g3, 0, none⟩), .pointer (some ⟨g4, 0, none⟩), .pointer (some ⟨g5, 0, none⟩)]] :: fs) := by
  obtain ⟨i3, hi3, hz3, hs3, hb3⟩ := info_parts Info3
  obtain ⟨i22, hi22, hz22, hs22, hb22⟩ := info_parts Info22
  obtain rfl := (hS.at_ 2 rfl).lenR
  unfold tour_Count_1_B at hm
  replace hm := start_b hm
  refine enter (l := [.int .i64 place1, .int .u64 seen1, .int .i64 left1, .pointer (some ⟨g1, 0, none⟩), .pointer (some ⟨g2, 0, none⟩), .pointer (some ⟨g3, 0, none⟩), .pointer (some ⟨g4, 0, none⟩), .pointer (some ⟨g5, 0, none⟩)]) (n := 49) Tryd.func35 rfl rfl (by simp) (fun a hF => ?_)
  refine end_cut (fun a w => ∃ (p33 : Int) (p64 : Int), Fr 49 [] a ∧ Sep w0 B w (blk g1 3 #[.int .i64 p33] :: blk g2 50 #[.slice A1 p41.length c1] :: rows 22 3 (.slice A1 p41.length c1) hd1 p41 :: blk g3 3 #[.int .i64 p51] :: blk g4 3 #[.int .i64 p64] :: blk g5 60 #[.func (.func 35) #[] #[.pointer (some ⟨g1, 0, none⟩), .pointer (some ⟨g2, 0, none⟩), .pointer (some ⟨g3, 0, none⟩), .pointer (some ⟨g4, 0, none⟩), .pointer (some ⟨g5, 0, none⟩)]] :: fs) ∧ (tour_Count_1_J1 p33 p64).bind some = some r) ?_ ?_
  · rintro a w ⟨p33, p64, hF, hS, hm⟩
    unfold tour_Count_1_J1 at hm
    have hm : some (p33, p64) = some r := hm
    obtain rfl := Option.some.inj hm
    exact endV (rs := []) (vs := []) hF rfl (rv_nil) rfl ⟨_, rfl, rfl, hS⟩ rfl
  · refine seq_cut (fun a w => Fr 49 [pl 0 (.int .i64 place1), pl 1 (.int .u64 seen1), pl 2 (.int .i64 left1), pl 4 (.pointer (some ⟨g2, 0, none⟩)), pl 7 (.pointer (some ⟨g5, 0, none⟩))] a ∧ Sep w0 B w (blk g2 50 #[.slice A1 p41.length c1] :: rows 22 3 (.slice A1 p41.length c1) hd1 p41 :: blk g5 60 #[.func (.func 35) #[] #[.pointer (some ⟨g1, 0, none⟩), .pointer (some ⟨g2, 0, none⟩), .pointer (some ⟨g3, 0, none⟩), .pointer (some ⟨g4, 0, none⟩), .pointer (some ⟨g5, 0, none⟩)]] :: blk g1 3 #[.int .i64 p31] :: blk g3 3 #[.int .i64 p51] :: blk g4 3 #[.int .i64 p61] :: fs) ∧ ((tour_Count_1_J2 rec_tour_Count_1 place1 seen1 left1 p31 p41 p51 p61)).bind some = some r) ?_ ?_
    · rintro a w ⟨hF, hS, hm⟩
      unfold tour_Count_1_J2 at hm
      obtain ⟨hp2, hm⟩ := asrt_b hm
      have hb2 := rowb (n := p41.length) (hS.at_ 1 rfl).lenR hp2
      refine reg [⟨false, [], vS (Instr.loadAt 50 (.pointer (some ⟨g2, 0, none⟩))), .slice A1 p41.length c1⟩, ⟨true, [], vS (Instr.indexAt 50 (.slice A1 p41.length c1) (.int .i64 place1)), .pointer (some (sAddr A1 place1))⟩, ⟨false, [], vS (Instr.loadAt 22 (.pointer (some (sAddr A1 place1)))), .slice (hdA hd1 place1) ((geti2 p41 place1).length) (hdC hd1 place1)⟩] [some (.slice A1 p41.length c1), none, some (.pointer (some (sAddr A1 place1))), some (.slice (hdA hd1 place1) ((geti2 p41 place1).length) (hdC hd1 place1)), none, none] [1, 2, 7, 28, 29, 30] [pl 1 (.int .u64 seen1), pl 2 (.int .i64 left1), pl 7 (.pointer (some ⟨g5, 0, none⟩)), pl 28 (.slice (hdA hd1 place1) ((geti2 p41 place1).length) (hdC hd1 place1)), pl 29 (.int .i64 (((geti2 p41 place1).length : Nat) : Int)), pl 30 (.int .i64 0)] hF hS Fol (by kernel_rfl) (by kernel_rfl) (by kernel_rfl) ?_ (fun a w hF hS => ?_)
      · exact obs_cons (ob_load Agg50 (fun _ _ hS => (hS.at_ 0 rfl).cell rfl)) <| obs_cons (ob_ixRn Und50 hi22 hs22 (hS.at_ 1 rfl).rdRows (hS.at_ 1 rfl).lenR (fun _ => hp2)) <| obs_cons (ob_getR Agg22 (fun _ hS => ⟨_, (hS.at_ 1 rfl).rdRows⟩) (fun _ => hb2)) <| obs_nil
      refine wpIn_block ?_
      have hS := hS.pickN 6 [2, 3, 0, 1, 4, 5] (by decide)
      refine wp_loop_model (S := (Int × Int × Int)) (R := (Int × Int)) (tour_Count_1_L1 rec_tour_Count_1 place1 seen1 left1 p41 p51) (fun x => (tour_Count_1_K1 x).bind some) r (fun (x : (Int × Int × Int)) a w => Fr 49 [pl 1 (.int .u64 seen1), pl 2 (.int .i64 left1), pl 7 (.pointer (some ⟨g5, 0, none⟩)), pl 28 (.slice (hdA hd1 place1) ((geti2 p41 place1).length) (hdC hd1 place1)), pl 29 (.int .i64 (((geti2 p41 place1).length : Nat) : Int)), pl 30 (.int .i64 x.2.2)] a ∧ Sep w0 B w (blk g5 60 #[.func (.func 35) #[] #[.pointer (some ⟨g1, 0, none⟩), .pointer (some ⟨g2, 0, none⟩), .pointer (some ⟨g3, 0, none⟩), .pointer (some ⟨g4, 0, none⟩), .pointer (some ⟨g5, 0, none⟩)]] :: blk g1 3 #[.int .i64 x.1] :: blk g2 50 #[.slice A1 p41.length c1] :: rows 22 3 (.slice A1 p41.length c1) hd1 p41 :: blk g3 3 #[.int .i64 p51] :: blk g4 3 #[.int .i64 x.2.1] :: fs)) (assoc_b hm) ⟨hF.weak [1, 2, 7, 28, 29, 30] (by kernel_rfl), hS⟩ ?_
      clear hF hS hm
      rintro nn1 ⟨z1, z2, z3⟩ a w ⟨hF, hS⟩ hm
      generalize hφ1 : stK (tour_Count_1_L1 rec_tour_Count_1 place1 seen1 left1 p41 p51) nn1 (fun x => (tour_Count_1_K1 x).bind some) = φ1 at hm
      unfold tour_Count_1_L1 at hm
      dsimp only at hF hS hm
      refine reg [] [] [1, 2, 7, 28, 29, 30, 31] [pl 1 (.int .u64 seen1), pl 2 (.int .i64 left1), pl 7 (.pointer (some ⟨g5, 0, none⟩)), pl 28 (.slice (hdA hd1 place1) ((geti2 p41 place1).length) (hdC hd1 place1)), pl 29 (.int .i64 (((geti2 p41 place1).length : Nat) : Int)), pl 30 (.int .i64 z3), pl 31 (.bool (decide (z3 < (((geti2 p41 place1).length : Nat) : Int))))] hF hS Fol (by kernel_rfl) (by kernel_rfl) (by kernel_rfl) ?_ (fun a w hF hS => ?_)
      · exact obs_nil
      refine seq_cut (fun a w => Fr 49 [pl 1 (.int .u64 seen1), pl 2 (.int .i64 left1), pl 7 (.pointer (some ⟨g5, 0, none⟩)), pl 28 (.slice (hdA hd1 place1) ((geti2 p41 place1).length) (hdC hd1 place1)), pl 29 (.int .i64 (((geti2 p41 place1).length : Nat) : Int)), pl 30 (.int .i64 z3)] a ∧ Sep w0 B w (blk g5 60 #[.func (.func 35) #[] #[.pointer (some ⟨g1, 0, none⟩), .pointer (some ⟨g2, 0, none⟩), .pointer (some ⟨g3, 0, none⟩), .pointer (some ⟨g4, 0, none⟩), .pointer (some ⟨g5, 0, none⟩)]] :: blk g1 3 #[.int .i64 z1] :: blk g2 50 #[.slice A1 p41.length c1] :: rows 22 3 (.slice A1 p41.length c1) hd1 p41 :: blk g3 3 #[.int .i64 p51] :: blk g4 3 #[.int .i64 z2] :: fs) ∧ ((tour_Count_1_J4 rec_tour_Count_1 place1 seen1 left1 p41 p51 z1 z2 z3)).bind φ1 = some r) ?_ ?_
      · rintro a w ⟨hF, hS, hm⟩
        unfold tour_Count_1_J4 at hm
        refine seq_cut (fun a w => ∃ (z4 : Int) (z5 : Int), Fr 49 [pl 1 (.int .u64 seen1), pl 2 (.int .i64 left1), pl 7 (.pointer (some ⟨g5, 0, none⟩)), pl 28 (.slice (hdA hd1 place1) ((geti2 p41 place1).length) (hdC hd1 place1)), pl 29 (.int .i64 (((geti2 p41 place1).length : Nat) : Int)), pl 30 (.int .i64 z3)] a ∧ Sep w0 B w (blk g5 60 #[.func (.func 35) #[] #[.pointer (some ⟨g1, 0, none⟩), .pointer (some ⟨g2, 0, none⟩), .pointer (some ⟨g3, 0, none⟩), .pointer (some ⟨g4, 0, none⟩), .pointer (some ⟨g5, 0, none⟩)]] :: blk g1 3 #[.int .i64 z4] :: blk g2 50 #[.slice A1 p41.length c1] :: rows 22 3 (.slice A1 p41.length c1) hd1 p41 :: blk g3 3 #[.int .i64 p51] :: blk g4 3 #[.int .i64 z5] :: fs) ∧ ((tour_Count_1_J5 z3) z4 z5).bind φ1 = some r) ?_ ?_
        · rintro a w ⟨z4, z5, hF, hS, hm⟩
          unfold tour_Count_1_J5 at hm
          refine reg1 [] [] [1, 2, 7, 28, 29, 30] [pl 1 (.int .u64 seen1), pl 2 (.int .i64 left1), pl 7 (.pointer (some ⟨g5, 0, none⟩)), pl 28 (.slice (hdA hd1 place1) ((geti2 p41 place1).length) (hdC hd1 place1)), pl 29 (.int .i64 (((geti2 p41 place1).length : Nat) : Int)), pl 30 (.int .i64 (w64 (z3 + 1)))] hF hS Fol (by kernel_rfl) (by kernel_rfl) (by kernel_rfl) ?_ (fun a w hF hS => ?_)
          · exact obs_nil
          refine then_n ?_
          rw [← hφ1] at hm
          exact ⟨(z4, z5, (w64 (z3 + 1))), ⟨hF.weak [1, 2, 7, 28, 29, 30] (by kernel_rfl), hS⟩, hm⟩
        · refine wpIn_block ?_
          obtain ⟨hp3, hm⟩ := asrt_b hm
          refine reg [⟨true, [], vS (Instr.indexAt 22 (.slice (hdA hd1 place1) ((geti2 p41 place1).length) (hdC hd1 place1)) (.int .i64 z3)), .pointer (some (sAddr (hdA hd1 place1) z3))⟩, ⟨false, [], vS (Instr.loadAt 3 (.pointer (some (sAddr (hdA hd1 place1) z3)))), .int .i64 (geti (geti2 p41 place1) z3)⟩] [some (.pointer (some (sAddr (hdA hd1 place1) z3))), some (.int .i64 (geti (geti2 p41 place1) z3)), none] [1, 2, 7, 12, 28, 29, 30] [pl 1 (.int .u64 seen1), pl 2 (.int .i64 left1), pl 7 (.pointer (some ⟨g5, 0, none⟩)), pl 12 (.int .i64 (geti (geti2 p41 place1) z3)), pl 28 (.slice (hdA hd1 place1) ((geti2 p41 place1).length) (hdC hd1 place1)), pl 29 (.int .i64 (((geti2 p41 place1).length : Nat) : Int)), pl 30 (.int .i64 z3)] hF hS Fol (by kernel_rfl) (by kernel_rfl) (by kernel_rfl) ?_ (fun a w hF hS => ?_)
          · exact obs_cons (ob_ix1 (f := (Value.int .i64)) (m := (geti2 p41 place1)) Und22 hi3 hs3 ((hS.at_ 3 rfl).rdRows.row _ hb2).1 rfl (fun _ => hp3)) <| obs_cons (ob_get1 (n := (geti2 p41 place1).length) (m := (geti2 p41 place1)) (Value.int .i64) (0 : Int) Agg3 (fun _ hS => ⟨_, ((hS.at_ 3 rfl).rdRows.row _ hb2).1⟩) (fun _ hS => rfl) (fun _ => hp3)) <| obs_nil
          obtain ⟨hp4, hm⟩ := asrt_b hm
          refine reg [⟨true, [], vS (Op.shift .shr .u64 seen1 .i64 (geti (geti2 p41 place1) z3)), .int .u64 (shrK .u64 seen1 (geti (geti2 p41 place1) z3))⟩] [none, none, some (.int .u64 (shrK .u64 seen1 (geti (geti2 p41 place1) z3))), none, none] [1, 2, 7, 12, 28, 29, 30, 38] [pl 1 (.int .u64 seen1), pl 2 (.int .i64 left1), pl 7 (.pointer (some ⟨g5, 0, none⟩)), pl 12 (.int .i64 (geti (geti2 p41 place1) z3)), pl 28 (.slice (hdA hd1 place1) ((geti2 p41 place1).length) (hdC hd1 place1)), pl 29 (.int .i64 (((geti2 p41 place1).length : Nat) : Int)), pl 30 (.int .i64 z3), pl 38 (.bool ((andK .u64 (shrK .u64 seen1 (geti (geti2 p41 place1) z3)) 1) == 0))] hF hS Fol (by kernel_rfl) (by kernel_rfl) (by kernel_rfl) ?_ (fun a w hF hS => ?_)
          · exact obs_cons (ob_shr (fun _ => hp4)) <| obs_nil
          refine cond_ev (t := 38) (b := ((andK .u64 (shrK .u64 seen1 (geti (geti2 p41 place1) z3)) 1) == 0)) hF (by kernel_rfl) (fun hb => ?_) (fun hb => ?_)
          · replace hm := if_t hm hb
            obtain ⟨hp5, hm⟩ := asrt_b hm
            obtain ⟨r2, hr2, hm⟩ := call_b hm
            refine regMix4 [0, 1, 2, 3, 4, 5, 6, 7] [8] [⟨false, [], vS (Instr.loadAt 60 (.pointer (some ⟨g5, 0, none⟩))), .func (.func 35) #[] #[.pointer (some ⟨g1, 0, none⟩), .pointer (some ⟨g2, 0, none⟩), .pointer (some ⟨g3, 0, none⟩), .pointer (some ⟨g4, 0, none⟩), .pointer (some ⟨g5, 0, none⟩)]⟩, ⟨true, [], vS (Op.shift .shl .u64 1 .i64 (geti (geti2 p41 place1) z3)), .int .u64 (shlK .u64 1 (geti (geti2 p41 place1) z3))⟩] [some (.func (.func 35) #[] #[.pointer (some ⟨g1, 0, none⟩), .pointer (some ⟨g2, 0, none⟩), .pointer (some ⟨g3, 0, none⟩), .pointer (some ⟨g4, 0, none⟩), .pointer (some ⟨g5, 0, none⟩)]), none, none, none, some (.int .u64 (shlK .u64 1 (geti (geti2 p41 place1) z3))), none, none, none] [1, 2, 7, 28, 29, 30, 39, 40, 44, 46] [pl 1 (.int .u64 seen1), pl 2 (.int .i64 left1), pl 7 (.pointer (some ⟨g5, 0, none⟩)), pl 28 (.slice (hdA hd1 place1) ((geti2 p41 place1).length) (hdC hd1 place1)), pl 29 (.int .i64 (((geti2 p41 place1).length : Nat) : Int)), pl 30 (.int .i64 z3), pl 39 (.func (.func 35) #[] #[.pointer (some ⟨g1, 0, none⟩), .pointer (some ⟨g2, 0, none⟩), .pointer (some ⟨g3, 0, none⟩), .pointer (some ⟨g4, 0, none⟩), .pointer (some ⟨g5, 0, none⟩)]), pl 40 (.int .i64 (geti (geti2 p41 place1) z3)), pl 44 (.int .u64 (orK .u64 seen1 (shlK .u64 1 (geti (geti2 p41 place1) z3)))), pl 46 (.int .i64 (w64 (left1 - 1)))] hF hS Fol (by kernel_rfl) (by kernel_rfl) (by kernel_rfl) (by kernel_rfl) (by kernel_rfl) ?_ (fun a w hF hS => ?_)
            · exact obs_cons (ob_load Agg60 (fun _ _ hS => (hS.at_ 0 rfl).cell rfl)) <| obs_cons (ob_shl (fun _ => hp5)) <| obs_nil
            have hS : Sep w0 B w (blk g1 3 #[.int .i64 z1] :: blk g2 50 #[.slice A1 p41.length c1] :: rows 22 3 (.slice A1 p41.length c1) hd1 p41 :: blk g3 3 #[.int .i64 p51] :: blk g4 3 #[.int .i64 z2] :: blk g5 60 #[.func (.func 35) #[] #[.pointer (some ⟨g1, 0, none⟩), .pointer (some ⟨g2, 0, none⟩), .pointer (some ⟨g3, 0, none⟩), .pointer (some ⟨g4, 0, none⟩), .pointer (some ⟨g5, 0, none⟩)]] :: fs) := hS.pickN 6 [1, 2, 3, 4, 5, 0] (by decide)
            refine at_call (f := 35) (args := #[.int .i64 (geti (geti2 p41 place1) z3), .int .u64 (orK .u64 seen1 (shlK .u64 1 (geti (geti2 p41 place1) z3))), .int .i64 (w64 (left1 - 1)), .pointer (some ⟨g1, 0, none⟩), .pointer (some ⟨g2, 0, none⟩), .pointer (some ⟨g3, 0, none⟩), .pointer (some ⟨g4, 0, none⟩), .pointer (some ⟨g5, 0, none⟩)]) (d := 47) hF (by kernel_rfl) (by kernel_rfl) Tryd.func35 (by kernel_rfl) rfl (ih_tour_Count_1 hr2 hS ) (fun v a w hR hF => ?_)
            clear hS
            obtain ⟨rfl, hS⟩ := hR
            have hS : Sep w0 B w (blk g1 3 #[.int .i64 r2.1] :: blk g2 50 #[.slice A1 p41.length c1] :: rows 22 3 (.slice A1 p41.length c1) hd1 p41 :: blk g3 3 #[.int .i64 p51] :: blk g4 3 #[.int .i64 r2.2] :: blk g5 60 #[.func (.func 35) #[] #[.pointer (some ⟨g1, 0, none⟩), .pointer (some ⟨g2, 0, none⟩), .pointer (some ⟨g3, 0, none⟩), .pointer (some ⟨g4, 0, none⟩), .pointer (some ⟨g5, 0, none⟩)]] :: fs) := hS
            refine at_end [1, 2, 7, 28, 29, 30] [pl 1 (.int .u64 seen1), pl 2 (.int .i64 left1), pl 7 (.pointer (some ⟨g5, 0, none⟩)), pl 28 (.slice (hdA hd1 place1) ((geti2 p41 place1).length) (hdC hd1 place1)), pl 29 (.int .i64 (((geti2 p41 place1).length : Nat) : Int)), pl 30 (.int .i64 z3)] hF rfl (by kernel_rfl) (fun hF => ?_)
            refine np_n ?_
            refine block_n ?_
            refine then_n ?_
            have hS := hS.pickN 6 [5, 0, 1, 2, 3, 4] (by decide)
            exact ⟨r2.1, r2.2, hF.weak [1, 2, 7, 28, 29, 30] (by kernel_rfl), hS, hm⟩
          · replace hm := if_f hm hb
            refine wpIn_skip ?_
            refine block_n ?_
            refine then_n ?_
            exact ⟨z1, z2, hF.weak [1, 2, 7, 28, 29, 30] (by kernel_rfl), hS, hm⟩
      · refine cond_ev (t := 31) (b := decide (z3 < (((geti2 p41 place1).length : Nat) : Int))) hF (by kernel_rfl) (fun hb => ?_) (fun hb => ?_)
        · replace hm := if_t hm hb
          refine wpIn_skip ?_
          refine then_n ?_
          exact ⟨hF.weak [1, 2, 7, 28, 29, 30] (by kernel_rfl), hS, hm⟩
        · replace hm := if_f hm hb
          refine wpIn_exit ?_
          refine then_e (then_e (block_e (then_n ?_)))
          have hS := hS.pickN 6 [1, 2, 3, 4, 5, 0] (by decide)
          rw [← hφ1] at hm
          replace hm := done_b hm
          unfold tour_Count_1_K1 at hm
          try dsimp only at hm
          have hm : (tour_Count_1_J1 z1 z2).bind some = some r := hm
          exact ⟨z1, z2, hF.weak [] (by kernel_rfl), hS, hm⟩
    · refine reg [] [] [0, 1, 2, 3, 4, 5, 6, 7, 14] [pl 0 (.int .i64 place1), pl 1 (.int .u64 seen1), pl 2 (.int .i64 left1), pl 3 (.pointer (some ⟨g1, 0, none⟩)), pl 4 (.pointer (some ⟨g2, 0, none⟩)), pl 5 (.pointer (some ⟨g3, 0, none⟩)), pl 6 (.pointer (some ⟨g4, 0, none⟩)), pl 7 (.pointer (some ⟨g5, 0, none⟩)), pl 14 (.bool (left1 == 0))] hF hS Fol (by kernel_rfl) (by kernel_rfl) (by kernel_rfl) ?_ (fun a w hF hS => ?_)
      · exact obs_nil
      refine cond_ev (t := 14) (b := (left1 == 0)) hF (by kernel_rfl) (fun hb => ?_) (fun hb => ?_)
      · replace hm := if_t hm hb
        refine seqR ?_
        refine at_run 2 [⟨false, [], vS (Instr.loadAt 3 (.pointer (some ⟨g1, 0, none⟩))), .int .i64 p31⟩] [some (.int .i64 p31), none] [0, 3, 4, 5, 6, 16] [pl 0 (.int .i64 place1), pl 3 (.pointer (some ⟨g1, 0, none⟩)), pl 4 (.pointer (some ⟨g2, 0, none⟩)), pl 5 (.pointer (some ⟨g3, 0, none⟩)), pl 6 (.pointer (some ⟨g4, 0, none⟩)), pl 16 (.int .i64 (w64 (p31 + 1)))] hF hS (by kernel_rfl) (by kernel_rfl) ?_ (fun a w hF hS => ?_)
        · exact obs_cons (ob_load Agg3 (fun _ _ hS => (hS.at_ 0 rfl).cell rfl)) <| obs_nil
        obtain ⟨w, hrun, hS⟩ := run_put (P := Tryd.prog) (t := 3) (u := .int .i64 (w64 (p31 + 1))) (i := 0) (hS.at_ 0 rfl) hi3 hs3 rfl (Nat.lt_of_lt_of_eq (Nat.lt_of_succ_le (Nat.le_of_ble_eq_true (by kernel_rfl))) rfl)
        refine at_skip hF (by kernel_rfl) hrun ?_
        have hS : Sep w0 B w (blk g1 3 #[.int .i64 (w64 (p31 + 1))] :: blk g2 50 #[.slice A1 p41.length c1] :: rows 22 3 (.slice A1 p41.length c1) hd1 p41 :: blk g3 3 #[.int .i64 p51] :: blk g4 3 #[.int .i64 p61] :: blk g5 60 #[.func (.func 35) #[] #[.pointer (some ⟨g1, 0, none⟩), .pointer (some ⟨g2, 0, none⟩), .pointer (some ⟨g3, 0, none⟩), .pointer (some ⟨g4, 0, none⟩), .pointer (some ⟨g5, 0, none⟩)]] :: fs) := hS
        refine at_end [0, 4, 5, 6] [pl 0 (.int .i64 place1), pl 4 (.pointer (some ⟨g2, 0, none⟩)), pl 5 (.pointer (some ⟨g3, 0, none⟩)), pl 6 (.pointer (some ⟨g4, 0, none⟩))] hF rfl (by kernel_rfl) (fun hF => ?_)
        refine then_n ?_
        refine seq_cut (fun a w => ∃ (p63 : Int), Fr 49 [] a ∧ Sep w0 B w (blk g1 3 #[.int .i64 (w64 (p31 + 1))] :: blk g2 50 #[.slice A1 p41.length c1] :: rows 22 3 (.slice A1 p41.length c1) hd1 p41 :: blk g3 3 #[.int .i64 p51] :: blk g4 3 #[.int .i64 p63] :: blk g5 60 #[.func (.func 35) #[] #[.pointer (some ⟨g1, 0, none⟩), .pointer (some ⟨g2, 0, none⟩), .pointer (some ⟨g3, 0, none⟩), .pointer (some ⟨g4, 0, none⟩), .pointer (some ⟨g5, 0, none⟩)]] :: fs) ∧ ((tour_Count_1_J3 p31) p63).bind some = some r) ?_ ?_
        · rintro a w ⟨p63, hF, hS, hm⟩
          unfold tour_Count_1_J3 at hm
          refine wpIn_ret ?_
          refine then_r (then_r ?_)
          have hm : some ((w64 (p31 + 1)), p63) = some r := hm
          obtain rfl := Option.some.inj hm
          exact retV (rs := []) (vs := []) hF rfl (rv_nil) rfl ⟨_, rfl, rfl, hS⟩
        · obtain ⟨hp1, hm⟩ := asrt_b hm
          obtain ⟨r1, hr1, hm⟩ := call_b hm
          have hb1 := rowb (n := p41.length) (hS.at_ 2 rfl).lenR hp1
          refine reg [⟨false, [], vS (Instr.loadAt 50 (.pointer (some ⟨g2, 0, none⟩))), .slice A1 p41.length c1⟩, ⟨true, [], vS (Instr.indexAt 50 (.slice A1 p41.length c1) (.int .i64 place1)), .pointer (some (sAddr A1 place1))⟩, ⟨false, [], vS (Instr.loadAt 22 (.pointer (some (sAddr A1 place1)))), .slice (hdA hd1 place1) ((geti2 p41 place1).length) (hdC hd1 place1)⟩, ⟨false, [], vS (Instr.loadAt 3 (.pointer (some ⟨g3, 0, none⟩))), .int .i64 p51⟩, ⟨false, [], callFunc 30 #[.slice (hdA hd1 place1) ((geti2 p41 place1).length) (hdC hd1 place1), .int .i64 p51], .bool r1⟩] [some (.slice A1 p41.length c1), none, some (.pointer (some (sAddr A1 place1))), some (.slice (hdA hd1 place1) ((geti2 p41 place1).length) (hdC hd1 place1)), some (.int .i64 p51), some (.bool r1)] [6, 22] [pl 6 (.pointer (some ⟨g4, 0, none⟩)), pl 22 (.bool r1)] hF hS Fol (by kernel_rfl) (by kernel_rfl) (by kernel_rfl) ?_ (fun a w hF hS => ?_)
          · exact obs_cons (ob_load Agg50 (fun _ _ hS => (hS.at_ 1 rfl).cell rfl)) <| obs_cons (ob_ixRn Und50 hi22 hs22 (hS.at_ 2 rfl).rdRows (hS.at_ 2 rfl).lenR (fun _ => hp1)) <| obs_cons (ob_getR Agg22 (fun _ hS => ⟨_, (hS.at_ 2 rfl).rdRows⟩) (fun _ => hb1)) <| obs_cons (ob_load Agg3 (fun _ _ hS => (hS.at_ 3 rfl).cell rfl)) <| obs_cons (ob_call Tryd.func30 (by kernel_rfl) rfl (fun _ _ hS => slices_Contains_w hr1 hS (fun _ hS => ((hS.at_ 2 rfl).rdRows.row _ hb1).1) ((hS.at_ 2 rfl).rdRows.row _ hb1).2 rfl)) <| obs_nil
          refine cond_ev (t := 22) (b := r1) hF (by kernel_rfl) (fun hb => ?_) (fun hb => ?_)
          · replace hm := if_t hm hb
            refine oneR ?_
            refine at_run 2 [⟨false, [], vS (Instr.loadAt 3 (.pointer (some ⟨g4, 0, none⟩))), .int .i64 p61⟩] [some (.int .i64 p61), none] [6, 24] [pl 6 (.pointer (some ⟨g4, 0, none⟩)), pl 24 (.int .i64 (w64 (p61 + 1)))] hF hS (by kernel_rfl) (by kernel_rfl) ?_ (fun a w hF hS => ?_)
            · exact obs_cons (ob_load Agg3 (fun _ _ hS => (hS.at_ 4 rfl).cell rfl)) <| obs_nil
            obtain ⟨w, hrun, hS⟩ := run_put (P := Tryd.prog) (t := 3) (u := .int .i64 (w64 (p61 + 1))) (i := 0) (hS.at_ 4 rfl) hi3 hs3 rfl (Nat.lt_of_lt_of_eq (Nat.lt_of_succ_le (Nat.le_of_ble_eq_true (by kernel_rfl))) rfl)
            refine at_skip hF (by kernel_rfl) hrun ?_
            have hS : Sep w0 B w (blk g1 3 #[.int .i64 (w64 (p31 + 1))] :: blk g2 50 #[.slice A1 p41.length c1] :: rows 22 3 (.slice A1 p41.length c1) hd1 p41 :: blk g3 3 #[.int .i64 p51] :: blk g4 3 #[.int .i64 (w64 (p61 + 1))] :: blk g5 60 #[.func (.func 35) #[] #[.pointer (some ⟨g1, 0, none⟩), .pointer (some ⟨g2, 0, none⟩), .pointer (some ⟨g3, 0, none⟩), .pointer (some ⟨g4, 0, none⟩), .pointer (some ⟨g5, 0, none⟩)]] :: fs) := hS
            refine at_end [] [] hF rfl (by kernel_rfl) (fun hF => ?_)
            refine then_n ?_
            exact ⟨(w64 (p61 + 1)), hF.weak [] (by kernel_rfl), hS, hm⟩
          · replace hm := if_f hm hb
            refine wpIn_skip ?_
            refine then_n ?_
            exact ⟨p61, hF.weak [] (by kernel_rfl), hS, hm⟩
      · replace hm := if_f hm hb
        refine wpIn_skip ?_
        refine then_n ?_
        have hS := hS.pickN 6 [1, 2, 5, 0, 3, 4] (by decide)
        exact ⟨hF.weak [0, 1, 2, 4, 7] (by kernel_rfl), hS, hm⟩

theorem tour_Count_1_w {place1 : Int} {seen1 : Int} {left1 : Int} {g1 : Nat} {p31 : Int} {g2 : Nat} {A1 : Option Addr} {c1 : Nat} {n1 : Nat} {hd1 : List Hd} {p41 : List (List Int)} {g3 : Nat} {p51 : Int} {g4 : Nat} {p61 : Int} {g5 : Nat} {r : (Int × Int)} {w0 w : World} {B : Nat} {fs : List HP} (hm : tour_Count_1_m place1 seen1 left1 p31 p41 p51 p61 = some r) (hS : Sep w0 B w (blk g1 3 #[.int .i64 p31] :: blk g2 50 #[.slice A1 n1 c1] :: rows 22 3 (.slice A1 n1 c1) hd1 p41 :: blk g3 3 #[.int .i64 p51] :: blk g4 3 #[.int .i64 p61] :: blk g5 60 #[.func (.func 35) #[] #[.pointer (some ⟨g1, 0, none⟩), .pointer (some ⟨g2, 0, none⟩), .pointer (some ⟨g3, 0, none⟩), .pointer (some ⟨g4, 0, none⟩), .pointer (some ⟨g5, 0, none⟩)]] :: fs)) :
    Calls Tryd.prog 35 #[.int .i64 place1, .int .u64 seen1, .int .i64 left1, .pointer (some ⟨g1, 0, none⟩), .pointer (some ⟨g2, 0, none⟩), .pointer (some ⟨g3, 0, none⟩), .pointer (some ⟨g4, 0, none⟩), .pointer (some ⟨g5, 0, none⟩)] w fun e w' => ∃ v, e = .returned v ∧ v = .tuple #[] ∧ Sep w0 B w' (blk g1 3 #[.int .i64 r.1] :: blk g2 50 #[.slice A1 n1 c1] :: rows 22 3 (.slice A1 n1 c1) hd1 p41 :: blk g3 3 #[.int .i64 p51] :: blk g4 3 #[.int .i64 r.2] :: blk g5 60 #[.func (.func 35) #[] #[.pointer (some ⟨g1, 0, none⟩), .pointer (some ⟨g2, 0, none⟩), .pointer (some ⟨g3, 0, none⟩), .pointer (some ⟨g4, 0, none⟩), .pointer (some ⟨g5, 0, none⟩)]] :: fs) := by
  have key : ∀ (n : Nat) {place1 : Int} {seen1 : Int} {left1 : Int} {g1 : Nat} {p31 : Int} {g2 : Nat} {A1 : Option Addr} {c1 : Nat} {n1 : Nat} {hd1 : List Hd} {p41 : List (List Int)} {g3 : Nat} {p51 : Int} {g4 : Nat} {p61 : Int} {g5 : Nat} {r : (Int × Int)} {w0 w : World} {B : Nat} {fs : List HP} (_ : tour_Count_1_mF n place1 seen1 left1 p31 p41 p51 p61 = some r) (_ : Sep w0 B w (blk g1 3 #[.int .i64 p31] :: blk g2 50 #[.slice A1 n1 c1] :: rows 22 3 (.slice A1 n1 c1) hd1 p41 :: blk g3 3 #[.int .i64 p51] :: blk g4 3 #[.int .i64 p61] :: blk g5 60 #[.func (.func 35) #[] #[.pointer (some ⟨g1, 0, none⟩), .pointer (some ⟨g2, 0, none⟩), .pointer (some ⟨g3, 0, none⟩), .pointer (some ⟨g4, 0, none⟩), .pointer (some ⟨g5, 0, none⟩)]] :: fs)), Calls Tryd.prog 35 #[.int .i64 place1, .int .u64 seen1, .int .i64 left1, .pointer (some ⟨g1, 0, none⟩), .pointer (some ⟨g2, 0, none⟩), .pointer (some ⟨g3, 0, none⟩), .pointer (some ⟨g4, 0, none⟩), .pointer (some ⟨g5, 0, none⟩)] w fun e w' => ∃ v, e = .returned v ∧ v = .tuple #[] ∧ Sep w0 B w' (blk g1 3 #[.int .i64 r.1] :: blk g2 50 #[.slice A1 n1 c1] :: rows 22 3 (.slice A1 n1 c1) hd1 p41 :: blk g3 3 #[.int .i64 p51] :: blk g4 3 #[.int .i64 r.2] :: blk g5 60 #[.func (.func 35) #[] #[.pointer (some ⟨g1, 0, none⟩), .pointer (some ⟨g2, 0, none⟩), .pointer (some ⟨g3, 0, none⟩), .pointer (some ⟨g4, 0, none⟩), .pointer (some ⟨g5, 0, none⟩)]] :: fs) := by
    intro n
    induction n with
    | zero => intros; rename_i hm0 _; cases hm0
    | succ n ih => intros; rename_i hm0 hS0; exact tour_Count_1_wB (rec_tour_Count_1 := tour_Count_1_mF n) (fun hm hS => ih hm hS) hm0 hS0
  obtain ⟨n, hn⟩ := recM_some hm
  exact key n hn hS

set_option maxRecDepth 100000 in
theorem tour_Count_1_J4_le_tour_Count_1 {rec_tour_Count_11 rec_tour_Count_12 : Int → Int → Int → Int → List (List Int) → Int → Int → Option (Int × Int)} (h_rec_tour_Count_1 : ∀ a0 a1 a2 a3 a4 a5 a6, Le (rec_tour_Count_11 a0 a1 a2 a3 a4 a5 a6) (rec_tour_Count_12 a0 a1 a2 a3 a4 a5 a6)) (place1 : Int) (seen1 : Int) (left1 : Int) (p41 : List (List Int)) (p51 : Int) (z1 : Int) (z2 : Int) (z3 : Int) : Le (tour_Count_1_J4 rec_tour_Count_11 place1 seen1 left1 p41 p51 z1 z2 z3) (tour_Count_1_J4 rec_tour_Count_12 place1 seen1 left1 p41 p51 z1 z2 z3) := by
  unfold tour_Count_1_J4
  repeat' (first | with_reducible exact Le.refl _ | with_reducible exact h_rec_tour_Count_1 _ _ _ _ _ _ _ | with_reducible refine Le.asrt ?_ | with_reducible refine Le.ite ?_ ?_ | refine Le.bind ?_ (fun _ => ?_) | refine Le.loop2 (fun _ => ?_) | refine Le.elim2 (fun _ => ?_) (fun _ => ?_))

set_option maxRecDepth 100000 in
theorem tour_Count_1_L1_le_tour_Count_1 {rec_tour_Count_11 rec_tour_Count_12 : Int → Int → Int → Int → List (List Int) → Int → Int → Option (Int × Int)} (h_rec_tour_Count_1 : ∀ a0 a1 a2 a3 a4 a5 a6, Le (rec_tour_Count_11 a0 a1 a2 a3 a4 a5 a6) (rec_tour_Count_12 a0 a1 a2 a3 a4 a5 a6)) (place1 : Int) (seen1 : Int) (left1 : Int) (p41 : List (List Int)) (p51 : Int) (x : (Int × Int × Int)) : Le (tour_Count_1_L1 rec_tour_Count_11 place1 seen1 left1 p41 p51 x) (tour_Count_1_L1 rec_tour_Count_12 place1 seen1 left1 p41 p51 x) := by
  rcases x with ⟨z1, z2, z3⟩
  all_goals
    unfold tour_Count_1_L1
    try dsimp only
    repeat' (first | with_reducible exact Le.refl _ | with_reducible exact h_rec_tour_Count_1 _ _ _ _ _ _ _ | with_reducible exact tour_Count_1_J4_le_tour_Count_1 h_rec_tour_Count_1 _ _ _ _ _ _ _ _ | with_reducible refine Le.asrt ?_ | with_reducible refine Le.ite ?_ ?_ | refine Le.bind ?_ (fun _ => ?_) | refine Le.loop2 (fun _ => ?_) | refine Le.elim2 (fun _ => ?_) (fun _ => ?_))

set_option maxRecDepth 100000 in
theorem tour_Count_1_J2_le_tour_Count_1 {rec_tour_Count_11 rec_tour_Count_12 : Int → Int → Int → Int → List (List Int) → Int → Int → Option (Int × Int)} (h_rec_tour_Count_1 : ∀ a0 a1 a2 a3 a4 a5 a6, Le (rec_tour_Count_11 a0 a1 a2 a3 a4 a5 a6) (rec_tour_Count_12 a0 a1 a2 a3 a4 a5 a6)) (place1 : Int) (seen1 : Int) (left1 : Int) (p31 : Int) (p41 : List (List Int)) (p51 : Int) (p61 : Int) : Le (tour_Count_1_J2 rec_tour_Count_11 place1 seen1 left1 p31 p41 p51 p61) (tour_Count_1_J2 rec_tour_Count_12 place1 seen1 left1 p31 p41 p51 p61) := by
  unfold tour_Count_1_J2
  repeat' (first | with_reducible exact Le.refl _ | with_reducible exact h_rec_tour_Count_1 _ _ _ _ _ _ _ | with_reducible exact tour_Count_1_L1_le_tour_Count_1 h_rec_tour_Count_1 _ _ _ _ _ _ | with_reducible refine Le.asrt ?_ | with_reducible refine Le.ite ?_ ?_ | refine Le.bind ?_ (fun _ => ?_) | refine Le.loop2 (fun _ => ?_) | refine Le.elim2 (fun _ => ?_) (fun _ => ?_))

set_option maxRecDepth 100000 in
theorem tour_Count_1_B_le {rec_tour_Count_11 rec_tour_Count_12 : Int → Int → Int → Int → List (List Int) → Int → Int → Option (Int × Int)} (h_rec_tour_Count_1 : ∀ a0 a1 a2 a3 a4 a5 a6, Le (rec_tour_Count_11 a0 a1 a2 a3 a4 a5 a6) (rec_tour_Count_12 a0 a1 a2 a3 a4 a5 a6)) (place1 : Int) (seen1 : Int) (left1 : Int) (p31 : Int) (p41 : List (List Int)) (p51 : Int) (p61 : Int) : Le (tour_Count_1_B rec_tour_Count_11 place1 seen1 left1 p31 p41 p51 p61) (tour_Count_1_B rec_tour_Count_12 place1 seen1 left1 p31 p41 p51 p61) := by
  unfold tour_Count_1_B
  repeat' (first | with_reducible exact Le.refl _ | with_reducible exact h_rec_tour_Count_1 _ _ _ _ _ _ _ | with_reducible exact tour_Count_1_J2_le_tour_Count_1 h_rec_tour_Count_1 _ _ _ _ _ _ _ | with_reducible refine Le.asrt ?_ | with_reducible refine Le.ite ?_ ?_ | refine Le.bind ?_ (fun _ => ?_) | refine Le.loop2 (fun _ => ?_) | refine Le.elim2 (fun _ => ?_) (fun _ => ?_))

set_option maxRecDepth 100000 in
theorem tour_Count_1_mF_le : ∀ (n : Nat) (place1 : Int) (seen1 : Int) (left1 : Int) (p31 : Int) (p41 : List (List Int)) (p51 : Int) (p61 : Int), Le (tour_Count_1_mF n place1 seen1 left1 p31 p41 p51 p61) (tour_Count_1_mF (n + 1) place1 seen1 left1 p31 p41 p51 p61)
  | 0, _, _, _, _, _, _, _ => fun _ h => by cases h
  | n + 1, _, _, _, _, _, _, _ => tour_Count_1_B_le (fun a0 a1 a2 a3 a4 a5 a6 => tour_Count_1_mF_le n a0 a1 a2 a3 a4 a5 a6) _ _ _ _ _ _ _

set_option maxRecDepth 100000 in
theorem tour_Count_1_m_of (N : Nat) (place1 : Int) (seen1 : Int) (left1 : Int) (p31 : Int) (p41 : List (List Int)) (p51 : Int) (p61 : Int) {r : (Int × Int)} (h : tour_Count_1_mF N place1 seen1 left1 p31 p41 p51 p61 = some r) : tour_Count_1_m place1 seen1 left1 p31 p41 p51 p61 = some r :=
  recM_mono (fun n => tour_Count_1_mF_le n _ _ _ _ _ _ _) h

noncomputable def tour_Count_J1  (from1 : Int) (r1 : (List (List Int) × Int)) : Option (Int × Int × Int) :=
  asrt ((0 : Int) ≤ from1) <| (tour_Count_1_m from1 (shlK .u64 1 from1) (w64 ((r1.1.length : Int) - 1)) 0 r1.1 from1 0).bind fun r2 => some (r2.1, r2.2, 0)

noncomputable def tour_Count_m  (w1 : Int) (h1 : Int) (from1 : Int) : Option (Int × Int × Int) :=
  (tour_at_m w1 h1 ([from1] : List Int)).bind fun r1 => if (r1.2 != 0) then (some (0, 0, r1.2)) else (if (decide ((20 : Int) < (r1.1.length : Int))) then (some (0, 0, 2)) else ((tour_Count_J1 from1 r1)))

set_option maxRecDepth 100000 in
set_option maxHeartbeats 4000000 in
theorem tour_Count_w {w1 : Int} {h1 : Int} {from1 : Int} {r : (Int × Int × Int)} {w0 w : World} {B : Nat} {fs : List HP} [GLV 0 glob0 w0 B] (hm : tour_Count_m w1 h1 from1 = some r) (hS : Sep w0 B w (fs)) :
    Calls Tryd.prog 16 #[.int .i64 w1, .int .i64 h1, .int .i64 from1] w fun e w' => e = .returned (.tuple #[.int .i64 r.1, .int .i64 r.2.1, .int .i64 r.2.2]) ∧ Sep w0 B w' (fs) := by
  obtain ⟨i3, hi3, hz3, hs3, hb3⟩ := info_parts Info3
  obtain ⟨i50, hi50, hz50, hs50, hb50⟩ := info_parts Info50
  obtain ⟨i60, hi60, hz60, hs60, hb60⟩ := info_parts Info60
  unfold tour_Count_m at hm
  replace hm := start_b hm
  refine enter (l := [.int .i64 w1, .int .i64 h1, .int .i64 from1]) (n := 41) Tryd.func16 rfl rfl (by simp) (fun a hF => ?_)
  refine seqR ?_
  refine at_do (d := 5) (s := vS (Instr.box 3 (.int .i64 from1))) (v := .pointer (some ⟨w.heap.size, 0, none⟩)) (w' := w.alloc (.cells #[.int .i64 from1] 3)) hF (by kernel_rfl) (by kernel_rfl) (by kernel_rfl) (fun a hF => ?_)
  have hS : Sep w0 B (w.alloc (.cells #[.int .i64 from1] 3)) (blk w.heap.size 3 #[.int .i64 from1] :: (fs)) := hS.box 3 #[.int .i64 from1]
  generalize w.heap.size = g1 at hF hS
  generalize w.alloc (.cells #[.int .i64 from1] 3) = w at hS ⊢
  refine at_run 3 [] [] [0, 1, 5] [pl 0 (.int .i64 w1), pl 1 (.int .i64 h1), pl 5 (.pointer (some ⟨g1, 0, none⟩))] hF hS (by kernel_rfl) (by kernel_rfl) ?_ (fun a w hF hS => ?_)
  · exact obs_nil
  refine at_end [0, 1, 5] [pl 0 (.int .i64 w1), pl 1 (.int .i64 h1), pl 5 (.pointer (some ⟨g1, 0, none⟩))] hF rfl (by kernel_rfl) (fun hF => ?_)
  refine then_n ?_
  refine seqR ?_
  obtain ⟨r1, hr1, hm⟩ := call_b hm
  refine at_run 3 [⟨false, [], vS (Instr.loadAt 3 (.pointer (some ⟨g1, 0, none⟩))), .int .i64 from1⟩] [none, none, some (.int .i64 from1)] [5, 15, 16, 17] [pl 5 (.pointer (some ⟨g1, 0, none⟩)), pl 15 (.int .i64 w1), pl 16 (.int .i64 h1), pl 17 (.int .i64 from1)] hF hS (by kernel_rfl) (by kernel_rfl) ?_ (fun a w hF hS => ?_)
  · exact obs_cons (ob_load Agg3 (fun _ _ hS => (hS.at_ 0 rfl).cell rfl)) <| obs_nil
  refine at_do (d := 18) (s := vS (Instr.buildSlice 22 1 #[(0, .int .i64 from1)])) (v := .slice (some ⟨w.heap.size, 0, none⟩) 1 1) (w' := w.alloc (.cells #[.int .i64 from1] 3)) hF (by kernel_rfl) (by kernel_rfl) (by kernel_rfl) (fun a hF => ?_)
  have hS : Sep w0 B (w.alloc (.cells #[.int .i64 from1] 3)) (own 3 (.slice (some (⟨w.heap.size, 0, none⟩ : Addr)) 1 1) (vI ([from1] : List Int)) :: (blk g1 3 #[.int .i64 from1] :: fs)) := hS.lit 3 #[.int .i64 from1] 1 rfl (by omega)
  generalize (some (⟨w.heap.size, 0, none⟩ : Addr)) = g2 at hF hS
  generalize w.alloc (.cells #[.int .i64 from1] 3) = w at hS ⊢
  refine at_call (f := 27) (args := #[.int .i64 w1, .int .i64 h1, .slice g2 1 1]) (d := 19) hF (by kernel_rfl) (by kernel_rfl) Tryd.func27 (by kernel_rfl) rfl (tour_at_w hr1 hS (fun _ hS => (hS.at_ 0 rfl).rd) ((hS.at_ 0 rfl).cap1) ((hS.at_ 0 rfl).len1)) (fun v a w hR hF => ?_)
  clear hS
  obtain ⟨A1, c1, hd1, rfl, hS⟩ := hR
  have hS : Sep w0 B w (rows 22 3 (.slice A1 r1.1.length c1) hd1 r1.1 :: own 3 (.slice g2 1 1) (vI ([from1] : List Int)) :: blk g1 3 #[.int .i64 from1] :: fs) := hS
  refine at_run 3 [] [] [5, 20, 21] [pl 5 (.pointer (some ⟨g1, 0, none⟩)), pl 20 (.slice A1 r1.1.length c1), pl 21 (.int .i64 r1.2)] hF hS (by kernel_rfl) (by kernel_rfl) ?_ (fun a w hF hS => ?_)
  · exact obs_nil
  refine at_do (d := 9) (s := vS (Instr.alloc 50 true (.tuple #[]))) (v := .pointer (some ⟨w.heap.size, 0, none⟩)) (w' := w.alloc (.cells #[.slice none 0 0] 50)) hF (by kernel_rfl) (by kernel_rfl) (by kernel_rfl) (fun a hF => ?_)
  have hS : Sep w0 B (w.alloc (.cells #[.slice none 0 0] 50)) (blk w.heap.size 50 #[.slice none 0 0] :: (rows 22 3 (.slice A1 r1.1.length c1) hd1 r1.1 :: own 3 (.slice g2 1 1) (vI ([from1] : List Int)) :: blk g1 3 #[.int .i64 from1] :: fs)) := hS.box 50 #[.slice none 0 0]
  generalize w.heap.size = g3 at hF hS
  generalize w.alloc (.cells #[.slice none 0 0] 50) = w at hS ⊢
  obtain ⟨w, hrun, hS⟩ := run_put (P := Tryd.prog) (t := 50) (u := .slice A1 r1.1.length c1) (i := 0) (hS.at_ 0 rfl) hi50 hs50 rfl (Nat.lt_of_lt_of_eq (Nat.lt_of_succ_le (Nat.le_of_ble_eq_true (by kernel_rfl))) rfl)
  refine at_skip hF (by kernel_rfl) hrun ?_
  have hS : Sep w0 B w (blk g3 50 #[.slice A1 r1.1.length c1] :: rows 22 3 (.slice A1 r1.1.length c1) hd1 r1.1 :: own 3 (.slice g2 1 1) (vI ([from1] : List Int)) :: blk g1 3 #[.int .i64 from1] :: fs) := hS
  refine at_run 1 [] [] [5, 9, 10] [pl 5 (.pointer (some ⟨g1, 0, none⟩)), pl 9 (.pointer (some ⟨g3, 0, none⟩)), pl 10 (.int .i64 r1.2)] hF hS (by kernel_rfl) (by kernel_rfl) ?_ (fun a w hF hS => ?_)
  · exact obs_nil
  refine at_end [5, 9, 10] [pl 5 (.pointer (some ⟨g1, 0, none⟩)), pl 9 (.pointer (some ⟨g3, 0, none⟩)), pl 10 (.int .i64 r1.2)] hF rfl (by kernel_rfl) (fun hF => ?_)
  refine then_n ?_
  refine seq_cut (fun a w => Fr 41 [pl 5 (.pointer (some ⟨g1, 0, none⟩)), pl 9 (.pointer (some ⟨g3, 0, none⟩))] a ∧ Sep w0 B w (blk g1 3 #[.int .i64 from1] :: blk g3 50 #[.slice A1 r1.1.length c1] :: rows 22 3 (.slice A1 r1.1.length c1) hd1 r1.1 :: fs) ∧ ((tour_Count_J1 from1 r1)).bind some = some r) ?_ ?_
  · rintro a w ⟨hF, hS, hm⟩
    unfold tour_Count_J1 at hm
    refine seqR ?_
    refine at_do (d := 11) (s := vS (Instr.alloc 3 true (.tuple #[]))) (v := .pointer (some ⟨w.heap.size, 0, none⟩)) (w' := w.alloc (.cells #[.int .i64 0] 3)) hF (by kernel_rfl) (by kernel_rfl) (by kernel_rfl) (fun a hF => ?_)
    have hS : Sep w0 B (w.alloc (.cells #[.int .i64 0] 3)) (blk w.heap.size 3 #[.int .i64 0] :: (blk g1 3 #[.int .i64 from1] :: blk g3 50 #[.slice A1 r1.1.length c1] :: rows 22 3 (.slice A1 r1.1.length c1) hd1 r1.1 :: fs)) := hS.box 3 #[.int .i64 0]
    generalize w.heap.size = g4 at hF hS
    generalize w.alloc (.cells #[.int .i64 0] 3) = w at hS ⊢
    refine at_do (d := 12) (s := vS (Instr.alloc 3 true (.tuple #[]))) (v := .pointer (some ⟨w.heap.size, 0, none⟩)) (w' := w.alloc (.cells #[.int .i64 0] 3)) hF (by kernel_rfl) (by kernel_rfl) (by kernel_rfl) (fun a hF => ?_)
    have hS : Sep w0 B (w.alloc (.cells #[.int .i64 0] 3)) (blk w.heap.size 3 #[.int .i64 0] :: (blk g4 3 #[.int .i64 0] :: blk g1 3 #[.int .i64 from1] :: blk g3 50 #[.slice A1 r1.1.length c1] :: rows 22 3 (.slice A1 r1.1.length c1) hd1 r1.1 :: fs)) := hS.box 3 #[.int .i64 0]
    generalize w.heap.size = g5 at hF hS
    generalize w.alloc (.cells #[.int .i64 0] 3) = w at hS ⊢
    obtain ⟨w, hrun, hS⟩ := run_put (P := Tryd.prog) (t := 3) (u := .int .i64 0) (i := 0) (hS.at_ 1 rfl) hi3 hs3 rfl (Nat.lt_of_lt_of_eq (Nat.lt_of_succ_le (Nat.le_of_ble_eq_true (by kernel_rfl))) rfl)
    refine at_skip hF (by kernel_rfl) hrun ?_
    have hS : Sep w0 B w (blk g5 3 #[.int .i64 0] :: blk g4 3 #[.int .i64 0] :: blk g1 3 #[.int .i64 from1] :: blk g3 50 #[.slice A1 r1.1.length c1] :: rows 22 3 (.slice A1 r1.1.length c1) hd1 r1.1 :: fs) := hS
    obtain ⟨w, hrun, hS⟩ := run_put (P := Tryd.prog) (t := 3) (u := .int .i64 0) (i := 0) (hS.at_ 0 rfl) hi3 hs3 rfl (Nat.lt_of_lt_of_eq (Nat.lt_of_succ_le (Nat.le_of_ble_eq_true (by kernel_rfl))) rfl)
    refine at_skip hF (by kernel_rfl) hrun ?_
    have hS : Sep w0 B w (blk g5 3 #[.int .i64 0] :: blk g4 3 #[.int .i64 0] :: blk g1 3 #[.int .i64 from1] :: blk g3 50 #[.slice A1 r1.1.length c1] :: rows 22 3 (.slice A1 r1.1.length c1) hd1 r1.1 :: fs) := hS
    refine at_end [5, 9, 11, 12] [pl 5 (.pointer (some ⟨g1, 0, none⟩)), pl 9 (.pointer (some ⟨g3, 0, none⟩)), pl 11 (.pointer (some ⟨g4, 0, none⟩)), pl 12 (.pointer (some ⟨g5, 0, none⟩))] hF rfl (by kernel_rfl) (fun hF => ?_)
    refine then_n ?_
    refine seqR ?_
    refine at_do (d := 13) (s := vS (Instr.alloc 60 true (.tuple #[]))) (v := .pointer (some ⟨w.heap.size, 0, none⟩)) (w' := w.alloc (.cells #[.nilFunc] 60)) hF (by kernel_rfl) (by kernel_rfl) (by kernel_rfl) (fun a hF => ?_)
    have hS : Sep w0 B (w.alloc (.cells #[.nilFunc] 60)) (blk w.heap.size 60 #[.nilFunc] :: (blk g5 3 #[.int .i64 0] :: blk g4 3 #[.int .i64 0] :: blk g1 3 #[.int .i64 from1] :: blk g3 50 #[.slice A1 r1.1.length c1] :: rows 22 3 (.slice A1 r1.1.length c1) hd1 r1.1 :: fs)) := hS.box 60 #[.nilFunc]
    generalize w.heap.size = g6 at hF hS
    generalize w.alloc (.cells #[.nilFunc] 60) = w at hS ⊢
    refine at_end [5, 9, 11, 12, 13] [pl 5 (.pointer (some ⟨g1, 0, none⟩)), pl 9 (.pointer (some ⟨g3, 0, none⟩)), pl 11 (.pointer (some ⟨g4, 0, none⟩)), pl 12 (.pointer (some ⟨g5, 0, none⟩)), pl 13 (.pointer (some ⟨g6, 0, none⟩))] hF rfl (by kernel_rfl) (fun hF => ?_)
    refine then_n ?_
    refine seqR ?_
    refine at_run 1 [] [] [5, 9, 11, 12, 13, 30] [pl 5 (.pointer (some ⟨g1, 0, none⟩)), pl 9 (.pointer (some ⟨g3, 0, none⟩)), pl 11 (.pointer (some ⟨g4, 0, none⟩)), pl 12 (.pointer (some ⟨g5, 0, none⟩)), pl 13 (.pointer (some ⟨g6, 0, none⟩)), pl 30 (.func (.func 35) #[] #[.pointer (some ⟨g4, 0, none⟩), .pointer (some ⟨g3, 0, none⟩), .pointer (some ⟨g1, 0, none⟩), .pointer (some ⟨g5, 0, none⟩), .pointer (some ⟨g6, 0, none⟩)])] hF hS (by kernel_rfl) (by kernel_rfl) ?_ (fun a w hF hS => ?_)
    · exact obs_nil
    obtain ⟨w, hrun, hS⟩ := run_put (P := Tryd.prog) (t := 60) (u := .func (.func 35) #[] #[.pointer (some ⟨g4, 0, none⟩), .pointer (some ⟨g3, 0, none⟩), .pointer (some ⟨g1, 0, none⟩), .pointer (some ⟨g5, 0, none⟩), .pointer (some ⟨g6, 0, none⟩)]) (i := 0) (hS.at_ 0 rfl) hi60 hs60 rfl (Nat.lt_of_lt_of_eq (Nat.lt_of_succ_le (Nat.le_of_ble_eq_true (by kernel_rfl))) rfl)
    refine at_skip hF (by kernel_rfl) hrun ?_
    have hS : Sep w0 B w (blk g6 60 #[.func (.func 35) #[] #[.pointer (some ⟨g4, 0, none⟩), .pointer (some ⟨g3, 0, none⟩), .pointer (some ⟨g1, 0, none⟩), .pointer (some ⟨g5, 0, none⟩), .pointer (some ⟨g6, 0, none⟩)]] :: blk g5 3 #[.int .i64 0] :: blk g4 3 #[.int .i64 0] :: blk g1 3 #[.int .i64 from1] :: blk g3 50 #[.slice A1 r1.1.length c1] :: rows 22 3 (.slice A1 r1.1.length c1) hd1 r1.1 :: fs) := hS
    refine at_end [5, 9, 11, 12, 13] [pl 5 (.pointer (some ⟨g1, 0, none⟩)), pl 9 (.pointer (some ⟨g3, 0, none⟩)), pl 11 (.pointer (some ⟨g4, 0, none⟩)), pl 12 (.pointer (some ⟨g5, 0, none⟩)), pl 13 (.pointer (some ⟨g6, 0, none⟩))] hF rfl (by kernel_rfl) (fun hF => ?_)
    refine then_n ?_
    refine wpIn_seq ?_
    obtain ⟨hp1, hm⟩ := asrt_b hm
    obtain ⟨r2, hr2, hm⟩ := call_b hm
    refine regMix4 [0, 1, 2, 3, 4, 5, 6] [7] [⟨false, [], vS (Instr.loadAt 60 (.pointer (some ⟨g6, 0, none⟩))), .func (.func 35) #[] #[.pointer (some ⟨g4, 0, none⟩), .pointer (some ⟨g3, 0, none⟩), .pointer (some ⟨g1, 0, none⟩), .pointer (some ⟨g5, 0, none⟩), .pointer (some ⟨g6, 0, none⟩)]⟩, ⟨false, [], vS (Instr.loadAt 3 (.pointer (some ⟨g1, 0, none⟩))), .int .i64 from1⟩, ⟨false, [], vS (Instr.loadAt 3 (.pointer (some ⟨g1, 0, none⟩))), .int .i64 from1⟩, ⟨true, [], vS (Op.shift .shl .u64 1 .i64 from1), .int .u64 (shlK .u64 1 from1)⟩, ⟨false, [], vS (Instr.loadAt 50 (.pointer (some ⟨g3, 0, none⟩))), .slice A1 r1.1.length c1⟩] [some (.func (.func 35) #[] #[.pointer (some ⟨g4, 0, none⟩), .pointer (some ⟨g3, 0, none⟩), .pointer (some ⟨g1, 0, none⟩), .pointer (some ⟨g5, 0, none⟩), .pointer (some ⟨g6, 0, none⟩)]), some (.int .i64 from1), some (.int .i64 from1), some (.int .u64 (shlK .u64 1 from1)), some (.slice A1 r1.1.length c1), none, none] [11, 12, 31, 32, 34, 37] [pl 11 (.pointer (some ⟨g4, 0, none⟩)), pl 12 (.pointer (some ⟨g5, 0, none⟩)), pl 31 (.func (.func 35) #[] #[.pointer (some ⟨g4, 0, none⟩), .pointer (some ⟨g3, 0, none⟩), .pointer (some ⟨g1, 0, none⟩), .pointer (some ⟨g5, 0, none⟩), .pointer (some ⟨g6, 0, none⟩)]), pl 32 (.int .i64 from1), pl 34 (.int .u64 (shlK .u64 1 from1)), pl 37 (.int .i64 (w64 ((r1.1.length : Int) - 1)))] hF hS Fol (by kernel_rfl) (by kernel_rfl) (by kernel_rfl) (by kernel_rfl) (by kernel_rfl) ?_ (fun a w hF hS => ?_)
    · exact obs_cons (ob_load Agg60 (fun _ _ hS => (hS.at_ 0 rfl).cell rfl)) <| obs_cons (ob_load Agg3 (fun _ _ hS => (hS.at_ 3 rfl).cell rfl)) <| obs_cons (ob_load Agg3 (fun _ _ hS => (hS.at_ 3 rfl).cell rfl)) <| obs_cons (ob_shl (fun _ => hp1)) <| obs_cons (ob_load Agg50 (fun _ _ hS => (hS.at_ 4 rfl).cell rfl)) <| obs_nil
    have hS : Sep w0 B w (blk g4 3 #[.int .i64 0] :: blk g3 50 #[.slice A1 r1.1.length c1] :: rows 22 3 (.slice A1 r1.1.length c1) hd1 r1.1 :: blk g1 3 #[.int .i64 from1] :: blk g5 3 #[.int .i64 0] :: blk g6 60 #[.func (.func 35) #[] #[.pointer (some ⟨g4, 0, none⟩), .pointer (some ⟨g3, 0, none⟩), .pointer (some ⟨g1, 0, none⟩), .pointer (some ⟨g5, 0, none⟩), .pointer (some ⟨g6, 0, none⟩)]] :: fs) := hS.pickN 6 [2, 4, 5, 3, 1, 0] (by decide)
    refine at_call (f := 35) (args := #[.int .i64 from1, .int .u64 (shlK .u64 1 from1), .int .i64 (w64 ((r1.1.length : Int) - 1)), .pointer (some ⟨g4, 0, none⟩), .pointer (some ⟨g3, 0, none⟩), .pointer (some ⟨g1, 0, none⟩), .pointer (some ⟨g5, 0, none⟩), .pointer (some ⟨g6, 0, none⟩)]) (d := 38) hF (by kernel_rfl) (by kernel_rfl) Tryd.func35 (by kernel_rfl) rfl (tour_Count_1_w hr2 hS ) (fun v a w hR hF => ?_)
    clear hS
    obtain ⟨rfl, hS⟩ := hR
    have hS : Sep w0 B w (blk g4 3 #[.int .i64 r2.1] :: blk g3 50 #[.slice A1 r1.1.length c1] :: rows 22 3 (.slice A1 r1.1.length c1) hd1 r1.1 :: blk g1 3 #[.int .i64 from1] :: blk g5 3 #[.int .i64 r2.2] :: blk g6 60 #[.func (.func 35) #[] #[.pointer (some ⟨g4, 0, none⟩), .pointer (some ⟨g3, 0, none⟩), .pointer (some ⟨g1, 0, none⟩), .pointer (some ⟨g5, 0, none⟩), .pointer (some ⟨g6, 0, none⟩)]] :: fs) := hS
    refine at_end [11, 12] [pl 11 (.pointer (some ⟨g4, 0, none⟩)), pl 12 (.pointer (some ⟨g5, 0, none⟩))] hF rfl (by kernel_rfl) (fun hF => ?_)
    refine np_n ?_
    refine then_n ?_
    refine reg [⟨false, [], vS (Instr.loadAt 3 (.pointer (some ⟨g4, 0, none⟩))), .int .i64 r2.1⟩, ⟨false, [], vS (Instr.loadAt 3 (.pointer (some ⟨g5, 0, none⟩))), .int .i64 r2.2⟩] [some (.int .i64 r2.1), some (.int .i64 r2.2), none, none, none] [6, 7, 8] [pl 6 (.int .i64 r2.1), pl 7 (.int .i64 r2.2), pl 8 (.int .i64 0)] hF hS Fol (by kernel_rfl) (by kernel_rfl) (by kernel_rfl) ?_ (fun a w hF hS => ?_)
    · exact obs_cons (ob_load Agg3 (fun _ _ hS => (hS.at_ 0 rfl).cell rfl)) <| obs_cons (ob_load Agg3 (fun _ _ hS => (hS.at_ 4 rfl).cell rfl)) <| obs_nil
    refine wpIn_ret ?_
    have hS := hS.pickN 6 [] (by decide)
    have hm : some (r2.1, r2.2, 0) = some r := hm
    obtain rfl := Option.some.inj hm
    exact retV (rs := [.tmp 6, .tmp 7, .tmp 8]) (vs := [.int .i64 r2.1, .int .i64 r2.2, .int .i64 0]) hF rfl (rv_t (by kernel_rfl) <| rv_t (by kernel_rfl) <| rv_t (by kernel_rfl) <| rv_nil) rfl ⟨rfl, hS⟩
  · refine wpIn_block ?_
    refine reg [] [] [5, 9, 10, 22] [pl 5 (.pointer (some ⟨g1, 0, none⟩)), pl 9 (.pointer (some ⟨g3, 0, none⟩)), pl 10 (.int .i64 r1.2), pl 22 (.bool (r1.2 != 0))] hF hS Fol (by kernel_rfl) (by kernel_rfl) (by kernel_rfl) ?_ (fun a w hF hS => ?_)
    · exact obs_nil
    refine cond_ev (t := 22) (b := (r1.2 != 0)) hF (by kernel_rfl) (fun hb => ?_) (fun hb => ?_)
    · replace hm := if_t hm hb
      refine reg [] [] [6, 7, 8] [pl 6 (.int .i64 0), pl 7 (.int .i64 0), pl 8 (.int .i64 r1.2)] hF hS Fol (by kernel_rfl) (by kernel_rfl) (by kernel_rfl) ?_ (fun a w hF hS => ?_)
      · exact obs_nil
      refine wpIn_ret ?_
      refine block_r (then_r ?_)
      have hS := hS.pickN 4 [] (by decide)
      have hm : some (0, 0, r1.2) = some r := hm
      obtain rfl := Option.some.inj hm
      exact retV (rs := [.tmp 6, .tmp 7, .tmp 8]) (vs := [.int .i64 0, .int .i64 0, .int .i64 r1.2]) hF rfl (rv_t (by kernel_rfl) <| rv_t (by kernel_rfl) <| rv_t (by kernel_rfl) <| rv_nil) rfl ⟨rfl, hS⟩
    · replace hm := if_f hm hb
      refine reg [⟨false, [], vS (Instr.loadAt 50 (.pointer (some ⟨g3, 0, none⟩))), .slice A1 r1.1.length c1⟩] [some (.slice A1 r1.1.length c1), none, none, none] [5, 9, 26] [pl 5 (.pointer (some ⟨g1, 0, none⟩)), pl 9 (.pointer (some ⟨g3, 0, none⟩)), pl 26 (.bool (decide ((20 : Int) < (r1.1.length : Int))))] hF hS Fol (by kernel_rfl) (by kernel_rfl) (by kernel_rfl) ?_ (fun a w hF hS => ?_)
      · exact obs_cons (ob_load Agg50 (fun _ _ hS => (hS.at_ 0 rfl).cell rfl)) <| obs_nil
      refine cond_ev (t := 26) (b := decide ((20 : Int) < (r1.1.length : Int))) hF (by kernel_rfl) (fun hb => ?_) (fun hb => ?_)
      · replace hm := if_t hm hb
        refine reg [] [] [6, 7, 8] [pl 6 (.int .i64 0), pl 7 (.int .i64 0), pl 8 (.int .i64 2)] hF hS Fol (by kernel_rfl) (by kernel_rfl) (by kernel_rfl) ?_ (fun a w hF hS => ?_)
        · exact obs_nil
        refine wpIn_ret ?_
        refine block_r (then_r ?_)
        have hS := hS.pickN 4 [] (by decide)
        have hm : some (0, 0, 2) = some r := hm
        obtain rfl := Option.some.inj hm
        exact retV (rs := [.tmp 6, .tmp 7, .tmp 8]) (vs := [.int .i64 0, .int .i64 0, .int .i64 2]) hF rfl (rv_t (by kernel_rfl) <| rv_t (by kernel_rfl) <| rv_t (by kernel_rfl) <| rv_nil) rfl ⟨rfl, hS⟩
      · replace hm := if_f hm hb
        refine wpIn_skip ?_
        refine block_n ?_
        refine then_n ?_
        have hS := hS.pickN 4 [3, 0, 1] (by decide)
        exact ⟨hF.weak [5, 9] (by kernel_rfl), hS, hm⟩

noncomputable def slices_Clone_J1  (s1 : List Int) : Option (List Int) :=
  asrt ((0 : Int) + (s1.length : Int) ≤ bigN) <| some (([] : List Int) ++ s1)

noncomputable def slices_Clone_m  (s1 : List Int) : Option (List Int) :=
  (slices_Clone_J1 s1)

set_option maxRecDepth 100000 in
set_option maxHeartbeats 4000000 in
theorem slices_Clone_w {A1 : Option Addr} {c1 : Nat} {n1 : Nat} {s1 : List Int} {r : (List Int)} {w0 w : World} {B : Nat} {fs : List HP} (hm : slices_Clone_m s1 = some r) (hS : Sep w0 B w (fs)) (hr_s1 : RdF w0 B fs A1 (vI s1)) (_hc_s1 : s1.length ≤ c1) (_hn_s1 : n1 = s1.length) :
    Calls Tryd.prog 38 #[.slice A1 n1 c1] w fun e w' => ∃ v, e = .returned v ∧ ∃ (A3 : Option Addr) (c3 : Nat), v = .slice A3 r.length c3 ∧ Sep w0 B w' (own 3 (.slice A3 r.length c3) (vI r) :: fs) := by
  obtain ⟨i3, hi3, hz3, hs3, hb3⟩ := info_parts Info3
  obtain rfl := _hn_s1
  unfold slices_Clone_m at hm
  replace hm := start_b hm
  refine enter (l := [.slice A1 s1.length c1]) (n := 8) Tryd.func38 rfl rfl (by simp) (fun a hF => ?_)
  refine reg [] [] [0] [pl 0 (.slice A1 s1.length c1)] hF hS Fol (by kernel_rfl) (by kernel_rfl) (by kernel_rfl) ?_ (fun a w hF hS => ?_)
  · exact obs_nil
  refine seq_cut (fun a w => Fr 8 [pl 0 (.slice A1 s1.length c1)] a ∧ Sep w0 B w (fs) ∧ ((slices_Clone_J1 s1)).bind some = some r) ?_ ?_
  · rintro a w ⟨hF, hS, hm⟩
    unfold slices_Clone_J1 at hm
    refine seqR ?_
    obtain ⟨hp1, hm⟩ := asrt_b hm
    refine at_do (d := 5) (s := vS (Instr.buildSlice 22 0 #[])) (v := .slice (some ⟨w.heap.size, 0, none⟩) 0 0) (w' := w.alloc (.cells #[] 3)) hF (by kernel_rfl) (by kernel_rfl) (by kernel_rfl) (fun a hF => ?_)
    have hS : Sep w0 B (w.alloc (.cells #[] 3)) (own 3 (.slice (some (⟨w.heap.size, 0, none⟩ : Addr)) 0 0) (vI ([] : List Int)) :: (fs)) := hS.lit 3 #[] 0 rfl (by omega)
    generalize (some (⟨w.heap.size, 0, none⟩ : Addr)) = g1 at hF hS
    generalize w.alloc (.cells #[] 3) = w at hS ⊢
    refine at_run 1 [] [] [5, 6] [pl 5 (.slice g1 0 0), pl 6 (.slice A1 s1.length c1)] hF hS (by kernel_rfl) (by kernel_rfl) ?_ (fun a w hF hS => ?_)
    · exact obs_nil
    obtain ⟨A2, c2, w, hrun, hS⟩ := run_app1 (P := Tryd.prog) (t := 22) (m := ([] : List Int)) (ys := s1) (A2 := A1) (m2 := s1.length) (c2 := c1) (Value.int .i64) (0 : Int) (hS.at_ 0 rfl) (hr_s1 _ (hS.dropN 1)) rfl 22 Und22 hi3 hz3 hs3 (by omega) rfl (fun _ => rfl) hp1
    have hS : Sep w0 B w (own 3 (.slice A2 ((([] : List Int) ++ s1).length) c2) (vI (([] : List Int) ++ s1)) :: fs) := hS
    refine at_do (d := 7) hF (by kernel_rfl) (by kernel_rfl) hrun (fun a hF => ?_)
    refine at_run 1 [] [] [2] [pl 2 (.slice A2 ((([] : List Int) ++ s1).length) c2)] hF hS (by kernel_rfl) (by kernel_rfl) ?_ (fun a w hF hS => ?_)
    · exact obs_nil
    refine at_end [2] [pl 2 (.slice A2 ((([] : List Int) ++ s1).length) c2)] hF rfl (by kernel_rfl) (fun hF => ?_)
    refine then_n ?_
    refine wpIn_ret ?_
    have hm : some (([] : List Int) ++ s1) = some r := hm
    obtain rfl := Option.some.inj hm
    exact retV (rs := [.tmp 2]) (vs := [.slice A2 ((([] : List Int) ++ s1).length) c2]) hF rfl (rv_t (by kernel_rfl) <| rv_nil) rfl ⟨_, rfl, A2, c2, rfl, hS⟩
  · refine reg [⟨true, [], vS (binOp .eql 22 (.slice A1 s1.length c1) (.slice none 0 0)), .bool A1.isNone⟩] [none, some (.bool A1.isNone)] [0, 4] [pl 0 (.slice A1 s1.length c1), pl 4 (.bool A1.isNone)] hF hS Fol (by kernel_rfl) (by kernel_rfl) (by kernel_rfl) ?_ (fun a w hF hS => ?_)
    · exact obs_cons (ob_isnil Und22 rfl) <| obs_nil
    refine cond_ev (t := 4) (b := A1.isNone) hF (by kernel_rfl) (fun hb => ?_) (fun hb => ?_)
    · have hA9 := Option.isNone_iff_eq_none.1 hb
      have hnil9 : s1 = [] := by have h9 := (hr_s1 _ (hS.dropN 0)); rw [hA9] at h9; exact h9.none_nil
      have hm : (some ([] : List Int)).bind some = some r := by rw [hnil9] at hm; simpa [asrt, bigN, slices_Clone_J1] using hm
      refine reg [] [] [2] [pl 2 (.slice none 0 0)] hF hS Fol (by kernel_rfl) (by kernel_rfl) (by kernel_rfl) ?_ (fun a w hF hS => ?_)
      · exact obs_nil
      refine wpIn_ret ?_
      refine then_r ?_
      have hS : Sep w0 B w (own 3 (.slice none 0 0) (vI ([] : List Int)) :: fs) := hS.nil 3
      have hl1 := (hS.at_ 0 rfl).len1
      have hS := (hS.at_ 0 rfl).reN hl1
      have hS : Sep w0 B w (own 3 (.slice none (([] : List Int).length) 0) (vI ([] : List Int)) :: fs) := hS
      have hm : some ([] : List Int) = some r := hm
      obtain rfl := Option.some.inj hm
      exact retV (rs := [.tmp 2]) (vs := [.slice none (([] : List Int).length) 0]) hF rfl (rv_t (by kernel_rfl) <| rv_nil) rfl ⟨_, rfl, none, 0, rfl, hS⟩
    · refine wpIn_skip ?_
      refine then_n ?_
      exact ⟨hF.weak [0] (by kernel_rfl), hS, hm⟩

noncomputable def tour_Greedy_1_1_m  (q1 : Int) (p11 : List Bool) : Option Bool :=
  asrt (0 ≤ q1 ∧ q1 < (p11.length : Int)) <| some (getb p11 q1)

set_option maxRecDepth 100000 in
set_option maxHeartbeats 4000000 in
theorem tour_Greedy_1_1_w {q1 : Int} {g1 : Nat} {A1 : Option Addr} {c1 : Nat} {n1 : Nat} {p11 : List Bool} {r : Bool} {w0 w : World} {B : Nat} {fs : List HP} (hm : tour_Greedy_1_1_m q1 p11 = some r) (hS : Sep w0 B w (blk g1 54 #[.slice A1 n1 c1] :: own 4 (.slice A1 n1 c1) (vB p11) :: fs)) :
    Calls Tryd.prog 39 #[.int .i64 q1, .pointer (some ⟨g1, 0, none⟩)] w fun e w' => e = .returned (.bool r) ∧ Sep w0 B w' (blk g1 54 #[.slice A1 n1 c1] :: own 4 (.slice A1 n1 c1) (vB p11) :: fs) := by
  obtain ⟨i4, hi4, hz4, hs4, hb4⟩ := info_parts Info4
  obtain rfl := (hS.at_ 1 rfl).len1
  unfold tour_Greedy_1_1_m at hm
  replace hm := start_b hm
  refine enter (l := [.int .i64 q1, .pointer (some ⟨g1, 0, none⟩)]) (n := 8) Tryd.func39 rfl rfl (by simp) (fun a hF => ?_)
  refine reg [] [] [0, 1] [pl 0 (.int .i64 q1), pl 1 (.pointer (some ⟨g1, 0, none⟩))] hF hS Fol (by kernel_rfl) (by kernel_rfl) (by kernel_rfl) ?_ (fun a w hF hS => ?_)
  · exact obs_nil
  obtain ⟨hp1, hm⟩ := asrt_b hm
  refine reg [⟨false, [], vS (Instr.loadAt 54 (.pointer (some ⟨g1, 0, none⟩))), .slice A1 p11.length c1⟩, ⟨true, [], vS (Instr.indexAt 54 (.slice A1 p11.length c1) (.int .i64 q1)), .pointer (some (sAddr A1 q1))⟩, ⟨false, [], vS (Instr.loadAt 4 (.pointer (some (sAddr A1 q1)))), .bool (getb p11 q1)⟩] [some (.slice A1 p11.length c1), none, some (.pointer (some (sAddr A1 q1))), some (.bool (getb p11 q1)), none] [3] [pl 3 (.bool (getb p11 q1))] hF hS Fol (by kernel_rfl) (by kernel_rfl) (by kernel_rfl) ?_ (fun a w hF hS => ?_)
  · exact obs_cons (ob_load Agg54 (fun _ _ hS => (hS.at_ 0 rfl).cell rfl)) <| obs_cons (ob_ix1 (f := Value.bool) (m := p11) Und54 hi4 hs4 (hS.at_ 1 rfl).rd rfl (fun _ => hp1)) <| obs_cons (ob_get1 (n := p11.length) (m := p11) Value.bool false Agg4 (fun _ hS => ⟨_, (hS.at_ 1 rfl).rd⟩) (fun _ hS => rfl) (fun _ => hp1)) <| obs_nil
  refine wpIn_ret ?_
  have hm : some (getb p11 q1) = some r := hm
  obtain rfl := Option.some.inj hm
  exact retV (rs := [.tmp 3]) (vs := [.bool (getb p11 q1)]) hF rfl (rv_t (by kernel_rfl) <| rv_nil) rfl ⟨rfl, hS⟩

noncomputable def slices_IndexFunc_J3  (z1 : Int) : Option (St Int (Fl Unit Int)) :=
  some (.next (w64 (z1 + 1)))

noncomputable def slices_IndexFunc_J2  (s1 : List Int) (v1 : List Bool) (z1 : Int) : Option (St Int (Fl Unit Int)) :=
  asrt (0 ≤ z1 ∧ z1 < (s1.length : Int)) <| (tour_Greedy_1_1_m (geti s1 z1) v1).bind fun r1 => if r1 then (some (.done (.ret z1))) else ((slices_IndexFunc_J3 z1))

noncomputable def slices_IndexFunc_J1  : Option Int :=
  some (-1)

noncomputable def slices_IndexFunc_K1  : (Fl Unit Int) → Option Int :=
  fun (x : (Fl Unit Int)) => match x with | .go _ => slices_IndexFunc_J1 | .ret x => some x

noncomputable def slices_IndexFunc_L1  (s1 : List Int) (v1 : List Bool) : Int → Option (St Int (Fl Unit Int)) :=
  fun (x : Int) => match x with | z1 => if (decide (z1 < (s1.length : Int))) then ((slices_IndexFunc_J2 s1 v1 z1)) else (some (.done (.go ())))

noncomputable def slices_IndexFunc_m  (s1 : List Int) (v1 : List Bool) : Option Int :=
  (loop (slices_IndexFunc_L1 s1 v1) 0).bind slices_IndexFunc_K1

set_option maxRecDepth 100000 in
set_option maxHeartbeats 4000000 in
theorem slices_IndexFunc_w {A1 : Option Addr} {c1 : Nat} {n1 : Nat} {s1 : List Int} {g1 : Nat} {A2 : Option Addr} {c2 : Nat} {n2 : Nat} {v1 : List Bool} {r : Int} {w0 w : World} {B : Nat} {fs : List HP} (hm : slices_IndexFunc_m s1 v1 = some r) (hS : Sep w0 B w (blk g1 54 #[.slice A2 n2 c2] :: own 4 (.slice A2 n2 c2) (vB v1) :: fs)) (hr_s1 : RdF w0 B fs A1 (vI s1)) (_hc_s1 : s1.length ≤ c1) (_hn_s1 : n1 = s1.length) :
    Calls Tryd.prog 49 #[.slice A1 n1 c1, .func (.func 39) #[] #[.pointer (some ⟨g1, 0, none⟩)]] w fun e w' => e = .returned (.int .i64 r) ∧ Sep w0 B w' (blk g1 54 #[.slice A2 n2 c2] :: own 4 (.slice A2 n2 c2) (vB v1) :: fs) := by
  obtain ⟨i3, hi3, hz3, hs3, hb3⟩ := info_parts Info3
  obtain ⟨i4, hi4, hz4, hs4, hb4⟩ := info_parts Info4
  obtain rfl := (hS.at_ 1 rfl).len1
  obtain rfl := _hn_s1
  unfold slices_IndexFunc_m at hm
  replace hm := start_b hm
  refine enter (l := [.slice A1 s1.length c1, .func (.func 39) #[] #[.pointer (some ⟨g1, 0, none⟩)]]) (n := 19) Tryd.func49 rfl rfl (by simp) (fun a hF => ?_)
  refine reg [] [] [0, 1] [pl 0 (.slice A1 s1.length c1), pl 1 (.func (.func 39) #[] #[.pointer (some ⟨g1, 0, none⟩)])] hF hS Fol (by kernel_rfl) (by kernel_rfl) (by kernel_rfl) ?_ (fun a w hF hS => ?_)
  · exact obs_nil
  refine seq_cut (fun a w => Fr 19 [] a ∧ Sep w0 B w (blk g1 54 #[.slice A2 v1.length c2] :: own 4 (.slice A2 v1.length c2) (vB v1) :: fs) ∧ (slices_IndexFunc_J1).bind some = some r) ?_ ?_
  · rintro a w ⟨hF, hS, hm⟩
    unfold slices_IndexFunc_J1 at hm
    refine reg [] [] [4] [pl 4 (.int .i64 (-1))] hF hS Fol (by kernel_rfl) (by kernel_rfl) (by kernel_rfl) ?_ (fun a w hF hS => ?_)
    · exact obs_nil
    refine wpIn_ret ?_
    have hm : some (-1) = some r := hm
    obtain rfl := Option.some.inj hm
    exact retV (rs := [.tmp 4]) (vs := [.int .i64 (-1)]) hF rfl (rv_t (by kernel_rfl) <| rv_nil) rfl ⟨rfl, hS⟩
  · refine reg [] [] [0, 1, 7, 8] [pl 0 (.slice A1 s1.length c1), pl 1 (.func (.func 39) #[] #[.pointer (some ⟨g1, 0, none⟩)]), pl 7 (.int .i64 (s1.length : Int)), pl 8 (.int .i64 0)] hF hS Fol (by kernel_rfl) (by kernel_rfl) (by kernel_rfl) ?_ (fun a w hF hS => ?_)
    · exact obs_nil
    refine wpIn_block ?_
    refine wp_loop_model (S := Int) (R := (Fl Unit Int)) (slices_IndexFunc_L1 s1 v1) (fun x => (slices_IndexFunc_K1 x).bind some) r (fun (x : Int) a w => Fr 19 [pl 0 (.slice A1 s1.length c1), pl 1 (.func (.func 39) #[] #[.pointer (some ⟨g1, 0, none⟩)]), pl 7 (.int .i64 (s1.length : Int)), pl 8 (.int .i64 x)] a ∧ Sep w0 B w (blk g1 54 #[.slice A2 v1.length c2] :: own 4 (.slice A2 v1.length c2) (vB v1) :: fs)) (assoc_b hm) ⟨hF.weak [0, 1, 7, 8] (by kernel_rfl), hS⟩ ?_
    clear hF hS hm
    rintro nn1 z1 a w ⟨hF, hS⟩ hm
    generalize hφ1 : stK (slices_IndexFunc_L1 s1 v1) nn1 (fun x => (slices_IndexFunc_K1 x).bind some) = φ1 at hm
    unfold slices_IndexFunc_L1 at hm
    dsimp only at hm
    refine reg [] [] [0, 1, 7, 8, 9] [pl 0 (.slice A1 s1.length c1), pl 1 (.func (.func 39) #[] #[.pointer (some ⟨g1, 0, none⟩)]), pl 7 (.int .i64 (s1.length : Int)), pl 8 (.int .i64 z1), pl 9 (.bool (decide (z1 < (s1.length : Int))))] hF hS Fol (by kernel_rfl) (by kernel_rfl) (by kernel_rfl) ?_ (fun a w hF hS => ?_)
    · exact obs_nil
    refine seq_cut (fun a w => Fr 19 [pl 0 (.slice A1 s1.length c1), pl 1 (.func (.func 39) #[] #[.pointer (some ⟨g1, 0, none⟩)]), pl 7 (.int .i64 (s1.length : Int)), pl 8 (.int .i64 z1)] a ∧ Sep w0 B w (blk g1 54 #[.slice A2 v1.length c2] :: own 4 (.slice A2 v1.length c2) (vB v1) :: fs) ∧ ((slices_IndexFunc_J2 s1 v1 z1)).bind φ1 = some r) ?_ ?_
    · rintro a w ⟨hF, hS, hm⟩
      unfold slices_IndexFunc_J2 at hm
      refine seq_cut (fun a w => Fr 19 [pl 0 (.slice A1 s1.length c1), pl 1 (.func (.func 39) #[] #[.pointer (some ⟨g1, 0, none⟩)]), pl 7 (.int .i64 (s1.length : Int)), pl 8 (.int .i64 z1)] a ∧ Sep w0 B w (blk g1 54 #[.slice A2 v1.length c2] :: own 4 (.slice A2 v1.length c2) (vB v1) :: fs) ∧ ((slices_IndexFunc_J3 z1)).bind φ1 = some r) ?_ ?_
      · rintro a w ⟨hF, hS, hm⟩
        unfold slices_IndexFunc_J3 at hm
        refine reg1 [] [] [0, 1, 7, 8] [pl 0 (.slice A1 s1.length c1), pl 1 (.func (.func 39) #[] #[.pointer (some ⟨g1, 0, none⟩)]), pl 7 (.int .i64 (s1.length : Int)), pl 8 (.int .i64 (w64 (z1 + 1)))] hF hS Fol (by kernel_rfl) (by kernel_rfl) (by kernel_rfl) ?_ (fun a w hF hS => ?_)
        · exact obs_nil
        refine then_n ?_
        rw [← hφ1] at hm
        exact ⟨(w64 (z1 + 1)), ⟨hF.weak [0, 1, 7, 8] (by kernel_rfl), hS⟩, hm⟩
      · refine wpIn_block ?_
        refine reg [] [] [0, 1, 5, 7, 8] [pl 0 (.slice A1 s1.length c1), pl 1 (.func (.func 39) #[] #[.pointer (some ⟨g1, 0, none⟩)]), pl 5 (.int .i64 z1), pl 7 (.int .i64 (s1.length : Int)), pl 8 (.int .i64 z1)] hF hS Fol (by kernel_rfl) (by kernel_rfl) (by kernel_rfl) ?_ (fun a w hF hS => ?_)
        · exact obs_nil
        obtain ⟨hp1, hm⟩ := asrt_b hm
        obtain ⟨r1, hr1, hm⟩ := call_b hm
        refine reg [⟨true, [], vS (Instr.indexAt 22 (.slice A1 s1.length c1) (.int .i64 z1)), .pointer (some (sAddr A1 z1))⟩, ⟨false, [], vS (Instr.loadAt 3 (.pointer (some (sAddr A1 z1)))), .int .i64 (geti s1 z1)⟩, ⟨false, [], callFunc 39 #[.int .i64 (geti s1 z1), .pointer (some ⟨g1, 0, none⟩)], .bool r1⟩] [none, none, none, some (.pointer (some (sAddr A1 z1))), some (.int .i64 (geti s1 z1)), some (.bool r1)] [0, 1, 5, 7, 8, 16] [pl 0 (.slice A1 s1.length c1), pl 1 (.func (.func 39) #[] #[.pointer (some ⟨g1, 0, none⟩)]), pl 5 (.int .i64 z1), pl 7 (.int .i64 (s1.length : Int)), pl 8 (.int .i64 z1), pl 16 (.bool r1)] hF hS Fol (by kernel_rfl) (by kernel_rfl) (by kernel_rfl) ?_ (fun a w hF hS => ?_)
        · exact obs_cons (ob_ix1 (f := (Value.int .i64)) (m := s1) Und22 hi3 hs3 (hr_s1 _ (hS.dropN 2)) rfl (fun _ => hp1)) <| obs_cons (ob_get1 (n := s1.length) (m := s1) (Value.int .i64) (0 : Int) Agg3 (fun _ hS => ⟨_, (hr_s1 _ (hS.dropN 2))⟩) (fun _ hS => rfl) (fun _ => hp1)) <| obs_cons (ob_call Tryd.func39 (by kernel_rfl) rfl (fun _ _ hS => tour_Greedy_1_1_w hr1 hS )) <| obs_nil
        refine cond_ev (t := 16) (b := r1) hF (by kernel_rfl) (fun hb => ?_) (fun hb => ?_)
        · replace hm := if_t hm hb
          refine reg [] [] [4] [pl 4 (.int .i64 z1)] hF hS Fol (by kernel_rfl) (by kernel_rfl) (by kernel_rfl) ?_ (fun a w hF hS => ?_)
          · exact obs_nil
          refine wpIn_ret ?_
          refine block_r (then_r (then_r (block_r (then_r ?_))))
          rw [← hφ1] at hm
          replace hm := done_b hm
          unfold slices_IndexFunc_K1 at hm
          try dsimp only at hm
          have hm : some z1 = some r := hm
          obtain rfl := Option.some.inj hm
          exact retV (rs := [.tmp 4]) (vs := [.int .i64 z1]) hF rfl (rv_t (by kernel_rfl) <| rv_nil) rfl ⟨rfl, hS⟩
        · replace hm := if_f hm hb
          refine wpIn_skip ?_
          refine block_n ?_
          refine then_n ?_
          exact ⟨hF.weak [0, 1, 7, 8] (by kernel_rfl), hS, hm⟩
    · refine cond_ev (t := 9) (b := decide (z1 < (s1.length : Int))) hF (by kernel_rfl) (fun hb => ?_) (fun hb => ?_)
      · replace hm := if_t hm hb
        refine wpIn_skip ?_
        refine then_n ?_
        exact ⟨hF.weak [0, 1, 7, 8] (by kernel_rfl), hS, hm⟩
      · replace hm := if_f hm hb
        refine wpIn_exit ?_
        refine then_e (then_e (block_e (then_n ?_)))
        rw [← hφ1] at hm
        replace hm := done_b hm
        unfold slices_IndexFunc_K1 at hm
        try dsimp only at hm
        have hm : (slices_IndexFunc_J1).bind some = some r := hm
        exact ⟨hF.weak [] (by kernel_rfl), hS, hm⟩

noncomputable def slices_DeleteFunc_2_J4  (j1 : Int) (s5 : List Int) (i3 : Int) : Option (St (List Int × Int × Int) (List Int × Int)) :=
  some (.next (s5, i3, (w64 (j1 + 1))))

noncomputable def slices_DeleteFunc_2_J3  (s1 : List Int) (v1 : List Bool) (s3 : List Int) (i1 : Int) (j1 : Int) : Option (St (List Int × Int × Int) (List Int × Int)) :=
  asrt (0 ≤ j1 ∧ j1 < (s1.length : Int)) <| (tour_Greedy_1_1_m (geti s3 j1) v1).bind fun r2 => if (!r2) then (asrt (0 ≤ i1 ∧ i1 < (s1.length : Int)) <| (slices_DeleteFunc_2_J4 j1) (s3.set (Int.toNat i1) (geti s3 j1)) (w64 (i1 + 1))) else ((slices_DeleteFunc_2_J4 j1) s3 i1)

noncomputable def slices_DeleteFunc_2_J2  (s1 : List Int) (s4 : List Int) (i2 : Int) : Option (Int × List Int) :=
  asrt (0 ≤ i2 ∧ i2 ≤ (s1.length : Int) ∧ (s1.length : Int) ≤ (s1.length : Int)) <| asrt (0 ≤ (0 : Int) ∧ (0 : Int) ≤ i2 ∧ i2 ≤ (s1.length : Int)) <| some (i2, (putL s4 (Int.toNat i2) (List.replicate ((cut s4 i2 (s1.length : Int)).length) (0 : Int))))

noncomputable def slices_DeleteFunc_2_K1  (s1 : List Int) : (List Int × Int) → Option (Int × List Int) :=
  fun (x : (List Int × Int)) => match x with | (s4, i2) => (slices_DeleteFunc_2_J2 s1) s4 i2

noncomputable def slices_DeleteFunc_2_L1  (s1 : List Int) (v1 : List Bool) : (List Int × Int × Int) → Option (St (List Int × Int × Int) (List Int × Int)) :=
  fun (x : (List Int × Int × Int)) => match x with | (s3, i1, j1) => if (decide (j1 < (s1.length : Int))) then ((slices_DeleteFunc_2_J3 s1 v1 s3 i1 j1)) else (some (.done (s3, i1)))

noncomputable def slices_DeleteFunc_2_J1  (s1 : List Int) (v1 : List Bool) (r1 : Int) : Option (Int × List Int) :=
  (loop (slices_DeleteFunc_2_L1 s1 v1) (s1, r1, (w64 (r1 + 1)))).bind (slices_DeleteFunc_2_K1 s1)

noncomputable def slices_DeleteFunc_2_m  (s1 : List Int) (v1 : List Bool) : Option (Int × List Int) :=
  (slices_IndexFunc_m s1 v1).bind fun r1 => if (r1 == (-1)) then (some ((s1.length : Int), s1)) else ((slices_DeleteFunc_2_J1 s1 v1 r1))

set_option maxRecDepth 100000 in
set_option maxHeartbeats 4000000 in
theorem slices_DeleteFunc_2_w {A1 : Option Addr} {c1 : Nat} {n1 : Nat} {s1 : List Int} {g1 : Nat} {A2 : Option Addr} {c2 : Nat} {n2 : Nat} {v1 : List Bool} {r : (Int × List Int)} {w0 w : World} {B : Nat} {fs : List HP} (hm : slices_DeleteFunc_2_m s1 v1 = some r) (hS : Sep w0 B w (own 3 (.slice A1 n1 c1) (vI s1) :: blk g1 54 #[.slice A2 n2 c2] :: own 4 (.slice A2 n2 c2) (vB v1) :: fs)) :
    Calls Tryd.prog 37 #[.slice A1 n1 c1, .func (.func 39) #[] #[.pointer (some ⟨g1, 0, none⟩)]] w fun e w' => ∃ v, e = .returned v ∧ v = .slice (cutAddr A1 c1 (0 : Int)) ((cut r.2 (0 : Int) r.1).length) (c1 - Int.toNat (0 : Int)) ∧ (0 ≤ (0 : Int) ∧ (0 : Int) ≤ r.1 ∧ r.1 ≤ (r.2.length : Int)) ∧ Sep w0 B w' (own 3 (.slice A1 n1 c1) (vI r.2) :: blk g1 54 #[.slice A2 n2 c2] :: own 4 (.slice A2 n2 c2) (vB v1) :: fs) := by
  obtain ⟨i3, hi3, hz3, hs3, hb3⟩ := info_parts Info3
  obtain ⟨i4, hi4, hz4, hs4, hb4⟩ := info_parts Info4
  obtain rfl := (hS.at_ 0 rfl).len1
  obtain rfl := (hS.at_ 2 rfl).len1
  unfold slices_DeleteFunc_2_m at hm
  replace hm := start_b hm
  refine enter (l := [.slice A1 s1.length c1, .func (.func 39) #[] #[.pointer (some ⟨g1, 0, none⟩)]]) (n := 42) Tryd.func37 rfl rfl (by simp) (fun a hF => ?_)
  refine reg [] [] [0, 1] [pl 0 (.slice A1 s1.length c1), pl 1 (.func (.func 39) #[] #[.pointer (some ⟨g1, 0, none⟩)])] hF hS Fol (by kernel_rfl) (by kernel_rfl) (by kernel_rfl) ?_ (fun a w hF hS => ?_)
  · exact obs_nil
  obtain ⟨r1, hr1, hm⟩ := call_b hm
  refine reg [⟨false, [], callFunc 49 #[.slice A1 s1.length c1, .func (.func 39) #[] #[.pointer (some ⟨g1, 0, none⟩)]], .int .i64 r1⟩] [none, none, some (.int .i64 r1), none] [0, 1, 5] [pl 0 (.slice A1 s1.length c1), pl 1 (.func (.func 39) #[] #[.pointer (some ⟨g1, 0, none⟩)]), pl 5 (.int .i64 r1)] hF hS Fol (by kernel_rfl) (by kernel_rfl) (by kernel_rfl) ?_ (fun a w hF hS => ?_)
  · exact obs_cons (ob_call Tryd.func49 (by kernel_rfl) rfl (fun _ _ hS => quiet_pick hS 3 [1, 2, 0] (by decide) [2, 0, 1] (by decide) (qs := (blk g1 54 #[.slice A2 v1.length c2] :: own 4 (.slice A2 v1.length c2) (vB v1) :: own 3 (.slice A1 s1.length c1) (vI s1) :: fs)) rfl (fun hS => slices_IndexFunc_w hr1 hS (fun _ hS => (hS.at_ 0 rfl).rd) (((hS.dropN 2).at_ 0 rfl).cap1) rfl) 3 rfl)) <| obs_nil
  refine seq_cut (fun a w => Fr 42 [pl 0 (.slice A1 s1.length c1), pl 1 (.func (.func 39) #[] #[.pointer (some ⟨g1, 0, none⟩)]), pl 5 (.int .i64 r1)] a ∧ Sep w0 B w (own 3 (.slice A1 s1.length c1) (vI s1) :: blk g1 54 #[.slice A2 v1.length c2] :: own 4 (.slice A2 v1.length c2) (vB v1) :: fs) ∧ ((slices_DeleteFunc_2_J1 s1 v1 r1)).bind some = some r) ?_ ?_
  · rintro a w ⟨hF, hS, hm⟩
    unfold slices_DeleteFunc_2_J1 at hm
    refine seq_cut (fun a w => ∃ (s4 : List Int) (i2 : Int), Fr 42 [pl 0 (.slice A1 s1.length c1), pl 5 (.int .i64 i2)] a ∧ Sep w0 B w (own 3 (.slice A1 s1.length c1) (vI s4) :: blk g1 54 #[.slice A2 v1.length c2] :: own 4 (.slice A2 v1.length c2) (vB v1) :: fs) ∧ ((slices_DeleteFunc_2_J2 s1) s4 i2).bind some = some r) ?_ ?_
    · rintro a w ⟨s4, i2, hF, hS, hm⟩
      unfold slices_DeleteFunc_2_J2 at hm
      refine seqR ?_
      obtain ⟨hp3, hm⟩ := asrt_b hm
      have hb1 := cutb (n := s1.length) ((hS.at_ 0 rfl).len1) hp3
      refine at_run 3 [⟨true, [], vS (Instr.sliceAt 22 (.slice A1 s1.length c1) (some (.int .i64 i2)) none none), .slice (cutAddr A1 c1 i2) ((cut s4 i2 (s1.length : Int)).length) (c1 - Int.toNat i2)⟩] [none, none, some (.slice (cutAddr A1 c1 i2) ((cut s4 i2 (s1.length : Int)).length) (c1 - Int.toNat i2))] [0, 5, 38] [pl 0 (.slice A1 s1.length c1), pl 5 (.int .i64 i2), pl 38 (.slice (cutAddr A1 c1 i2) ((cut s4 i2 (s1.length : Int)).length) (c1 - Int.toNat i2))] hF hS (by kernel_rfl) (by kernel_rfl) ?_ (fun a w hF hS => ?_)
      · exact obs_cons (ob_cutn (l := s4) (k := .i64) (k' := .i64) Und22 hi3 hs3 ((hS.at_ 0 rfl).len1) (.inl rfl) (.inr ⟨rfl, rfl⟩) (fun _ => hb1) ((hS.at_ 0 rfl).cap1)) <| obs_nil
      obtain ⟨w, hrun, hS⟩ := run_clearC (P := Tryd.prog) (t := 22) (ty := 0) (dc := (c1 - Int.toNat i2)) (hS.at_ 0 rfl) Und22 hi3 hz3 hb1
      refine at_skipV hF (by kernel_rfl) hrun ?_
      have hS : Sep w0 B w (own 3 (.slice A1 s1.length c1) (vI (putL s4 (Int.toNat i2) (List.replicate ((cut s4 i2 (s1.length : Int)).length) (0 : Int)))) :: blk g1 54 #[.slice A2 v1.length c2] :: own 4 (.slice A2 v1.length c2) (vB v1) :: fs) := hS
      refine at_end [0, 5] [pl 0 (.slice A1 s1.length c1), pl 5 (.int .i64 i2)] hF rfl (by kernel_rfl) (fun hF => ?_)
      refine then_n ?_
      obtain ⟨hp4, hm⟩ := asrt_b hm
      have hb2 := cutb (n := s1.length) ((hS.at_ 0 rfl).len1) hp4
      refine reg [⟨true, [], vS (Instr.sliceAt 22 (.slice A1 s1.length c1) none (some (.int .i64 i2)) none), .slice (cutAddr A1 c1 (0 : Int)) ((cut (putL s4 (Int.toNat i2) (List.replicate ((cut s4 i2 (s1.length : Int)).length) (0 : Int))) (0 : Int) i2).length) (c1 - Int.toNat (0 : Int))⟩] [none, none, some (.slice (cutAddr A1 c1 (0 : Int)) ((cut (putL s4 (Int.toNat i2) (List.replicate ((cut s4 i2 (s1.length : Int)).length) (0 : Int))) (0 : Int) i2).length) (c1 - Int.toNat (0 : Int))), none] [4] [pl 4 (.slice (cutAddr A1 c1 (0 : Int)) ((cut (putL s4 (Int.toNat i2) (List.replicate ((cut s4 i2 (s1.length : Int)).length) (0 : Int))) (0 : Int) i2).length) (c1 - Int.toNat (0 : Int)))] hF hS Fol (by kernel_rfl) (by kernel_rfl) (by kernel_rfl) ?_ (fun a w hF hS => ?_)
      · exact obs_cons (ob_cutn (l := (putL s4 (Int.toNat i2) (List.replicate ((cut s4 i2 (s1.length : Int)).length) (0 : Int)))) (k := .i64) (k' := .i64) Und22 hi3 hs3 ((hS.at_ 0 rfl).len1) (.inr ⟨rfl, rfl⟩) (.inl rfl) (fun _ => hb2) ((hS.at_ 0 rfl).cap1)) <| obs_nil
      refine wpIn_ret ?_
      have hm : some (i2, (putL s4 (Int.toNat i2) (List.replicate ((cut s4 i2 (s1.length : Int)).length) (0 : Int)))) = some r := hm
      obtain rfl := Option.some.inj hm
      exact retV (rs := [.tmp 4]) (vs := [.slice (cutAddr A1 c1 (0 : Int)) ((cut (putL s4 (Int.toNat i2) (List.replicate ((cut s4 i2 (s1.length : Int)).length) (0 : Int))) (0 : Int) i2).length) (c1 - Int.toNat (0 : Int))]) hF rfl (rv_t (by kernel_rfl) <| rv_nil) rfl ⟨_, rfl, rfl, hb2, hS⟩
    · refine reg [] [] [0, 1, 5, 6] [pl 0 (.slice A1 s1.length c1), pl 1 (.func (.func 39) #[] #[.pointer (some ⟨g1, 0, none⟩)]), pl 5 (.int .i64 r1), pl 6 (.int .i64 (w64 (r1 + 1)))] hF hS Fol (by kernel_rfl) (by kernel_rfl) (by kernel_rfl) ?_ (fun a w hF hS => ?_)
      · exact obs_nil
      refine wpIn_block ?_
      refine wp_loop_model (S := (List Int × Int × Int)) (R := (List Int × Int)) (slices_DeleteFunc_2_L1 s1 v1) (fun x => ((slices_DeleteFunc_2_K1 s1) x).bind some) r (fun (x : (List Int × Int × Int)) a w => Fr 42 [pl 0 (.slice A1 s1.length c1), pl 1 (.func (.func 39) #[] #[.pointer (some ⟨g1, 0, none⟩)]), pl 5 (.int .i64 x.2.1), pl 6 (.int .i64 x.2.2)] a ∧ Sep w0 B w (own 3 (.slice A1 s1.length c1) (vI x.1) :: blk g1 54 #[.slice A2 v1.length c2] :: own 4 (.slice A2 v1.length c2) (vB v1) :: fs)) (assoc_b hm) ⟨hF.weak [0, 1, 5, 6] (by kernel_rfl), hS⟩ ?_
      clear hF hS hm
      rintro nn1 ⟨s3, i1, j1⟩ a w ⟨hF, hS⟩ hm
      generalize hφ1 : stK (slices_DeleteFunc_2_L1 s1 v1) nn1 (fun x => ((slices_DeleteFunc_2_K1 s1) x).bind some) = φ1 at hm
      unfold slices_DeleteFunc_2_L1 at hm
      dsimp only at hF hS hm
      refine seq_cut (fun a w => Fr 42 [pl 0 (.slice A1 s1.length c1), pl 1 (.func (.func 39) #[] #[.pointer (some ⟨g1, 0, none⟩)]), pl 5 (.int .i64 i1), pl 6 (.int .i64 j1)] a ∧ Sep w0 B w (own 3 (.slice A1 s1.length c1) (vI s3) :: blk g1 54 #[.slice A2 v1.length c2] :: own 4 (.slice A2 v1.length c2) (vB v1) :: fs) ∧ ((slices_DeleteFunc_2_J3 s1 v1 s3 i1 j1)).bind φ1 = some r) ?_ ?_
      · rintro a w ⟨hF, hS, hm⟩
        unfold slices_DeleteFunc_2_J3 at hm
        refine seq_cut (fun a w => ∃ (s5 : List Int) (i3 : Int), Fr 42 [pl 0 (.slice A1 s1.length c1), pl 1 (.func (.func 39) #[] #[.pointer (some ⟨g1, 0, none⟩)]), pl 5 (.int .i64 i3), pl 6 (.int .i64 j1)] a ∧ Sep w0 B w (own 3 (.slice A1 s1.length c1) (vI s5) :: blk g1 54 #[.slice A2 v1.length c2] :: own 4 (.slice A2 v1.length c2) (vB v1) :: fs) ∧ ((slices_DeleteFunc_2_J4 j1) s5 i3).bind φ1 = some r) ?_ ?_
        · rintro a w ⟨s5, i3, hF, hS, hm⟩
          unfold slices_DeleteFunc_2_J4 at hm
          refine reg1 [] [] [0, 1, 5, 6] [pl 0 (.slice A1 s1.length c1), pl 1 (.func (.func 39) #[] #[.pointer (some ⟨g1, 0, none⟩)]), pl 5 (.int .i64 i3), pl 6 (.int .i64 (w64 (j1 + 1)))] hF hS Fol (by kernel_rfl) (by kernel_rfl) (by kernel_rfl) ?_ (fun a w hF hS => ?_)
          · exact obs_nil
          refine then_n ?_
          rw [← hφ1] at hm
          exact ⟨(s5, i3, (w64 (j1 + 1))), ⟨hF.weak [0, 1, 5, 6] (by kernel_rfl), hS⟩, hm⟩
        · refine wpIn_block ?_
          obtain ⟨hp1, hm⟩ := asrt_b hm
          refine reg [⟨true, [], vS (Instr.indexAt 22 (.slice A1 s1.length c1) (.int .i64 j1)), .pointer (some (sAddr A1 j1))⟩, ⟨false, [], vS (Instr.loadAt 3 (.pointer (some (sAddr A1 j1)))), .int .i64 (geti s3 j1)⟩] [none, none, some (.pointer (some (sAddr A1 j1))), some (.int .i64 (geti s3 j1)), none] [0, 1, 5, 6, 7] [pl 0 (.slice A1 s1.length c1), pl 1 (.func (.func 39) #[] #[.pointer (some ⟨g1, 0, none⟩)]), pl 5 (.int .i64 i1), pl 6 (.int .i64 j1), pl 7 (.int .i64 (geti s3 j1))] hF hS Fol (by kernel_rfl) (by kernel_rfl) (by kernel_rfl) ?_ (fun a w hF hS => ?_)
          · exact obs_cons (ob_ix1 (f := (Value.int .i64)) (m := s3) Und22 hi3 hs3 (hS.at_ 0 rfl).rd ((hS.at_ 0 rfl).len1) (fun _ => hp1)) <| obs_cons (ob_get1 (n := s1.length) (m := s3) (Value.int .i64) (0 : Int) Agg3 (fun _ hS => ⟨_, (hS.at_ 0 rfl).rd⟩) (fun _ hS => ((hS.at_ 0 rfl).len1)) (fun _ => hp1)) <| obs_nil
          obtain ⟨r2, hr2, hm⟩ := call_b hm
          refine reg [⟨false, [], callFunc 39 #[.int .i64 (geti s3 j1), .pointer (some ⟨g1, 0, none⟩)], .bool r2⟩] [none, none, some (.bool r2), none] [0, 1, 5, 6, 7, 29] [pl 0 (.slice A1 s1.length c1), pl 1 (.func (.func 39) #[] #[.pointer (some ⟨g1, 0, none⟩)]), pl 5 (.int .i64 i1), pl 6 (.int .i64 j1), pl 7 (.int .i64 (geti s3 j1)), pl 29 (.bool (!r2))] hF hS Fol (by kernel_rfl) (by kernel_rfl) (by kernel_rfl) ?_ (fun a w hF hS => ?_)
          · exact obs_cons (ob_call Tryd.func39 (by kernel_rfl) rfl (fun _ _ hS => quiet_pick hS 3 [1, 2, 0] (by decide) [2, 0, 1] (by decide) (qs := (blk g1 54 #[.slice A2 v1.length c2] :: own 4 (.slice A2 v1.length c2) (vB v1) :: own 3 (.slice A1 s1.length c1) (vI s3) :: fs)) rfl (fun hS => tour_Greedy_1_1_w hr2 hS ) 3 rfl)) <| obs_nil
          refine cond_ev (t := 29) (b := !r2) hF (by kernel_rfl) (fun hb => ?_) (fun hb => ?_)
          · replace hm := if_t hm hb
            refine seqR ?_
            obtain ⟨hp2, hm⟩ := asrt_b hm
            refine at_run 4 [⟨true, [], vS (Instr.indexAt 22 (.slice A1 s1.length c1) (.int .i64 i1)), .pointer (some (sAddr A1 i1))⟩] [none, none, none, some (.pointer (some (sAddr A1 i1)))] [0, 1, 5, 6, 32, 33] [pl 0 (.slice A1 s1.length c1), pl 1 (.func (.func 39) #[] #[.pointer (some ⟨g1, 0, none⟩)]), pl 5 (.int .i64 i1), pl 6 (.int .i64 j1), pl 32 (.int .i64 (geti s3 j1)), pl 33 (.pointer (some (sAddr A1 i1)))] hF hS (by kernel_rfl) (by kernel_rfl) ?_ (fun a w hF hS => ?_)
            · exact obs_cons (ob_ix1 (f := (Value.int .i64)) (m := s3) Und22 hi3 hs3 (hS.at_ 0 rfl).rd ((hS.at_ 0 rfl).len1) (fun _ => hp2)) <| obs_nil
            obtain ⟨w, hrun, hS⟩ := run_set1 (P := Tryd.prog) (t := 3) (x := (geti s3 j1)) (Value.int .i64) (hS.at_ 0 rfl) hi3 hs3 rfl rfl hp2
            refine at_skip hF (by kernel_rfl) hrun ?_
            have hS : Sep w0 B w (own 3 (.slice A1 s1.length c1) (vI (s3.set (Int.toNat i1) (geti s3 j1))) :: blk g1 54 #[.slice A2 v1.length c2] :: own 4 (.slice A2 v1.length c2) (vB v1) :: fs) := hS
            refine at_end [0, 1, 5, 6] [pl 0 (.slice A1 s1.length c1), pl 1 (.func (.func 39) #[] #[.pointer (some ⟨g1, 0, none⟩)]), pl 5 (.int .i64 i1), pl 6 (.int .i64 j1)] hF rfl (by kernel_rfl) (fun hF => ?_)
            refine then_n ?_
            refine reg1 [] [] [0, 1, 5, 6] [pl 0 (.slice A1 s1.length c1), pl 1 (.func (.func 39) #[] #[.pointer (some ⟨g1, 0, none⟩)]), pl 5 (.int .i64 (w64 (i1 + 1))), pl 6 (.int .i64 j1)] hF hS Fol (by kernel_rfl) (by kernel_rfl) (by kernel_rfl) ?_ (fun a w hF hS => ?_)
            · exact obs_nil
            refine block_n ?_
            refine then_n ?_
            exact ⟨(s3.set (Int.toNat i1) (geti s3 j1)), (w64 (i1 + 1)), hF.weak [0, 1, 5, 6] (by kernel_rfl), hS, hm⟩
          · replace hm := if_f hm hb
            refine wpIn_skip ?_
            refine block_n ?_
            refine then_n ?_
            exact ⟨s3, i1, hF.weak [0, 1, 5, 6] (by kernel_rfl), hS, hm⟩
      · refine reg [] [] [0, 1, 5, 6, 19] [pl 0 (.slice A1 s1.length c1), pl 1 (.func (.func 39) #[] #[.pointer (some ⟨g1, 0, none⟩)]), pl 5 (.int .i64 i1), pl 6 (.int .i64 j1), pl 19 (.bool (decide (j1 < (s1.length : Int))))] hF hS Fol (by kernel_rfl) (by kernel_rfl) (by kernel_rfl) ?_ (fun a w hF hS => ?_)
        · exact obs_nil
        refine cond_ev (t := 19) (b := decide (j1 < (s1.length : Int))) hF (by kernel_rfl) (fun hb => ?_) (fun hb => ?_)
        · replace hm := if_t hm hb
          refine wpIn_skip ?_
          refine then_n ?_
          exact ⟨hF.weak [0, 1, 5, 6] (by kernel_rfl), hS, hm⟩
        · replace hm := if_f hm hb
          refine wpIn_exit ?_
          refine then_e (then_e (block_e (then_n ?_)))
          rw [← hφ1] at hm
          replace hm := done_b hm
          unfold slices_DeleteFunc_2_K1 at hm
          try dsimp only at hm
          have hm : ((slices_DeleteFunc_2_J2 s1) s3 i1).bind some = some r := hm
          exact ⟨s3, i1, hF.weak [0, 5] (by kernel_rfl), hS, hm⟩
  · refine reg [] [] [0, 1, 5, 12] [pl 0 (.slice A1 s1.length c1), pl 1 (.func (.func 39) #[] #[.pointer (some ⟨g1, 0, none⟩)]), pl 5 (.int .i64 r1), pl 12 (.bool (r1 == (-1)))] hF hS Fol (by kernel_rfl) (by kernel_rfl) (by kernel_rfl) ?_ (fun a w hF hS => ?_)
    · exact obs_nil
    refine cond_ev (t := 12) (b := (r1 == (-1))) hF (by kernel_rfl) (fun hb => ?_) (fun hb => ?_)
    · replace hm := if_t hm hb
      refine reg [] [] [4] [pl 4 (.slice A1 s1.length c1)] hF hS Fol (by kernel_rfl) (by kernel_rfl) (by kernel_rfl) ?_ (fun a w hF hS => ?_)
      · exact obs_nil
      refine wpIn_ret ?_
      refine then_r ?_
      have hn1 : s1.length = s1.length := rfl
      have hF := hF.cast (t := 4) (v := .slice A1 s1.length c1) (v' := .slice (cutAddr A1 c1 (0 : Int)) (cut s1 (0 : Int) (s1.length : Int)).length (c1 - Int.toNat (0 : Int))) rfl rfl (cut_whole hn1)
      have hm : some ((s1.length : Int), s1) = some r := hm
      obtain rfl := Option.some.inj hm
      exact retV (rs := [.tmp 4]) (vs := [.slice (cutAddr A1 c1 (0 : Int)) ((cut s1 (0 : Int) (s1.length : Int)).length) (c1 - Int.toNat (0 : Int))]) hF rfl (rv_t (by kernel_rfl) <| rv_nil) rfl ⟨_, rfl, rfl, (cut_all hn1), hS⟩
    · replace hm := if_f hm hb
      refine wpIn_skip ?_
      refine then_n ?_
      exact ⟨hF.weak [0, 1, 5] (by kernel_rfl), hS, hm⟩

noncomputable def tour_Greedy_1_m  (p1 : Int) (p11 : List (List Int)) (p21 : List Bool) : Option (List Int) :=
  asrt (0 ≤ p1 ∧ p1 < (p11.length : Int)) <| (slices_Clone_m (geti2 p11 p1)).bind fun r1 => (slices_DeleteFunc_2_m r1 p21).bind fun r2 => some (cut r2.2 (0 : Int) r2.1)

set_option maxRecDepth 100000 in
set_option maxHeartbeats 4000000 in
theorem tour_Greedy_1_w {p1 : Int} {g1 : Nat} {A1 : Option Addr} {c1 : Nat} {n1 : Nat} {hd1 : List Hd} {p11 : List (List Int)} {g2 : Nat} {A2 : Option Addr} {c2 : Nat} {n2 : Nat} {p21 : List Bool} {r : (List Int)} {w0 w : World} {B : Nat} {fs : List HP} (hm : tour_Greedy_1_m p1 p11 p21 = some r) (hS : Sep w0 B w (blk g1 50 #[.slice A1 n1 c1] :: rows 22 3 (.slice A1 n1 c1) hd1 p11 :: blk g2 54 #[.slice A2 n2 c2] :: own 4 (.slice A2 n2 c2) (vB p21) :: fs)) :
    Calls Tryd.prog 36 #[.int .i64 p1, .pointer (some ⟨g1, 0, none⟩), .pointer (some ⟨g2, 0, none⟩)] w fun e w' => ∃ v, e = .returned v ∧ ∃ (A4 : Option Addr) (c4 : Nat), v = .slice A4 r.length c4 ∧ Sep w0 B w' (blk g1 50 #[.slice A1 n1 c1] :: rows 22 3 (.slice A1 n1 c1) hd1 p11 :: blk g2 54 #[.slice A2 n2 c2] :: own 4 (.slice A2 n2 c2) (vB p21) :: own 3 (.slice A4 r.length c4) (vI r) :: fs) := by
  obtain ⟨i4, hi4, hz4, hs4, hb4⟩ := info_parts Info4
  obtain ⟨i22, hi22, hz22, hs22, hb22⟩ := info_parts Info22
  obtain rfl := (hS.at_ 1 rfl).lenR
  obtain rfl := (hS.at_ 3 rfl).len1
  unfold tour_Greedy_1_m at hm
  replace hm := start_b hm
  refine enter (l := [.int .i64 p1, .pointer (some ⟨g1, 0, none⟩), .pointer (some ⟨g2, 0, none⟩)]) (n := 12) Tryd.func36 rfl rfl (by simp) (fun a hF => ?_)
  refine reg [] [] [0, 1, 2] [pl 0 (.int .i64 p1), pl 1 (.pointer (some ⟨g1, 0, none⟩)), pl 2 (.pointer (some ⟨g2, 0, none⟩))] hF hS Fol (by kernel_rfl) (by kernel_rfl) (by kernel_rfl) ?_ (fun a w hF hS => ?_)
  · exact obs_nil
  refine seqR ?_
  obtain ⟨hp1, hm⟩ := asrt_b hm
  obtain ⟨r1, hr1, hm⟩ := call_b hm
  obtain ⟨r2, hr2, hm⟩ := call_b hm
  have hb1 := rowb (n := p11.length) (hS.at_ 1 rfl).lenR hp1
  refine at_run 4 [⟨false, [], vS (Instr.loadAt 50 (.pointer (some ⟨g1, 0, none⟩))), .slice A1 p11.length c1⟩, ⟨true, [], vS (Instr.indexAt 50 (.slice A1 p11.length c1) (.int .i64 p1)), .pointer (some (sAddr A1 p1))⟩, ⟨false, [], vS (Instr.loadAt 22 (.pointer (some (sAddr A1 p1)))), .slice (hdA hd1 p1) ((geti2 p11 p1).length) (hdC hd1 p1)⟩] [some (.slice A1 p11.length c1), none, some (.pointer (some (sAddr A1 p1))), some (.slice (hdA hd1 p1) ((geti2 p11 p1).length) (hdC hd1 p1))] [2, 8] [pl 2 (.pointer (some ⟨g2, 0, none⟩)), pl 8 (.slice (hdA hd1 p1) ((geti2 p11 p1).length) (hdC hd1 p1))] hF hS (by kernel_rfl) (by kernel_rfl) ?_ (fun a w hF hS => ?_)
  · exact obs_cons (ob_load Agg50 (fun _ _ hS => (hS.at_ 0 rfl).cell rfl)) <| obs_cons (ob_ixRn Und50 hi22 hs22 (hS.at_ 1 rfl).rdRows (hS.at_ 1 rfl).lenR (fun _ => hp1)) <| obs_cons (ob_getR Agg22 (fun _ hS => ⟨_, (hS.at_ 1 rfl).rdRows⟩) (fun _ => hb1)) <| obs_nil
  refine at_call (f := 38) (args := #[.slice (hdA hd1 p1) ((geti2 p11 p1).length) (hdC hd1 p1)]) (d := 9) hF (by kernel_rfl) (by kernel_rfl) Tryd.func38 (by kernel_rfl) rfl (slices_Clone_w hr1 hS (fun _ hS => ((hS.at_ 1 rfl).rdRows.row _ hb1).1) ((hS.at_ 1 rfl).rdRows.row _ hb1).2 rfl) (fun v a w hR hF => ?_)
  clear hS
  obtain ⟨A3, c3, rfl, hS⟩ := hR
  have hS : Sep w0 B w (own 3 (.slice A3 r1.length c3) (vI r1) :: blk g1 50 #[.slice A1 p11.length c1] :: rows 22 3 (.slice A1 p11.length c1) hd1 p11 :: blk g2 54 #[.slice A2 p21.length c2] :: own 4 (.slice A2 p21.length c2) (vB p21) :: fs) := hS
  refine at_run 1 [] [] [9, 10] [pl 9 (.slice A3 r1.length c3), pl 10 (.func (.func 39) #[] #[.pointer (some ⟨g2, 0, none⟩)])] hF hS (by kernel_rfl) (by kernel_rfl) ?_ (fun a w hF hS => ?_)
  · exact obs_nil
  have hS : Sep w0 B w (own 3 (.slice A3 r1.length c3) (vI r1) :: blk g2 54 #[.slice A2 p21.length c2] :: own 4 (.slice A2 p21.length c2) (vB p21) :: blk g1 50 #[.slice A1 p11.length c1] :: rows 22 3 (.slice A1 p11.length c1) hd1 p11 :: fs) := hS.pickN 5 [0, 3, 4, 1, 2] (by decide)
  refine at_call (f := 37) (args := #[.slice A3 r1.length c3, .func (.func 39) #[] #[.pointer (some ⟨g2, 0, none⟩)]]) (d := 11) hF (by kernel_rfl) (by kernel_rfl) Tryd.func37 (by kernel_rfl) rfl (slices_DeleteFunc_2_w hr2 hS ) (fun v a w hR hF => ?_)
  clear hS
  obtain ⟨rfl, hb2, hS⟩ := hR
  have hS : Sep w0 B w (own 3 (.slice A3 r1.length c3) (vI r2.2) :: blk g2 54 #[.slice A2 p21.length c2] :: own 4 (.slice A2 p21.length c2) (vB p21) :: blk g1 50 #[.slice A1 p11.length c1] :: rows 22 3 (.slice A1 p11.length c1) hd1 p11 :: fs) := hS
  refine at_run 1 [] [] [4] [pl 4 (.slice (cutAddr A3 c3 (0 : Int)) ((cut r2.2 (0 : Int) r2.1).length) (c3 - Int.toNat (0 : Int)))] hF hS (by kernel_rfl) (by kernel_rfl) ?_ (fun a w hF hS => ?_)
  · exact obs_nil
  refine at_end [4] [pl 4 (.slice (cutAddr A3 c3 (0 : Int)) ((cut r2.2 (0 : Int) r2.1).length) (c3 - Int.toNat (0 : Int)))] hF rfl (by kernel_rfl) (fun hF => ?_)
  refine then_n ?_
  refine wpIn_ret ?_
  have hS : Sep w0 B w (own 3 (.slice (cutAddr A3 c3 (0 : Int)) ((cut r2.2 (0 : Int) r2.1).length) (c3 - Int.toNat (0 : Int))) (vI (cut r2.2 (0 : Int) r2.1)) :: blk g2 54 #[.slice A2 p21.length c2] :: own 4 (.slice A2 p21.length c2) (vB p21) :: blk g1 50 #[.slice A1 p11.length c1] :: rows 22 3 (.slice A1 p11.length c1) hd1 p11 :: fs) := (hS.at_ 0 rfl).prefixN rfl hb2
  have hS := hS.pickN 5 [3, 4, 1, 2, 0] (by decide)
  have hm : some (cut r2.2 (0 : Int) r2.1) = some r := hm
  obtain rfl := Option.some.inj hm
  exact retV (rs := [.tmp 4]) (vs := [.slice (cutAddr A3 c3 (0 : Int)) ((cut r2.2 (0 : Int) r2.1).length) (c3 - Int.toNat (0 : Int))]) hF rfl (rv_t (by kernel_rfl) <| rv_nil) rfl ⟨_, rfl, (cutAddr A3 c3 (0 : Int)), (c3 - Int.toNat (0 : Int)), rfl, hS⟩

noncomputable def tour_Greedy_2_J1  (z1 : Int) : Option Int :=
  some z1

noncomputable def tour_Greedy_2_m  (a1 : Int) (b1 : Int) (v1 : List (List Int)) (v2 : List Bool) : Option Int :=
  (tour_Greedy_1_m a1 v1 v2).bind fun r1 => (tour_Greedy_1_m b1 v1 v2).bind fun r2 => tour_Greedy_2_J1 (w64 ((r1.length : Int) - (r2.length : Int)))

set_option maxRecDepth 100000 in
set_option maxHeartbeats 4000000 in
theorem tour_Greedy_2_w {a1 : Int} {b1 : Int} {g1 : Nat} {g2 : Nat} {A1 : Option Addr} {c1 : Nat} {n1 : Nat} {hd1 : List Hd} {v1 : List (List Int)} {g3 : Nat} {A2 : Option Addr} {c2 : Nat} {n2 : Nat} {v2 : List Bool} {r : Int} {w0 w : World} {B : Nat} {fs : List HP} (hm : tour_Greedy_2_m a1 b1 v1 v2 = some r) (hS : Sep w0 B w (blk g1 63 #[.func (.func 36) #[] #[.pointer (some ⟨g2, 0, none⟩), .pointer (some ⟨g3, 0, none⟩)]] :: blk g2 50 #[.slice A1 n1 c1] :: rows 22 3 (.slice A1 n1 c1) hd1 v1 :: blk g3 54 #[.slice A2 n2 c2] :: own 4 (.slice A2 n2 c2) (vB v2) :: fs)) :
    Calls Tryd.prog 41 #[.int .i64 a1, .int .i64 b1, .pointer (some ⟨g1, 0, none⟩)] w fun e w' => e = .returned (.int .i64 r) ∧ Sep w0 B w' (blk g1 63 #[.func (.func 36) #[] #[.pointer (some ⟨g2, 0, none⟩), .pointer (some ⟨g3, 0, none⟩)]] :: blk g2 50 #[.slice A1 n1 c1] :: rows 22 3 (.slice A1 n1 c1) hd1 v1 :: blk g3 54 #[.slice A2 n2 c2] :: own 4 (.slice A2 n2 c2) (vB v2) :: fs) := by
  obtain ⟨i4, hi4, hz4, hs4, hb4⟩ := info_parts Info4
  obtain rfl := (hS.at_ 2 rfl).lenR
  obtain rfl := (hS.at_ 4 rfl).len1
  unfold tour_Greedy_2_m at hm
  replace hm := start_b hm
  refine enter (l := [.int .i64 a1, .int .i64 b1, .pointer (some ⟨g1, 0, none⟩)]) (n := 15) Tryd.func41 rfl rfl (by simp) (fun a hF => ?_)
  refine reg [] [] [0, 1, 2] [pl 0 (.int .i64 a1), pl 1 (.int .i64 b1), pl 2 (.pointer (some ⟨g1, 0, none⟩))] hF hS Fol (by kernel_rfl) (by kernel_rfl) (by kernel_rfl) ?_ (fun a w hF hS => ?_)
  · exact obs_nil
  refine seq_cut (fun a w => ∃ (z1 : Int), Fr 15 [pl 5 (.int .i64 z1)] a ∧ Sep w0 B w (blk g1 63 #[.func (.func 36) #[] #[.pointer (some ⟨g2, 0, none⟩), .pointer (some ⟨g3, 0, none⟩)]] :: blk g2 50 #[.slice A1 v1.length c1] :: rows 22 3 (.slice A1 v1.length c1) hd1 v1 :: blk g3 54 #[.slice A2 v2.length c2] :: own 4 (.slice A2 v2.length c2) (vB v2) :: fs) ∧ (tour_Greedy_2_J1 z1).bind some = some r) ?_ ?_
  · rintro a w ⟨z1, hF, hS, hm⟩
    unfold tour_Greedy_2_J1 at hm
    refine wpIn_ret ?_
    have hm : some z1 = some r := hm
    obtain rfl := Option.some.inj hm
    exact retV (rs := [.tmp 5]) (vs := [.int .i64 z1]) hF rfl (rv_t (by kernel_rfl) <| rv_nil) rfl ⟨rfl, hS⟩
  · obtain ⟨r1, hr1, hm⟩ := call_b hm
    obtain ⟨r2, hr2, hm⟩ := call_b hm
    refine regMix5 [0, 1, 4, 5] [] 6 #[true, true, false, false, true, true, false, false, false, false] [⟨false, [], vS (Instr.loadAt 63 (.pointer (some ⟨g1, 0, none⟩))), .func (.func 36) #[] #[.pointer (some ⟨g2, 0, none⟩), .pointer (some ⟨g3, 0, none⟩)]⟩, ⟨false, [], vS (Instr.loadAt 63 (.pointer (some ⟨g1, 0, none⟩))), .func (.func 36) #[] #[.pointer (some ⟨g2, 0, none⟩), .pointer (some ⟨g3, 0, none⟩)]⟩] [some (.func (.func 36) #[] #[.pointer (some ⟨g2, 0, none⟩), .pointer (some ⟨g3, 0, none⟩)]), none, some (.func (.func 36) #[] #[.pointer (some ⟨g2, 0, none⟩), .pointer (some ⟨g3, 0, none⟩)]), none] [6, 7, 10, 11] [pl 6 (.func (.func 36) #[] #[.pointer (some ⟨g2, 0, none⟩), .pointer (some ⟨g3, 0, none⟩)]), pl 7 (.int .i64 a1), pl 10 (.func (.func 36) #[] #[.pointer (some ⟨g2, 0, none⟩), .pointer (some ⟨g3, 0, none⟩)]), pl 11 (.int .i64 b1)] hF hS Fol (by kernel_rfl) (by kernel_rfl) (by kernel_rfl) (by kernel_rfl) ?_ (fun a w hF hS => ?_)
    · exact obs_cons (ob_load Agg63 (fun _ _ hS => (hS.at_ 0 rfl).cell rfl)) <| obs_cons (ob_load Agg63 (fun _ _ hS => (hS.at_ 0 rfl).cell rfl)) <| obs_nil
    refine any_step [2] (by kernel_rfl) rfl ?_
    refine (all_cons ?_ all_nil)
    · refine any_op (listed' := #[true, true, true, false, true, true, false, false, false, false]) (by kernel_rfl) (by kernel_rfl) ?_
      have hS : Sep w0 B w (blk g2 50 #[.slice A1 v1.length c1] :: rows 22 3 (.slice A1 v1.length c1) hd1 v1 :: blk g3 54 #[.slice A2 v2.length c2] :: own 4 (.slice A2 v2.length c2) (vB v2) :: blk g1 63 #[.func (.func 36) #[] #[.pointer (some ⟨g2, 0, none⟩), .pointer (some ⟨g3, 0, none⟩)]] :: fs) := hS.pickN 5 [1, 2, 3, 4, 0] (by decide)
      refine at_call (f := 36) (args := #[.int .i64 a1, .pointer (some ⟨g2, 0, none⟩), .pointer (some ⟨g3, 0, none⟩)]) (d := 8) hF (by kernel_rfl) (by kernel_rfl) Tryd.func36 (by kernel_rfl) rfl (tour_Greedy_1_w hr1 hS ) (fun v a w hR hF => ?_)
      clear hS
      obtain ⟨A5, c5, rfl, hS⟩ := hR
      have hS : Sep w0 B w (blk g2 50 #[.slice A1 v1.length c1] :: rows 22 3 (.slice A1 v1.length c1) hd1 v1 :: blk g3 54 #[.slice A2 v2.length c2] :: own 4 (.slice A2 v2.length c2) (vB v2) :: own 3 (.slice A5 r1.length c5) (vI r1) :: blk g1 63 #[.func (.func 36) #[] #[.pointer (some ⟨g2, 0, none⟩), .pointer (some ⟨g3, 0, none⟩)]] :: fs) := hS
      refine any_fin rfl (hS.pickN 6 [5, 0, 1, 2, 3] (by decide)) ?_
      refine any_step [3, 6] (by kernel_rfl) rfl ?_
      refine (all_cons ?_ (all_cons ?_ all_nil))
      · refine any_op (listed' := #[true, true, true, true, true, true, false, false, false, false]) (by kernel_rfl) (by kernel_rfl) ?_
        refine at_runW 1 [] [] [9, 10, 11] [pl 9 (.int .i64 (r1.length : Int)), pl 10 (.func (.func 36) #[] #[.pointer (some ⟨g2, 0, none⟩), .pointer (some ⟨g3, 0, none⟩)]), pl 11 (.int .i64 b1)] hF hS (by kernel_rfl) (by kernel_rfl) ?_ (fun a hF => ?_)
        · exact obs_nil
        refine any_finI rfl (fun h => h) ?_
        refine any_step [6] (by kernel_rfl) rfl ?_
        refine (all_cons ?_ all_nil)
        · refine any_op (listed' := #[true, true, true, true, true, true, true, false, false, false]) (by kernel_rfl) (by kernel_rfl) ?_
          refine at_call (f := 36) (args := #[.int .i64 b1, .pointer (some ⟨g2, 0, none⟩), .pointer (some ⟨g3, 0, none⟩)]) (d := 12) hF (by kernel_rfl) (by kernel_rfl) Tryd.func36 (by kernel_rfl) rfl (tour_Greedy_1_w hr2 hS ) (fun v a w hR hF => ?_)
          clear hS
          obtain ⟨A6, c6, rfl, hS⟩ := hR
          have hS : Sep w0 B w (blk g2 50 #[.slice A1 v1.length c1] :: rows 22 3 (.slice A1 v1.length c1) hd1 v1 :: blk g3 54 #[.slice A2 v2.length c2] :: own 4 (.slice A2 v2.length c2) (vB v2) :: own 3 (.slice A6 r2.length c6) (vI r2) :: own 3 (.slice A5 r1.length c5) (vI r1) :: blk g1 63 #[.func (.func 36) #[] #[.pointer (some ⟨g2, 0, none⟩), .pointer (some ⟨g3, 0, none⟩)]] :: fs) := hS
          refine any_fin rfl (hS.pickN 7 [6, 0, 1, 2, 3] (by decide)) ?_
          refine any_step [7] (by kernel_rfl) rfl ?_
          refine (all_cons ?_ all_nil)
          · refine any_op (listed' := #[true, true, true, true, true, true, true, true, false, false]) (by kernel_rfl) (by kernel_rfl) ?_
            refine at_runW 1 [] [] [9, 13] [pl 9 (.int .i64 (r1.length : Int)), pl 13 (.int .i64 (r2.length : Int))] hF hS (by kernel_rfl) (by kernel_rfl) ?_ (fun a hF => ?_)
            · exact obs_nil
            refine any_finI rfl (fun h => h) ?_
            refine any_step [8] (by kernel_rfl) rfl ?_
            refine (all_cons ?_ all_nil)
            · refine any_op (listed' := #[true, true, true, true, true, true, true, true, true, false]) (by kernel_rfl) (by kernel_rfl) ?_
              refine at_runW 1 [] [] [14] [pl 14 (.int .i64 (w64 ((r1.length : Int) - (r2.length : Int))))] hF hS (by kernel_rfl) (by kernel_rfl) ?_ (fun a hF => ?_)
              · exact obs_nil
              refine any_finI rfl (fun h => h) ?_
              refine any_step [9] (by kernel_rfl) rfl ?_
              refine (all_cons ?_ all_nil)
              · refine any_op (listed' := #[true, true, true, true, true, true, true, true, true, true]) (by kernel_rfl) (by kernel_rfl) ?_
                refine at_runW 1 [] [] [5] [pl 5 (.int .i64 (w64 ((r1.length : Int) - (r2.length : Int))))] hF hS (by kernel_rfl) (by kernel_rfl) ?_ (fun a hF => ?_)
                · exact obs_nil
                refine any_finI rfl (fun h => h) ?_
                refine any_end (by kernel_rfl) ?_
                refine np_n ?_
                refine then_n ?_
                have hS := hS.pickN 7 [6, 0, 1, 2, 3] (by decide)
                exact ⟨(w64 ((r1.length : Int) - (r2.length : Int))), hF.weak [5] (by kernel_rfl), hS, hm⟩
      · refine any_op (listed' := #[true, true, true, false, true, true, true, false, false, false]) (by kernel_rfl) (by kernel_rfl) ?_
        refine at_call (f := 36) (args := #[.int .i64 b1, .pointer (some ⟨g2, 0, none⟩), .pointer (some ⟨g3, 0, none⟩)]) (d := 12) hF (by kernel_rfl) (by kernel_rfl) Tryd.func36 (by kernel_rfl) rfl (tour_Greedy_1_w hr2 hS ) (fun v a w hR hF => ?_)
        clear hS
        obtain ⟨A7, c7, rfl, hS⟩ := hR
        have hS : Sep w0 B w (blk g2 50 #[.slice A1 v1.length c1] :: rows 22 3 (.slice A1 v1.length c1) hd1 v1 :: blk g3 54 #[.slice A2 v2.length c2] :: own 4 (.slice A2 v2.length c2) (vB v2) :: own 3 (.slice A7 r2.length c7) (vI r2) :: own 3 (.slice A5 r1.length c5) (vI r1) :: blk g1 63 #[.func (.func 36) #[] #[.pointer (some ⟨g2, 0, none⟩), .pointer (some ⟨g3, 0, none⟩)]] :: fs) := hS
        refine any_fin rfl (hS.pickN 7 [6, 0, 1, 2, 3] (by decide)) ?_
        refine any_step [3, 7] (by kernel_rfl) rfl ?_
        refine (all_cons ?_ (all_cons ?_ all_nil))
        · refine any_op (listed' := #[true, true, true, true, true, true, true, false, false, false]) (by kernel_rfl) (by kernel_rfl) ?_
          refine at_runW 1 [] [] [9, 12] [pl 9 (.int .i64 (r1.length : Int)), pl 12 (.slice A7 r2.length c7)] hF hS (by kernel_rfl) (by kernel_rfl) ?_ (fun a hF => ?_)
          · exact obs_nil
          refine any_finI rfl (fun h => h) ?_
          refine any_step [7] (by kernel_rfl) rfl ?_
          refine (all_cons ?_ all_nil)
          · refine any_op (listed' := #[true, true, true, true, true, true, true, true, false, false]) (by kernel_rfl) (by kernel_rfl) ?_
            refine at_runW 1 [] [] [9, 13] [pl 9 (.int .i64 (r1.length : Int)), pl 13 (.int .i64 (r2.length : Int))] hF hS (by kernel_rfl) (by kernel_rfl) ?_ (fun a hF => ?_)
            · exact obs_nil
            refine any_finI rfl (fun h => h) ?_
            refine any_step [8] (by kernel_rfl) rfl ?_
            refine (all_cons ?_ all_nil)
            · refine any_op (listed' := #[true, true, true, true, true, true, true, true, true, false]) (by kernel_rfl) (by kernel_rfl) ?_
              refine at_runW 1 [] [] [14] [pl 14 (.int .i64 (w64 ((r1.length : Int) - (r2.length : Int))))] hF hS (by kernel_rfl) (by kernel_rfl) ?_ (fun a hF => ?_)
              · exact obs_nil
              refine any_finI rfl (fun h => h) ?_
              refine any_step [9] (by kernel_rfl) rfl ?_
              refine (all_cons ?_ all_nil)
              · refine any_op (listed' := #[true, true, true, true, true, true, true, true, true, true]) (by kernel_rfl) (by kernel_rfl) ?_
                refine at_runW 1 [] [] [5] [pl 5 (.int .i64 (w64 ((r1.length : Int) - (r2.length : Int))))] hF hS (by kernel_rfl) (by kernel_rfl) ?_ (fun a hF => ?_)
                · exact obs_nil
                refine any_finI rfl (fun h => h) ?_
                refine any_end (by kernel_rfl) ?_
                refine np_n ?_
                refine then_n ?_
                have hS := hS.pickN 7 [6, 0, 1, 2, 3] (by decide)
                exact ⟨(w64 ((r1.length : Int) - (r2.length : Int))), hF.weak [5] (by kernel_rfl), hS, hm⟩
        · refine any_op (listed' := #[true, true, true, false, true, true, true, true, false, false]) (by kernel_rfl) (by kernel_rfl) ?_
          refine at_runW 1 [] [] [8, 13] [pl 8 (.slice A5 r1.length c5), pl 13 (.int .i64 (r2.length : Int))] hF hS (by kernel_rfl) (by kernel_rfl) ?_ (fun a hF => ?_)
          · exact obs_nil
          refine any_finI rfl (fun h => h) ?_
          refine any_step [3] (by kernel_rfl) rfl ?_
          refine (all_cons ?_ all_nil)
          · refine any_op (listed' := #[true, true, true, true, true, true, true, true, false, false]) (by kernel_rfl) (by kernel_rfl) ?_
            refine at_runW 1 [] [] [9, 13] [pl 9 (.int .i64 (r1.length : Int)), pl 13 (.int .i64 (r2.length : Int))] hF hS (by kernel_rfl) (by kernel_rfl) ?_ (fun a hF => ?_)
            · exact obs_nil
            refine any_finI rfl (fun h => h) ?_
            refine any_step [8] (by kernel_rfl) rfl ?_
            refine (all_cons ?_ all_nil)
            · refine any_op (listed' := #[true, true, true, true, true, true, true, true, true, false]) (by kernel_rfl) (by kernel_rfl) ?_
              refine at_runW 1 [] [] [14] [pl 14 (.int .i64 (w64 ((r1.length : Int) - (r2.length : Int))))] hF hS (by kernel_rfl) (by kernel_rfl) ?_ (fun a hF => ?_)
              · exact obs_nil
              refine any_finI rfl (fun h => h) ?_
              refine any_step [9] (by kernel_rfl) rfl ?_
              refine (all_cons ?_ all_nil)
              · refine any_op (listed' := #[true, true, true, true, true, true, true, true, true, true]) (by kernel_rfl) (by kernel_rfl) ?_
                refine at_runW 1 [] [] [5] [pl 5 (.int .i64 (w64 ((r1.length : Int) - (r2.length : Int))))] hF hS (by kernel_rfl) (by kernel_rfl) ?_ (fun a hF => ?_)
                · exact obs_nil
                refine any_finI rfl (fun h => h) ?_
                refine any_end (by kernel_rfl) ?_
                refine np_n ?_
                refine then_n ?_
                have hS := hS.pickN 7 [6, 0, 1, 2, 3] (by decide)
                exact ⟨(w64 ((r1.length : Int) - (r2.length : Int))), hF.weak [5] (by kernel_rfl), hS, hm⟩

noncomputable def slices_MinFunc_J4  (i1 : Int) (m3 : Int) : Option (St (Int × Int) Int) :=
  some (.next (m3, (w64 (i1 + 1))))

noncomputable def slices_MinFunc_J3  (x1 : List Int) (v1 : List (List Int)) (v2 : List Bool) (m1 : Int) (i1 : Int) : Option (St (Int × Int) Int) :=
  asrt (0 ≤ i1 ∧ i1 < (x1.length : Int)) <| (tour_Greedy_2_m (geti x1 i1) m1 v1 v2).bind fun r1 => if (decide (r1 < 0)) then (asrt (0 ≤ i1 ∧ i1 < (x1.length : Int)) <| (slices_MinFunc_J4 i1) (geti x1 i1)) else ((slices_MinFunc_J4 i1) m1)

noncomputable def slices_MinFunc_J2  (m2 : Int) : Option Int :=
  some m2

noncomputable def slices_MinFunc_K1  : Int → Option Int :=
  fun (x : Int) => match x with | m2 => slices_MinFunc_J2 m2

noncomputable def slices_MinFunc_L1  (x1 : List Int) (v1 : List (List Int)) (v2 : List Bool) : (Int × Int) → Option (St (Int × Int) Int) :=
  fun (x : (Int × Int)) => match x with | (m1, i1) => if (decide (i1 < (x1.length : Int))) then ((slices_MinFunc_J3 x1 v1 v2 m1 i1)) else (some (.done m1))

noncomputable def slices_MinFunc_J1  (x1 : List Int) (v1 : List (List Int)) (v2 : List Bool) : Option Int :=
  asrt (0 ≤ (0 : Int) ∧ (0 : Int) < (x1.length : Int)) <| (loop (slices_MinFunc_L1 x1 v1 v2) ((geti x1 0), 1)).bind slices_MinFunc_K1

noncomputable def slices_MinFunc_m  (x1 : List Int) (v1 : List (List Int)) (v2 : List Bool) : Option Int :=
  if (decide ((x1.length : Int) < 1)) then none else ((slices_MinFunc_J1 x1 v1 v2))

set_option maxRecDepth 100000 in
set_option maxHeartbeats 4000000 in
theorem slices_MinFunc_w {A1 : Option Addr} {c1 : Nat} {n1 : Nat} {x1 : List Int} {g1 : Nat} {g2 : Nat} {A2 : Option Addr} {c2 : Nat} {n2 : Nat} {hd1 : List Hd} {v1 : List (List Int)} {g3 : Nat} {A3 : Option Addr} {c3 : Nat} {n3 : Nat} {v2 : List Bool} {r : Int} {w0 w : World} {B : Nat} {fs : List HP} (hm : slices_MinFunc_m x1 v1 v2 = some r) (hS : Sep w0 B w (blk g1 63 #[.func (.func 36) #[] #[.pointer (some ⟨g2, 0, none⟩), .pointer (some ⟨g3, 0, none⟩)]] :: blk g2 50 #[.slice A2 n2 c2] :: rows 22 3 (.slice A2 n2 c2) hd1 v1 :: blk g3 54 #[.slice A3 n3 c3] :: own 4 (.slice A3 n3 c3) (vB v2) :: fs)) (hr_x1 : RdF w0 B fs A1 (vI x1)) (_hc_x1 : x1.length ≤ c1) (_hn_x1 : n1 = x1.length) :
    Calls Tryd.prog 40 #[.slice A1 n1 c1, .func (.func 41) #[] #[.pointer (some ⟨g1, 0, none⟩)]] w fun e w' => e = .returned (.int .i64 r) ∧ Sep w0 B w' (blk g1 63 #[.func (.func 36) #[] #[.pointer (some ⟨g2, 0, none⟩), .pointer (some ⟨g3, 0, none⟩)]] :: blk g2 50 #[.slice A2 n2 c2] :: rows 22 3 (.slice A2 n2 c2) hd1 v1 :: blk g3 54 #[.slice A3 n3 c3] :: own 4 (.slice A3 n3 c3) (vB v2) :: fs) := by
  obtain ⟨i3, hi3, hz3, hs3, hb3⟩ := info_parts Info3
  obtain ⟨i4, hi4, hz4, hs4, hb4⟩ := info_parts Info4
  obtain rfl := (hS.at_ 2 rfl).lenR
  obtain rfl := (hS.at_ 4 rfl).len1
  obtain rfl := _hn_x1
  unfold slices_MinFunc_m at hm
  replace hm := start_b hm
  refine enter (l := [.slice A1 x1.length c1, .func (.func 41) #[] #[.pointer (some ⟨g1, 0, none⟩)]]) (n := 33) Tryd.func40 rfl rfl (by simp) (fun a hF => ?_)
  refine reg [] [] [0, 1] [pl 0 (.slice A1 x1.length c1), pl 1 (.func (.func 41) #[] #[.pointer (some ⟨g1, 0, none⟩)])] hF hS Fol (by kernel_rfl) (by kernel_rfl) (by kernel_rfl) ?_ (fun a w hF hS => ?_)
  · exact obs_nil
  refine seq_cut (fun a w => Fr 33 [pl 0 (.slice A1 x1.length c1), pl 1 (.func (.func 41) #[] #[.pointer (some ⟨g1, 0, none⟩)])] a ∧ Sep w0 B w (blk g1 63 #[.func (.func 36) #[] #[.pointer (some ⟨g2, 0, none⟩), .pointer (some ⟨g3, 0, none⟩)]] :: blk g2 50 #[.slice A2 v1.length c2] :: rows 22 3 (.slice A2 v1.length c2) hd1 v1 :: blk g3 54 #[.slice A3 v2.length c3] :: own 4 (.slice A3 v2.length c3) (vB v2) :: fs) ∧ ((slices_MinFunc_J1 x1 v1 v2)).bind some = some r) ?_ ?_
  · rintro a w ⟨hF, hS, hm⟩
    unfold slices_MinFunc_J1 at hm
    obtain ⟨hp1, hm⟩ := asrt_b hm
    refine reg [⟨true, [], vS (Instr.indexAt 22 (.slice A1 x1.length c1) (.int .i64 0)), .pointer (some (sAddr A1 0))⟩, ⟨false, [], vS (Instr.loadAt 3 (.pointer (some (sAddr A1 0)))), .int .i64 (geti x1 0)⟩] [none, some (.pointer (some (sAddr A1 0))), some (.int .i64 (geti x1 0)), none] [0, 1, 5] [pl 0 (.slice A1 x1.length c1), pl 1 (.func (.func 41) #[] #[.pointer (some ⟨g1, 0, none⟩)]), pl 5 (.int .i64 (geti x1 0))] hF hS Fol (by kernel_rfl) (by kernel_rfl) (by kernel_rfl) ?_ (fun a w hF hS => ?_)
    · exact obs_cons (ob_ix1 (f := (Value.int .i64)) (m := x1) Und22 hi3 hs3 (hr_x1 _ (hS.dropN 5)) rfl (fun _ => hp1)) <| obs_cons (ob_get1 (n := x1.length) (m := x1) (Value.int .i64) (0 : Int) Agg3 (fun _ hS => ⟨_, (hr_x1 _ (hS.dropN 5))⟩) (fun _ hS => rfl) (fun _ => hp1)) <| obs_nil
    refine seq_cut (fun a w => ∃ (m2 : Int), Fr 33 [pl 5 (.int .i64 m2)] a ∧ Sep w0 B w (blk g1 63 #[.func (.func 36) #[] #[.pointer (some ⟨g2, 0, none⟩), .pointer (some ⟨g3, 0, none⟩)]] :: blk g2 50 #[.slice A2 v1.length c2] :: rows 22 3 (.slice A2 v1.length c2) hd1 v1 :: blk g3 54 #[.slice A3 v2.length c3] :: own 4 (.slice A3 v2.length c3) (vB v2) :: fs) ∧ (slices_MinFunc_J2 m2).bind some = some r) ?_ ?_
    · rintro a w ⟨m2, hF, hS, hm⟩
      unfold slices_MinFunc_J2 at hm
      refine reg [] [] [4] [pl 4 (.int .i64 m2)] hF hS Fol (by kernel_rfl) (by kernel_rfl) (by kernel_rfl) ?_ (fun a w hF hS => ?_)
      · exact obs_nil
      refine wpIn_ret ?_
      have hm : some m2 = some r := hm
      obtain rfl := Option.some.inj hm
      exact retV (rs := [.tmp 4]) (vs := [.int .i64 m2]) hF rfl (rv_t (by kernel_rfl) <| rv_nil) rfl ⟨rfl, hS⟩
    · refine reg [] [] [0, 1, 5, 6] [pl 0 (.slice A1 x1.length c1), pl 1 (.func (.func 41) #[] #[.pointer (some ⟨g1, 0, none⟩)]), pl 5 (.int .i64 (geti x1 0)), pl 6 (.int .i64 1)] hF hS Fol (by kernel_rfl) (by kernel_rfl) (by kernel_rfl) ?_ (fun a w hF hS => ?_)
      · exact obs_nil
      refine wpIn_block ?_
      refine wp_loop_model (S := (Int × Int)) (R := Int) (slices_MinFunc_L1 x1 v1 v2) (fun x => (slices_MinFunc_K1 x).bind some) r (fun (x : (Int × Int)) a w => Fr 33 [pl 0 (.slice A1 x1.length c1), pl 1 (.func (.func 41) #[] #[.pointer (some ⟨g1, 0, none⟩)]), pl 5 (.int .i64 x.1), pl 6 (.int .i64 x.2)] a ∧ Sep w0 B w (blk g1 63 #[.func (.func 36) #[] #[.pointer (some ⟨g2, 0, none⟩), .pointer (some ⟨g3, 0, none⟩)]] :: blk g2 50 #[.slice A2 v1.length c2] :: rows 22 3 (.slice A2 v1.length c2) hd1 v1 :: blk g3 54 #[.slice A3 v2.length c3] :: own 4 (.slice A3 v2.length c3) (vB v2) :: fs)) (assoc_b hm) ⟨hF.weak [0, 1, 5, 6] (by kernel_rfl), hS⟩ ?_
      clear hF hS hm
      rintro nn1 ⟨m1, i1⟩ a w ⟨hF, hS⟩ hm
      generalize hφ1 : stK (slices_MinFunc_L1 x1 v1 v2) nn1 (fun x => (slices_MinFunc_K1 x).bind some) = φ1 at hm
      unfold slices_MinFunc_L1 at hm
      dsimp only at hF hS hm
      refine seq_cut (fun a w => Fr 33 [pl 0 (.slice A1 x1.length c1), pl 1 (.func (.func 41) #[] #[.pointer (some ⟨g1, 0, none⟩)]), pl 5 (.int .i64 m1), pl 6 (.int .i64 i1)] a ∧ Sep w0 B w (blk g1 63 #[.func (.func 36) #[] #[.pointer (some ⟨g2, 0, none⟩), .pointer (some ⟨g3, 0, none⟩)]] :: blk g2 50 #[.slice A2 v1.length c2] :: rows 22 3 (.slice A2 v1.length c2) hd1 v1 :: blk g3 54 #[.slice A3 v2.length c3] :: own 4 (.slice A3 v2.length c3) (vB v2) :: fs) ∧ ((slices_MinFunc_J3 x1 v1 v2 m1 i1)).bind φ1 = some r) ?_ ?_
      · rintro a w ⟨hF, hS, hm⟩
        unfold slices_MinFunc_J3 at hm
        refine seq_cut (fun a w => ∃ (m3 : Int), Fr 33 [pl 0 (.slice A1 x1.length c1), pl 1 (.func (.func 41) #[] #[.pointer (some ⟨g1, 0, none⟩)]), pl 5 (.int .i64 m3), pl 6 (.int .i64 i1)] a ∧ Sep w0 B w (blk g1 63 #[.func (.func 36) #[] #[.pointer (some ⟨g2, 0, none⟩), .pointer (some ⟨g3, 0, none⟩)]] :: blk g2 50 #[.slice A2 v1.length c2] :: rows 22 3 (.slice A2 v1.length c2) hd1 v1 :: blk g3 54 #[.slice A3 v2.length c3] :: own 4 (.slice A3 v2.length c3) (vB v2) :: fs) ∧ ((slices_MinFunc_J4 i1) m3).bind φ1 = some r) ?_ ?_
        · rintro a w ⟨m3, hF, hS, hm⟩
          unfold slices_MinFunc_J4 at hm
          refine reg1 [] [] [0, 1, 5, 6] [pl 0 (.slice A1 x1.length c1), pl 1 (.func (.func 41) #[] #[.pointer (some ⟨g1, 0, none⟩)]), pl 5 (.int .i64 m3), pl 6 (.int .i64 (w64 (i1 + 1)))] hF hS Fol (by kernel_rfl) (by kernel_rfl) (by kernel_rfl) ?_ (fun a w hF hS => ?_)
          · exact obs_nil
          refine then_n ?_
          rw [← hφ1] at hm
          exact ⟨(m3, (w64 (i1 + 1))), ⟨hF.weak [0, 1, 5, 6] (by kernel_rfl), hS⟩, hm⟩
        · refine wpIn_block ?_
          obtain ⟨hp2, hm⟩ := asrt_b hm
          obtain ⟨r1, hr1, hm⟩ := call_b hm
          refine reg [⟨true, [], vS (Instr.indexAt 22 (.slice A1 x1.length c1) (.int .i64 i1)), .pointer (some (sAddr A1 i1))⟩, ⟨false, [], vS (Instr.loadAt 3 (.pointer (some (sAddr A1 i1)))), .int .i64 (geti x1 i1)⟩, ⟨false, [], callFunc 41 #[.int .i64 (geti x1 i1), .int .i64 m1, .pointer (some ⟨g1, 0, none⟩)], .int .i64 r1⟩] [none, none, none, some (.pointer (some (sAddr A1 i1))), some (.int .i64 (geti x1 i1)), none, some (.int .i64 r1), none] [0, 1, 5, 6, 27] [pl 0 (.slice A1 x1.length c1), pl 1 (.func (.func 41) #[] #[.pointer (some ⟨g1, 0, none⟩)]), pl 5 (.int .i64 m1), pl 6 (.int .i64 i1), pl 27 (.bool (decide (r1 < 0)))] hF hS Fol (by kernel_rfl) (by kernel_rfl) (by kernel_rfl) ?_ (fun a w hF hS => ?_)
          · exact obs_cons (ob_ix1 (f := (Value.int .i64)) (m := x1) Und22 hi3 hs3 (hr_x1 _ (hS.dropN 5)) rfl (fun _ => hp2)) <| obs_cons (ob_get1 (n := x1.length) (m := x1) (Value.int .i64) (0 : Int) Agg3 (fun _ hS => ⟨_, (hr_x1 _ (hS.dropN 5))⟩) (fun _ hS => rfl) (fun _ => hp2)) <| obs_cons (ob_call Tryd.func41 (by kernel_rfl) rfl (fun _ _ hS => tour_Greedy_2_w hr1 hS )) <| obs_nil
          refine cond_ev (t := 27) (b := decide (r1 < 0)) hF (by kernel_rfl) (fun hb => ?_) (fun hb => ?_)
          · replace hm := if_t hm hb
            obtain ⟨hp3, hm⟩ := asrt_b hm
            refine reg1 [⟨true, [], vS (Instr.indexAt 22 (.slice A1 x1.length c1) (.int .i64 i1)), .pointer (some (sAddr A1 i1))⟩, ⟨false, [], vS (Instr.loadAt 3 (.pointer (some (sAddr A1 i1)))), .int .i64 (geti x1 i1)⟩] [none, none, some (.pointer (some (sAddr A1 i1))), some (.int .i64 (geti x1 i1)), none] [0, 1, 5, 6] [pl 0 (.slice A1 x1.length c1), pl 1 (.func (.func 41) #[] #[.pointer (some ⟨g1, 0, none⟩)]), pl 5 (.int .i64 (geti x1 i1)), pl 6 (.int .i64 i1)] hF hS Fol (by kernel_rfl) (by kernel_rfl) (by kernel_rfl) ?_ (fun a w hF hS => ?_)
            · exact obs_cons (ob_ix1 (f := (Value.int .i64)) (m := x1) Und22 hi3 hs3 (hr_x1 _ (hS.dropN 5)) rfl (fun _ => hp3)) <| obs_cons (ob_get1 (n := x1.length) (m := x1) (Value.int .i64) (0 : Int) Agg3 (fun _ hS => ⟨_, (hr_x1 _ (hS.dropN 5))⟩) (fun _ hS => rfl) (fun _ => hp3)) <| obs_nil
            refine block_n ?_
            refine then_n ?_
            exact ⟨(geti x1 i1), hF.weak [0, 1, 5, 6] (by kernel_rfl), hS, hm⟩
          · replace hm := if_f hm hb
            refine wpIn_skip ?_
            refine block_n ?_
            refine then_n ?_
            exact ⟨m1, hF.weak [0, 1, 5, 6] (by kernel_rfl), hS, hm⟩
      · refine reg [] [] [0, 1, 5, 6, 17] [pl 0 (.slice A1 x1.length c1), pl 1 (.func (.func 41) #[] #[.pointer (some ⟨g1, 0, none⟩)]), pl 5 (.int .i64 m1), pl 6 (.int .i64 i1), pl 17 (.bool (decide (i1 < (x1.length : Int))))] hF hS Fol (by kernel_rfl) (by kernel_rfl) (by kernel_rfl) ?_ (fun a w hF hS => ?_)
        · exact obs_nil
        refine cond_ev (t := 17) (b := decide (i1 < (x1.length : Int))) hF (by kernel_rfl) (fun hb => ?_) (fun hb => ?_)
        · replace hm := if_t hm hb
          refine wpIn_skip ?_
          refine then_n ?_
          exact ⟨hF.weak [0, 1, 5, 6] (by kernel_rfl), hS, hm⟩
        · replace hm := if_f hm hb
          refine wpIn_exit ?_
          refine then_e (then_e (block_e (then_n ?_)))
          rw [← hφ1] at hm
          replace hm := done_b hm
          unfold slices_MinFunc_K1 at hm
          try dsimp only at hm
          have hm : (slices_MinFunc_J2 m1).bind some = some r := hm
          exact ⟨m1, hF.weak [5] (by kernel_rfl), hS, hm⟩
  · refine reg [] [] [0, 1, 9] [pl 0 (.slice A1 x1.length c1), pl 1 (.func (.func 41) #[] #[.pointer (some ⟨g1, 0, none⟩)]), pl 9 (.bool (decide ((x1.length : Int) < 1)))] hF hS Fol (by kernel_rfl) (by kernel_rfl) (by kernel_rfl) ?_ (fun a w hF hS => ?_)
    · exact obs_nil
    refine cond_ev (t := 9) (b := decide ((x1.length : Int) < 1)) hF (by kernel_rfl) (fun hb => ?_) (fun hb => ?_)
    · replace hm := if_t hm hb
      simp at hm
    · replace hm := if_f hm hb
      refine wpIn_skip ?_
      refine then_n ?_
      exact ⟨hF.weak [0, 1] (by kernel_rfl), hS, hm⟩

noncomputable def tour_Greedy_J2  (r1 : (List (List Int) × Int)) (seen1 : List Bool) (l1 : List Int) (p1 : Int) (r2 : (List Int)) : Option (St (List Bool × List Int × Int) (List Int × Int)) :=
  (slices_MinFunc_m r2 r1.1 (seen1.set (Int.toNat p1) true)).bind fun r3 => some (.next ((seen1.set (Int.toNat p1) true), (l1 ++ ([p1] : List Int)), r3))

noncomputable def tour_Greedy_K1  : (List Int × Int) → Option (List Int × Int) :=
  fun (x : (List Int × Int)) => match x with | x => some x

noncomputable def tour_Greedy_L1  (r1 : (List (List Int) × Int)) : (List Bool × List Int × Int) → Option (St (List Bool × List Int × Int) (List Int × Int)) :=
  fun (x : (List Bool × List Int × Int)) => match x with | (seen1, l1, p1) => asrt (0 ≤ p1 ∧ p1 < (((Int.toNat (r1.1.length : Int)) : Nat) : Int)) <| asrt ((l1.length : Int) + 1 ≤ bigN) <| (tour_Greedy_1_m p1 r1.1 (seen1.set (Int.toNat p1) true)).bind fun r2 => if ((r2.length : Int) == 0) then (some (.done ((l1 ++ ([p1] : List Int)), 0))) else ((tour_Greedy_J2 r1 seen1 l1 p1 r2))

noncomputable def tour_Greedy_J1  (from1 : Int) (r1 : (List (List Int) × Int)) : Option (List Int × Int) :=
  asrt ((0 : Int) ≤ (r1.1.length : Int) ∧ (r1.1.length : Int) ≤ bigN) <| (loop (tour_Greedy_L1 r1) ((List.replicate (Int.toNat (r1.1.length : Int)) false), ([] : List Int), from1)).bind tour_Greedy_K1
end Go.Proofs.YtlpaklmfgldkoaaDoor
