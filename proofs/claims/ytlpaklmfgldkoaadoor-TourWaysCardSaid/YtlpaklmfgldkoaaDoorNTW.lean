/-
  Models and walks, printed by our own program (wip/gen).
-/
import Derived.Test.YtlpaklmfgldkoaaDoorFB
import Derived.Test.YtlpaklmfgldkoaaDoorLibD
import Derived.Test.YtlpaklmfgldkoaaDoorLibAS
import Derived.Test.YtlpaklmfgldkoaaDoorLibBg
import Derived.Test.YtlpaklmfgldkoaaDoorLibOq
import Derived.Test.YtlpaklmfgldkoaaDoorLibSu
import Derived.Test.YtlpaklmfgldkoaaDoorLibGl
namespace Go.Proofs.YtlpaklmfgldkoaaDoor
open Go Go.GL Go.RowKit


/-- What a variable holds. -/
def glob0 : List Int := [-1, -2, 1, -2, -2, -1, 2, -1, -2, 1, 2, 1, -1, 2, 1, 2]

noncomputable def tour_newField_J6  (z2 : Int) (f5 : List (List Int)) : Option (St (List (List Int) × Int) (List (List Int))) :=
  some (.next (f5, (w64 (z2 + 1))))

noncomputable def tour_newField_J5  (w1 : Int) (h1 : Int) (z1 : Int) (f3 : List (List Int)) (z2 : Int) : Option (St (List (List Int) × Int) (List (List Int))) :=
  asrt (0 ≤ z2 ∧ z2 < 8) <| if ((((decide ((0 : Int) ≤ (w64 ((Int.tmod z1 w1) + (geti glob0 (z2 * 2)))))) && (decide ((w64 ((Int.tmod z1 w1) + (geti glob0 (z2 * 2)))) < w1))) && (decide ((0 : Int) ≤ (w64 ((w64 (Int.tdiv z1 w1)) + (geti glob0 (z2 * 2 + 1))))))) && (decide ((w64 ((w64 (Int.tdiv z1 w1)) + (geti glob0 (z2 * 2 + 1)))) < h1))) then (asrt (0 ≤ z1 ∧ z1 < (((List.replicate (Int.toNat (w64 (w1 * h1))) ([] : List Int)).length : Nat) : Int)) <| asrt ((((geti2 f3 z1).length : Nat) : Int) + 1 ≤ bigN) <| asrt (0 ≤ z1 ∧ z1 < (((List.replicate (Int.toNat (w64 (w1 * h1))) ([] : List Int)).length : Nat) : Int)) <| (tour_newField_J6 z2) (f3.set (Int.toNat z1) ((geti2 f3 z1) ++ ([w64 ((w64 ((w64 ((w64 (Int.tdiv z1 w1)) + (geti glob0 (z2 * 2 + 1)))) * w1)) + (w64 ((Int.tmod z1 w1) + (geti glob0 (z2 * 2)))))] : List Int)))) else ((tour_newField_J6 z2) f3)

noncomputable def tour_newField_J4  (z1 : Int) (f4 : List (List Int)) : Option (St (List (List Int) × Int) (List (List Int))) :=
  some (.next (f4, (w64 (z1 + 1))))

noncomputable def tour_newField_K2  (z1 : Int) : (List (List Int)) → Option (St (List (List Int) × Int) (List (List Int))) :=
  fun (x : (List (List Int))) => match x with | f4 => (tour_newField_J4 z1) f4

noncomputable def tour_newField_L2  (w1 : Int) (h1 : Int) (z1 : Int) : (List (List Int) × Int) → Option (St (List (List Int) × Int) (List (List Int))) :=
  fun (x : (List (List Int) × Int)) => match x with | (f3, z2) => if (decide (z2 < 8)) then ((tour_newField_J5 w1 h1 z1 f3 z2)) else (some (.done f3))

noncomputable def tour_newField_J3  (w1 : Int) (h1 : Int) (f1 : List (List Int)) (z1 : Int) : Option (St (List (List Int) × Int) (List (List Int))) :=
  asrt (w1 ≠ (0 : Int)) <| asrt (w1 ≠ (0 : Int)) <| (loop (tour_newField_L2 w1 h1 z1) (f1, 0)).bind (tour_newField_K2 z1)

noncomputable def tour_newField_J2  (f2 : List (List Int)) : Option (List (List Int) × Int) :=
  some (f2, 0)

noncomputable def tour_newField_K1  : (List (List Int)) → Option (List (List Int) × Int) :=
  fun (x : (List (List Int))) => match x with | f2 => tour_newField_J2 f2

noncomputable def tour_newField_L1  (w1 : Int) (h1 : Int) : (List (List Int) × Int) → Option (St (List (List Int) × Int) (List (List Int))) :=
  fun (x : (List (List Int) × Int)) => match x with | (f1, z1) => if (decide (z1 < (((List.replicate (Int.toNat (w64 (w1 * h1))) ([] : List Int)).length : Nat) : Int))) then ((tour_newField_J3 w1 h1 f1 z1)) else (some (.done f1))

noncomputable def tour_newField_J1  (w1 : Int) (h1 : Int) : Option (List (List Int) × Int) :=
  asrt ((0 : Int) ≤ (w64 (w1 * h1)) ∧ (w64 (w1 * h1)) ≤ bigR) <| (loop (tour_newField_L1 w1 h1) ((List.replicate (Int.toNat (w64 (w1 * h1))) ([] : List Int)), 0)).bind tour_newField_K1

noncomputable def tour_newField_m  (w1 : Int) (h1 : Int) : Option (List (List Int) × Int) :=
  if ((decide ((minI w1 h1) < 1)) || (decide ((8 : Int) < (maxI w1 h1)))) then (some (([] : List (List Int)), 3)) else ((tour_newField_J1 w1 h1))

set_option maxRecDepth 100000 in
set_option maxHeartbeats 4000000 in
theorem tour_newField_w {w1 : Int} {h1 : Int} {r : (List (List Int) × Int)} {w0 w : World} {B : Nat} {fs : List HP} [GLV 0 glob0 w0 B] (hm : tour_newField_m w1 h1 = some r) (hS : Sep w0 B w (fs)) :
    Calls Tryd.prog 28 #[.int .i64 w1, .int .i64 h1] w fun e w' => ∃ v, e = .returned v ∧ ∃ (A3 : Option Addr) (c3 : Nat) (hd6 : List Hd), v = .tuple #[.slice A3 r.1.length c3, .int .i64 r.2] ∧ Sep w0 B w' (rows 22 3 (.slice A3 r.1.length c3) hd6 r.1 :: fs) := by
  obtain ⟨i3, hi3, hz3, hs3, hb3⟩ := info_parts Info3
  obtain ⟨i22, hi22, hz22, hs22, hb22⟩ := info_parts Info22
  unfold tour_newField_m at hm
  replace hm := start_b hm
  refine enter (l := [.int .i64 w1, .int .i64 h1]) (n := 84) Tryd.func28 rfl rfl (by simp) (fun a hF => ?_)
  refine reg [] [] [0, 1] [pl 0 (.int .i64 w1), pl 1 (.int .i64 h1)] hF hS Fol (by kernel_rfl) (by kernel_rfl) (by kernel_rfl) ?_ (fun a w hF hS => ?_)
  · exact obs_nil
  refine seq_cut (fun a w => Fr 84 [pl 0 (.int .i64 w1), pl 1 (.int .i64 h1)] a ∧ Sep w0 B w (fs) ∧ ((tour_newField_J1 w1 h1)).bind some = some r) ?_ ?_
  · rintro a w ⟨hF, hS, hm⟩
    unfold tour_newField_J1 at hm
    refine seqR ?_
    obtain ⟨hp1, hm⟩ := asrt_b hm
    refine at_run 3 [] [] [0, 1, 26] [pl 0 (.int .i64 w1), pl 1 (.int .i64 h1), pl 26 (.int .i64 (w64 (w1 * h1)))] hF hS (by kernel_rfl) (by kernel_rfl) ?_ (fun a w hF hS => ?_)
    · exact obs_nil
    obtain ⟨A1, c1, w, hrun, hS⟩ := run_mkRows (P := Tryd.prog) (t := 50) hS .i64 .i64 3 Und50 hi22 hz22 hs22 hb22 hp1
    have hS : Sep w0 B w (rows 22 3 (.slice A1 ((List.replicate (Int.toNat (w64 (w1 * h1))) ([] : List Int)).length) c1) (List.replicate (Int.toNat (w64 (w1 * h1))) ((none, 0) : Hd)) (List.replicate (Int.toNat (w64 (w1 * h1))) ([] : List Int)) :: fs) := hS
    refine at_do (d := 27) hF (by kernel_rfl) (by kernel_rfl) hrun (fun a hF => ?_)
    refine at_run 1 [] [] [0, 1, 6] [pl 0 (.int .i64 w1), pl 1 (.int .i64 h1), pl 6 (.slice A1 ((List.replicate (Int.toNat (w64 (w1 * h1))) ([] : List Int)).length) c1)] hF hS (by kernel_rfl) (by kernel_rfl) ?_ (fun a w hF hS => ?_)
    · exact obs_nil
    refine at_end [0, 1, 6] [pl 0 (.int .i64 w1), pl 1 (.int .i64 h1), pl 6 (.slice A1 ((List.replicate (Int.toNat (w64 (w1 * h1))) ([] : List Int)).length) c1)] hF rfl (by kernel_rfl) (fun hF => ?_)
    refine then_n ?_
    refine seq_cut (fun a w => ∃ (f2 : List (List Int)) (hd2 : List Hd), Fr 84 [pl 6 (.slice A1 ((List.replicate (Int.toNat (w64 (w1 * h1))) ([] : List Int)).length) c1)] a ∧ Sep w0 B w (rows 22 3 (.slice A1 ((List.replicate (Int.toNat (w64 (w1 * h1))) ([] : List Int)).length) c1) hd2 f2 :: fs) ∧ (tour_newField_J2 f2).bind some = some r) ?_ ?_
    · rintro a w ⟨f2, hd2, hF, hS, hm⟩
      unfold tour_newField_J2 at hm
      refine reg [] [] [4, 5] [pl 4 (.slice A1 ((List.replicate (Int.toNat (w64 (w1 * h1))) ([] : List Int)).length) c1), pl 5 (.int .i64 0)] hF hS Fol (by kernel_rfl) (by kernel_rfl) (by kernel_rfl) ?_ (fun a w hF hS => ?_)
      · exact obs_nil
      refine wpIn_ret ?_
      have hl2 := (hS.at_ 0 rfl).lenR
      have hS := (hS.at_ 0 rfl).reNR hl2
      have hS : Sep w0 B w (rows 22 3 (.slice A1 f2.length c1) hd2 f2 :: fs) := hS
      have hF := hF.cast (t := 4) (v := .slice A1 ((List.replicate (Int.toNat (w64 (w1 * h1))) ([] : List Int)).length) c1) (v' := .slice A1 f2.length c1) rfl rfl (congrArg (fun k => Value.slice A1 k c1) hl2)
      have hm : some (f2, 0) = some r := hm
      obtain rfl := Option.some.inj hm
      exact retV (rs := [.tmp 4, .tmp 5]) (vs := [.slice A1 f2.length c1, .int .i64 0]) hF rfl (rv_t (by kernel_rfl) <| rv_t (by kernel_rfl) <| rv_nil) rfl ⟨_, rfl, A1, c1, hd2, rfl, hS⟩
    · refine reg [] [] [0, 1, 6, 29, 30] [pl 0 (.int .i64 w1), pl 1 (.int .i64 h1), pl 6 (.slice A1 ((List.replicate (Int.toNat (w64 (w1 * h1))) ([] : List Int)).length) c1), pl 29 (.int .i64 (((List.replicate (Int.toNat (w64 (w1 * h1))) ([] : List Int)).length : Nat) : Int)), pl 30 (.int .i64 0)] hF hS Fol (by kernel_rfl) (by kernel_rfl) (by kernel_rfl) ?_ (fun a w hF hS => ?_)
      · exact obs_nil
      refine wpIn_block ?_
      refine wp_loop_model (S := (List (List Int) × Int)) (R := (List (List Int))) (tour_newField_L1 w1 h1) (fun x => (tour_newField_K1 x).bind some) r (fun (x : (List (List Int) × Int)) a w => ∃ (hd1 : List Hd), Fr 84 [pl 0 (.int .i64 w1), pl 1 (.int .i64 h1), pl 6 (.slice A1 ((List.replicate (Int.toNat (w64 (w1 * h1))) ([] : List Int)).length) c1), pl 29 (.int .i64 (((List.replicate (Int.toNat (w64 (w1 * h1))) ([] : List Int)).length : Nat) : Int)), pl 30 (.int .i64 x.2)] a ∧ Sep w0 B w (rows 22 3 (.slice A1 ((List.replicate (Int.toNat (w64 (w1 * h1))) ([] : List Int)).length) c1) hd1 x.1 :: fs)) (assoc_b hm) ⟨(List.replicate (Int.toNat (w64 (w1 * h1))) ((none, 0) : Hd)), hF.weak [0, 1, 6, 29, 30] (by kernel_rfl), hS⟩ ?_
      clear hF hS hm
      rintro nn1 ⟨f1, z1⟩ a w ⟨hd1, hF, hS⟩ hm
      generalize hφ1 : stK (tour_newField_L1 w1 h1) nn1 (fun x => (tour_newField_K1 x).bind some) = φ1 at hm
      unfold tour_newField_L1 at hm
      dsimp only at hF hS hm
      refine reg [] [] [0, 1, 6, 29, 30, 31] [pl 0 (.int .i64 w1), pl 1 (.int .i64 h1), pl 6 (.slice A1 ((List.replicate (Int.toNat (w64 (w1 * h1))) ([] : List Int)).length) c1), pl 29 (.int .i64 (((List.replicate (Int.toNat (w64 (w1 * h1))) ([] : List Int)).length : Nat) : Int)), pl 30 (.int .i64 z1), pl 31 (.bool (decide (z1 < (((List.replicate (Int.toNat (w64 (w1 * h1))) ([] : List Int)).length : Nat) : Int))))] hF hS Fol (by kernel_rfl) (by kernel_rfl) (by kernel_rfl) ?_ (fun a w hF hS => ?_)
      · exact obs_nil
      refine seq_cut (fun a w => Fr 84 [pl 0 (.int .i64 w1), pl 1 (.int .i64 h1), pl 6 (.slice A1 ((List.replicate (Int.toNat (w64 (w1 * h1))) ([] : List Int)).length) c1), pl 29 (.int .i64 (((List.replicate (Int.toNat (w64 (w1 * h1))) ([] : List Int)).length : Nat) : Int)), pl 30 (.int .i64 z1)] a ∧ Sep w0 B w (rows 22 3 (.slice A1 ((List.replicate (Int.toNat (w64 (w1 * h1))) ([] : List Int)).length) c1) hd1 f1 :: fs) ∧ ((tour_newField_J3 w1 h1 f1 z1)).bind φ1 = some r) ?_ ?_
      · rintro a w ⟨hF, hS, hm⟩
        unfold tour_newField_J3 at hm
        refine seq_cut (fun a w => ∃ (f4 : List (List Int)) (hd4 : List Hd), Fr 84 [pl 0 (.int .i64 w1), pl 1 (.int .i64 h1), pl 6 (.slice A1 ((List.replicate (Int.toNat (w64 (w1 * h1))) ([] : List Int)).length) c1), pl 29 (.int .i64 (((List.replicate (Int.toNat (w64 (w1 * h1))) ([] : List Int)).length : Nat) : Int)), pl 30 (.int .i64 z1)] a ∧ Sep w0 B w (rows 22 3 (.slice A1 ((List.replicate (Int.toNat (w64 (w1 * h1))) ([] : List Int)).length) c1) hd4 f4 :: fs) ∧ ((tour_newField_J4 z1) f4).bind φ1 = some r) ?_ ?_
        · rintro a w ⟨f4, hd4, hF, hS, hm⟩
          unfold tour_newField_J4 at hm
          refine reg1 [] [] [0, 1, 6, 29, 30] [pl 0 (.int .i64 w1), pl 1 (.int .i64 h1), pl 6 (.slice A1 ((List.replicate (Int.toNat (w64 (w1 * h1))) ([] : List Int)).length) c1), pl 29 (.int .i64 (((List.replicate (Int.toNat (w64 (w1 * h1))) ([] : List Int)).length : Nat) : Int)), pl 30 (.int .i64 (w64 (z1 + 1)))] hF hS Fol (by kernel_rfl) (by kernel_rfl) (by kernel_rfl) ?_ (fun a w hF hS => ?_)
          · exact obs_nil
          refine then_n ?_
          rw [← hφ1] at hm
          exact ⟨(f4, (w64 (z1 + 1))), ⟨hd4, hF.weak [0, 1, 6, 29, 30] (by kernel_rfl), hS⟩, hm⟩
        · refine wpIn_block ?_
          refine reg [] [] [0, 1, 6, 7, 29, 30] [pl 0 (.int .i64 w1), pl 1 (.int .i64 h1), pl 6 (.slice A1 ((List.replicate (Int.toNat (w64 (w1 * h1))) ([] : List Int)).length) c1), pl 7 (.int .i64 z1), pl 29 (.int .i64 (((List.replicate (Int.toNat (w64 (w1 * h1))) ([] : List Int)).length : Nat) : Int)), pl 30 (.int .i64 z1)] hF hS Fol (by kernel_rfl) (by kernel_rfl) (by kernel_rfl) ?_ (fun a w hF hS => ?_)
          · exact obs_nil
          obtain ⟨hp2, hm⟩ := asrt_b hm
          obtain ⟨hp3, hm⟩ := asrt_b hm
          refine reg [⟨true, [], vS (Op.intDiv .rem .i64 z1 w1), .int .i64 (Int.tmod z1 w1)⟩, ⟨true, [], vS (Op.intDiv .quo .i64 z1 w1), .int .i64 (w64 (Int.tdiv z1 w1))⟩] [none, none, some (.int .i64 (Int.tmod z1 w1)), none, none, some (.int .i64 (w64 (Int.tdiv z1 w1))), none, none] [0, 1, 6, 7, 8, 9, 29, 30] [pl 0 (.int .i64 w1), pl 1 (.int .i64 h1), pl 6 (.slice A1 ((List.replicate (Int.toNat (w64 (w1 * h1))) ([] : List Int)).length) c1), pl 7 (.int .i64 z1), pl 8 (.int .i64 (Int.tmod z1 w1)), pl 9 (.int .i64 (w64 (Int.tdiv z1 w1))), pl 29 (.int .i64 (((List.replicate (Int.toNat (w64 (w1 * h1))) ([] : List Int)).length : Nat) : Int)), pl 30 (.int .i64 z1)] hF hS Fol (by kernel_rfl) (by kernel_rfl) (by kernel_rfl) ?_ (fun a w hF hS => ?_)
          · exact obs_cons (ob_rem rfl (fun _ => hp2)) <| obs_cons (ob_quo rfl (fun _ => hp3)) <| obs_nil
          refine reg [⟨false, [], vS (Instr.loadAt 73 (.pointer (some ⟨0, 0, none⟩))), .agg (List.toArray (([] : List Value) ++ (arr1 (Value.int .i64) (0 : Int) 16 glob0 ++ ([] : List Value))))⟩] [some (.agg (List.toArray (([] : List Value) ++ (arr1 (Value.int .i64) (0 : Int) 16 glob0 ++ ([] : List Value))))), none] [0, 1, 6, 7, 8, 9, 29, 30, 39, 40] [pl 0 (.int .i64 w1), pl 1 (.int .i64 h1), pl 6 (.slice A1 ((List.replicate (Int.toNat (w64 (w1 * h1))) ([] : List Int)).length) c1), pl 7 (.int .i64 z1), pl 8 (.int .i64 (Int.tmod z1 w1)), pl 9 (.int .i64 (w64 (Int.tdiv z1 w1))), pl 29 (.int .i64 (((List.replicate (Int.toNat (w64 (w1 * h1))) ([] : List Int)).length : Nat) : Int)), pl 30 (.int .i64 z1), pl 39 (.agg (List.toArray (([] : List Value) ++ (arr1 (Value.int .i64) (0 : Int) 16 glob0 ++ ([] : List Value))))), pl 40 (.int .i64 0)] hF hS Fol (by kernel_rfl) (by kernel_rfl) (by kernel_rfl) ?_ (fun a w hF hS => ?_)
          · exact obs_cons (ob_glob (g := 0) (m := glob0) rfl (by kernel_rfl) (by kernel_rfl)) <| obs_nil
          refine wpIn_block ?_
          refine wp_loop_model (S := (List (List Int) × Int)) (R := (List (List Int))) (tour_newField_L2 w1 h1 z1) (fun x => ((tour_newField_K2 z1) x).bind φ1) r (fun (x : (List (List Int) × Int)) a w => ∃ (hd3 : List Hd), Fr 84 [pl 0 (.int .i64 w1), pl 1 (.int .i64 h1), pl 6 (.slice A1 ((List.replicate (Int.toNat (w64 (w1 * h1))) ([] : List Int)).length) c1), pl 7 (.int .i64 z1), pl 8 (.int .i64 (Int.tmod z1 w1)), pl 9 (.int .i64 (w64 (Int.tdiv z1 w1))), pl 29 (.int .i64 (((List.replicate (Int.toNat (w64 (w1 * h1))) ([] : List Int)).length : Nat) : Int)), pl 30 (.int .i64 z1), pl 39 (.agg (List.toArray (([] : List Value) ++ (arr1 (Value.int .i64) (0 : Int) 16 glob0 ++ ([] : List Value))))), pl 40 (.int .i64 x.2)] a ∧ Sep w0 B w (rows 22 3 (.slice A1 ((List.replicate (Int.toNat (w64 (w1 * h1))) ([] : List Int)).length) c1) hd3 x.1 :: fs)) (assoc_b hm) ⟨hd1, hF.weak [0, 1, 6, 7, 8, 9, 29, 30, 39, 40] (by kernel_rfl), hS⟩ ?_
          clear hF hS hm
          rintro nn2 ⟨f3, z2⟩ a w ⟨hd3, hF, hS⟩ hm
          generalize hφ2 : stK (tour_newField_L2 w1 h1 z1) nn2 (fun x => ((tour_newField_K2 z1) x).bind φ1) = φ2 at hm
          unfold tour_newField_L2 at hm
          dsimp only at hF hS hm
          refine reg [] [] [0, 1, 6, 7, 8, 9, 29, 30, 39, 40, 41] [pl 0 (.int .i64 w1), pl 1 (.int .i64 h1), pl 6 (.slice A1 ((List.replicate (Int.toNat (w64 (w1 * h1))) ([] : List Int)).length) c1), pl 7 (.int .i64 z1), pl 8 (.int .i64 (Int.tmod z1 w1)), pl 9 (.int .i64 (w64 (Int.tdiv z1 w1))), pl 29 (.int .i64 (((List.replicate (Int.toNat (w64 (w1 * h1))) ([] : List Int)).length : Nat) : Int)), pl 30 (.int .i64 z1), pl 39 (.agg (List.toArray (([] : List Value) ++ (arr1 (Value.int .i64) (0 : Int) 16 glob0 ++ ([] : List Value))))), pl 40 (.int .i64 z2), pl 41 (.bool (decide (z2 < 8)))] hF hS Fol (by kernel_rfl) (by kernel_rfl) (by kernel_rfl) ?_ (fun a w hF hS => ?_)
          · exact obs_nil
          refine seq_cut (fun a w => Fr 84 [pl 0 (.int .i64 w1), pl 1 (.int .i64 h1), pl 6 (.slice A1 ((List.replicate (Int.toNat (w64 (w1 * h1))) ([] : List Int)).length) c1), pl 7 (.int .i64 z1), pl 8 (.int .i64 (Int.tmod z1 w1)), pl 9 (.int .i64 (w64 (Int.tdiv z1 w1))), pl 29 (.int .i64 (((List.replicate (Int.toNat (w64 (w1 * h1))) ([] : List Int)).length : Nat) : Int)), pl 30 (.int .i64 z1), pl 39 (.agg (List.toArray (([] : List Value) ++ (arr1 (Value.int .i64) (0 : Int) 16 glob0 ++ ([] : List Value))))), pl 40 (.int .i64 z2)] a ∧ Sep w0 B w (rows 22 3 (.slice A1 ((List.replicate (Int.toNat (w64 (w1 * h1))) ([] : List Int)).length) c1) hd3 f3 :: fs) ∧ ((tour_newField_J5 w1 h1 z1 f3 z2)).bind φ2 = some r) ?_ ?_
          · rintro a w ⟨hF, hS, hm⟩
            unfold tour_newField_J5 at hm
            refine seq_cut (fun a w => ∃ (f5 : List (List Int)) (hd5 : List Hd), Fr 84 [pl 0 (.int .i64 w1), pl 1 (.int .i64 h1), pl 6 (.slice A1 ((List.replicate (Int.toNat (w64 (w1 * h1))) ([] : List Int)).length) c1), pl 7 (.int .i64 z1), pl 8 (.int .i64 (Int.tmod z1 w1)), pl 9 (.int .i64 (w64 (Int.tdiv z1 w1))), pl 29 (.int .i64 (((List.replicate (Int.toNat (w64 (w1 * h1))) ([] : List Int)).length : Nat) : Int)), pl 30 (.int .i64 z1), pl 39 (.agg (List.toArray (([] : List Value) ++ (arr1 (Value.int .i64) (0 : Int) 16 glob0 ++ ([] : List Value))))), pl 40 (.int .i64 z2)] a ∧ Sep w0 B w (rows 22 3 (.slice A1 ((List.replicate (Int.toNat (w64 (w1 * h1))) ([] : List Int)).length) c1) hd5 f5 :: fs) ∧ ((tour_newField_J6 z2) f5).bind φ2 = some r) ?_ ?_
            · rintro a w ⟨f5, hd5, hF, hS, hm⟩
              unfold tour_newField_J6 at hm
              refine reg1 [] [] [0, 1, 6, 7, 8, 9, 29, 30, 39, 40] [pl 0 (.int .i64 w1), pl 1 (.int .i64 h1), pl 6 (.slice A1 ((List.replicate (Int.toNat (w64 (w1 * h1))) ([] : List Int)).length) c1), pl 7 (.int .i64 z1), pl 8 (.int .i64 (Int.tmod z1 w1)), pl 9 (.int .i64 (w64 (Int.tdiv z1 w1))), pl 29 (.int .i64 (((List.replicate (Int.toNat (w64 (w1 * h1))) ([] : List Int)).length : Nat) : Int)), pl 30 (.int .i64 z1), pl 39 (.agg (List.toArray (([] : List Value) ++ (arr1 (Value.int .i64) (0 : Int) 16 glob0 ++ ([] : List Value))))), pl 40 (.int .i64 (w64 (z2 + 1)))] hF hS Fol (by kernel_rfl) (by kernel_rfl) (by kernel_rfl) ?_ (fun a w hF hS => ?_)
              · exact obs_nil
              refine then_n ?_
              rw [← hφ2] at hm
              exact ⟨(f5, (w64 (z2 + 1))), ⟨hd5, hF.weak [0, 1, 6, 7, 8, 9, 29, 30, 39, 40] (by kernel_rfl), hS⟩, hm⟩
            · refine wpIn_block ?_
              refine seqR ?_
              obtain ⟨hp4, hm⟩ := asrt_b hm
              refine at_run 1 [⟨true, [], vS (Instr.index 73 (.agg (List.toArray (([] : List Value) ++ (arr1 (Value.int .i64) (0 : Int) 16 glob0 ++ ([] : List Value))))) (.int .i64 z2)), .agg #[.int .i64 (geti glob0 (z2 * 2)), .int .i64 (geti glob0 (z2 * 2 + 1))]⟩] [some (.agg #[.int .i64 (geti glob0 (z2 * 2)), .int .i64 (geti glob0 (z2 * 2 + 1))])] [0, 1, 6, 7, 8, 9, 29, 30, 39, 40, 42] [pl 0 (.int .i64 w1), pl 1 (.int .i64 h1), pl 6 (.slice A1 ((List.replicate (Int.toNat (w64 (w1 * h1))) ([] : List Int)).length) c1), pl 7 (.int .i64 z1), pl 8 (.int .i64 (Int.tmod z1 w1)), pl 9 (.int .i64 (w64 (Int.tdiv z1 w1))), pl 29 (.int .i64 (((List.replicate (Int.toNat (w64 (w1 * h1))) ([] : List Int)).length : Nat) : Int)), pl 30 (.int .i64 z1), pl 39 (.agg (List.toArray (([] : List Value) ++ (arr1 (Value.int .i64) (0 : Int) 16 glob0 ++ ([] : List Value))))), pl 40 (.int .i64 z2), pl 42 (.agg #[.int .i64 (geti glob0 (z2 * 2)), .int .i64 (geti glob0 (z2 * 2 + 1))])] hF hS (by kernel_rfl) (by kernel_rfl) ?_ (fun a w hF hS => ?_)
              · exact obs_cons (ob_idxP2 (f := (Value.int .i64)) (z := (0 : Int)) (m := glob0) UndA73 (by kernel_rfl) (by kernel_rfl) rfl (fun _ => hp4)) <| obs_nil
              refine at_do (d := 11) (s := vS (Instr.alloc 72 true (.tuple #[]))) (v := .pointer (some ⟨w.heap.size, 0, none⟩)) (w' := w.alloc (.cells #[.int .i64 0, .int .i64 0] 72)) hF (by kernel_rfl) (by kernel_rfl) (by kernel_rfl) (fun a hF => ?_)
              have hS : Sep w0 B (w.alloc (.cells #[.int .i64 0, .int .i64 0] 72)) (blk w.heap.size 72 #[.int .i64 0, .int .i64 0] :: (rows 22 3 (.slice A1 ((List.replicate (Int.toNat (w64 (w1 * h1))) ([] : List Int)).length) c1) hd3 f3 :: fs)) := hS.box 72 #[.int .i64 0, .int .i64 0]
              generalize w.heap.size = g1 at hF hS
              generalize w.alloc (.cells #[.int .i64 0, .int .i64 0] 72) = w at hS ⊢
              obtain ⟨w, hrun, hS⟩ := run_putA (P := Tryd.prog) (t := 72) (us := #[.int .i64 (geti glob0 (z2 * 2)), .int .i64 (geti glob0 (z2 * 2 + 1))]) (o := 0) (hS.at_ 0 rfl) (by kernel_rfl) (all_one (by kernel_rfl)) (Nat.le_of_ble_eq_true (by kernel_rfl))
              refine at_skip hF (by kernel_rfl) hrun ?_
              have hS : Sep w0 B w (blk g1 72 #[.int .i64 (geti glob0 (z2 * 2)), .int .i64 (geti glob0 (z2 * 2 + 1))] :: rows 22 3 (.slice A1 ((List.replicate (Int.toNat (w64 (w1 * h1))) ([] : List Int)).length) c1) hd3 f3 :: fs) := hS
              refine at_end [0, 1, 6, 7, 8, 9, 11, 29, 30, 39, 40] [pl 0 (.int .i64 w1), pl 1 (.int .i64 h1), pl 6 (.slice A1 ((List.replicate (Int.toNat (w64 (w1 * h1))) ([] : List Int)).length) c1), pl 7 (.int .i64 z1), pl 8 (.int .i64 (Int.tmod z1 w1)), pl 9 (.int .i64 (w64 (Int.tdiv z1 w1))), pl 11 (.pointer (some ⟨g1, 0, none⟩)), pl 29 (.int .i64 (((List.replicate (Int.toNat (w64 (w1 * h1))) ([] : List Int)).length : Nat) : Int)), pl 30 (.int .i64 z1), pl 39 (.agg (List.toArray (([] : List Value) ++ (arr1 (Value.int .i64) (0 : Int) 16 glob0 ++ ([] : List Value))))), pl 40 (.int .i64 z2)] hF rfl (by kernel_rfl) (fun hF => ?_)
              refine then_n ?_
              refine reg [⟨false, [], vS (Instr.loadAt 3 (.pointer (some ⟨g1, 0, none⟩))), .int .i64 (geti glob0 (z2 * 2))⟩, ⟨false, [], vS (Instr.loadAt 3 (.pointer (some ⟨g1, 1, none⟩))), .int .i64 (geti glob0 (z2 * 2 + 1))⟩] [none, none, some (.int .i64 (geti glob0 (z2 * 2))), none, none, none, some (.int .i64 (geti glob0 (z2 * 2 + 1))), none, none, none] [0, 1, 6, 7, 8, 9, 12, 13, 29, 30, 39, 40] [pl 0 (.int .i64 w1), pl 1 (.int .i64 h1), pl 6 (.slice A1 ((List.replicate (Int.toNat (w64 (w1 * h1))) ([] : List Int)).length) c1), pl 7 (.int .i64 z1), pl 8 (.int .i64 (Int.tmod z1 w1)), pl 9 (.int .i64 (w64 (Int.tdiv z1 w1))), pl 12 (.int .i64 (w64 ((Int.tmod z1 w1) + (geti glob0 (z2 * 2))))), pl 13 (.int .i64 (w64 ((w64 (Int.tdiv z1 w1)) + (geti glob0 (z2 * 2 + 1))))), pl 29 (.int .i64 (((List.replicate (Int.toNat (w64 (w1 * h1))) ([] : List Int)).length : Nat) : Int)), pl 30 (.int .i64 z1), pl 39 (.agg (List.toArray (([] : List Value) ++ (arr1 (Value.int .i64) (0 : Int) 16 glob0 ++ ([] : List Value))))), pl 40 (.int .i64 z2)] hF hS Fol (by kernel_rfl) (by kernel_rfl) (by kernel_rfl) ?_ (fun a w hF hS => ?_)
              · exact obs_cons (ob_load Agg3 (fun _ _ hS => (hS.at_ 0 rfl).cell rfl)) <| obs_cons (ob_load Agg3 (fun _ _ hS => (hS.at_ 0 rfl).cell rfl)) <| obs_nil
              refine reg [] [] [0, 1, 6, 7, 8, 9, 12, 13, 29, 30, 39, 40, 66] [pl 0 (.int .i64 w1), pl 1 (.int .i64 h1), pl 6 (.slice A1 ((List.replicate (Int.toNat (w64 (w1 * h1))) ([] : List Int)).length) c1), pl 7 (.int .i64 z1), pl 8 (.int .i64 (Int.tmod z1 w1)), pl 9 (.int .i64 (w64 (Int.tdiv z1 w1))), pl 12 (.int .i64 (w64 ((Int.tmod z1 w1) + (geti glob0 (z2 * 2))))), pl 13 (.int .i64 (w64 ((w64 (Int.tdiv z1 w1)) + (geti glob0 (z2 * 2 + 1))))), pl 29 (.int .i64 (((List.replicate (Int.toNat (w64 (w1 * h1))) ([] : List Int)).length : Nat) : Int)), pl 30 (.int .i64 z1), pl 39 (.agg (List.toArray (([] : List Value) ++ (arr1 (Value.int .i64) (0 : Int) 16 glob0 ++ ([] : List Value))))), pl 40 (.int .i64 z2), pl 66 (.bool ((((decide ((0 : Int) ≤ (w64 ((Int.tmod z1 w1) + (geti glob0 (z2 * 2)))))) && (decide ((w64 ((Int.tmod z1 w1) + (geti glob0 (z2 * 2)))) < w1))) && (decide ((0 : Int) ≤ (w64 ((w64 (Int.tdiv z1 w1)) + (geti glob0 (z2 * 2 + 1))))))) && (decide ((w64 ((w64 (Int.tdiv z1 w1)) + (geti glob0 (z2 * 2 + 1)))) < h1))))] hF hS Fol (by kernel_rfl) (by kernel_rfl) (by kernel_rfl) ?_ (fun a w hF hS => ?_)
              · exact obs_nil
              refine cond_ev (t := 66) (b := (((decide ((0 : Int) ≤ (w64 ((Int.tmod z1 w1) + (geti glob0 (z2 * 2)))))) && (decide ((w64 ((Int.tmod z1 w1) + (geti glob0 (z2 * 2)))) < w1))) && (decide ((0 : Int) ≤ (w64 ((w64 (Int.tdiv z1 w1)) + (geti glob0 (z2 * 2 + 1))))))) && (decide ((w64 ((w64 (Int.tdiv z1 w1)) + (geti glob0 (z2 * 2 + 1)))) < h1))) hF (by kernel_rfl) (fun hb => ?_) (fun hb => ?_)
              · replace hm := if_t hm hb
                refine oneR ?_
                obtain ⟨hp5, hm⟩ := asrt_b hm
                obtain ⟨hp6, hm⟩ := asrt_b hm
                obtain ⟨hp7, hm⟩ := asrt_b hm
                have hb1 := rowb (n := (List.replicate (Int.toNat (w64 (w1 * h1))) ([] : List Int)).length) (hS.at_ 1 rfl).lenR hp5
                refine at_run 11 [⟨true, [], vS (Instr.indexAt 50 (.slice A1 ((List.replicate (Int.toNat (w64 (w1 * h1))) ([] : List Int)).length) c1) (.int .i64 z1)), .pointer (some (sAddr A1 z1))⟩, ⟨false, [], vS (Instr.loadAt 22 (.pointer (some (sAddr A1 z1)))), .slice (hdA hd3 z1) ((geti2 f3 z1).length) (hdC hd3 z1)⟩] [none, none, none, none, some (.pointer (some (sAddr A1 z1))), some (.slice (hdA hd3 z1) ((geti2 f3 z1).length) (hdC hd3 z1)), none, none, none, none, none] [0, 1, 6, 7, 8, 9, 29, 30, 39, 40, 67, 68, 72, 77] [pl 0 (.int .i64 w1), pl 1 (.int .i64 h1), pl 6 (.slice A1 ((List.replicate (Int.toNat (w64 (w1 * h1))) ([] : List Int)).length) c1), pl 7 (.int .i64 z1), pl 8 (.int .i64 (Int.tmod z1 w1)), pl 9 (.int .i64 (w64 (Int.tdiv z1 w1))), pl 29 (.int .i64 (((List.replicate (Int.toNat (w64 (w1 * h1))) ([] : List Int)).length : Nat) : Int)), pl 30 (.int .i64 z1), pl 39 (.agg (List.toArray (([] : List Value) ++ (arr1 (Value.int .i64) (0 : Int) 16 glob0 ++ ([] : List Value))))), pl 40 (.int .i64 z2), pl 67 (.slice A1 ((List.replicate (Int.toNat (w64 (w1 * h1))) ([] : List Int)).length) c1), pl 68 (.int .i64 z1), pl 72 (.slice (hdA hd3 z1) ((geti2 f3 z1).length) (hdC hd3 z1)), pl 77 (.int .i64 (w64 ((w64 ((w64 ((w64 (Int.tdiv z1 w1)) + (geti glob0 (z2 * 2 + 1)))) * w1)) + (w64 ((Int.tmod z1 w1) + (geti glob0 (z2 * 2)))))))] hF hS (by kernel_rfl) (by kernel_rfl) ?_ (fun a w hF hS => ?_)
                · exact obs_cons (ob_ixRn Und50 hi22 hs22 (hS.at_ 1 rfl).rdRows (hS.at_ 1 rfl).lenR (fun _ => hp5)) <| obs_cons (ob_getR Agg22 (fun _ hS => ⟨_, (hS.at_ 1 rfl).rdRows⟩) (fun _ => hb1)) <| obs_nil
                refine at_do (d := 78) (s := vS (Instr.buildSlice 22 1 #[(0, .int .i64 (w64 ((w64 ((w64 ((w64 (Int.tdiv z1 w1)) + (geti glob0 (z2 * 2 + 1)))) * w1)) + (w64 ((Int.tmod z1 w1) + (geti glob0 (z2 * 2)))))))])) (v := .slice (some ⟨w.heap.size, 0, none⟩) 1 1) (w' := w.alloc (.cells #[.int .i64 (w64 ((w64 ((w64 ((w64 (Int.tdiv z1 w1)) + (geti glob0 (z2 * 2 + 1)))) * w1)) + (w64 ((Int.tmod z1 w1) + (geti glob0 (z2 * 2))))))] 3)) hF (by kernel_rfl) (by kernel_rfl) (by kernel_rfl) (fun a hF => ?_)
                have hS : Sep w0 B (w.alloc (.cells #[.int .i64 (w64 ((w64 ((w64 ((w64 (Int.tdiv z1 w1)) + (geti glob0 (z2 * 2 + 1)))) * w1)) + (w64 ((Int.tmod z1 w1) + (geti glob0 (z2 * 2))))))] 3)) (own 3 (.slice (some (⟨w.heap.size, 0, none⟩ : Addr)) 1 1) (vI ([w64 ((w64 ((w64 ((w64 (Int.tdiv z1 w1)) + (geti glob0 (z2 * 2 + 1)))) * w1)) + (w64 ((Int.tmod z1 w1) + (geti glob0 (z2 * 2)))))] : List Int)) :: (blk g1 72 #[.int .i64 (geti glob0 (z2 * 2)), .int .i64 (geti glob0 (z2 * 2 + 1))] :: rows 22 3 (.slice A1 ((List.replicate (Int.toNat (w64 (w1 * h1))) ([] : List Int)).length) c1) hd3 f3 :: fs)) := hS.lit 3 #[.int .i64 (w64 ((w64 ((w64 ((w64 (Int.tdiv z1 w1)) + (geti glob0 (z2 * 2 + 1)))) * w1)) + (w64 ((Int.tmod z1 w1) + (geti glob0 (z2 * 2))))))] 1 rfl (by omega)
                generalize (some (⟨w.heap.size, 0, none⟩ : Addr)) = g2 at hF hS
                generalize w.alloc (.cells #[.int .i64 (w64 ((w64 ((w64 ((w64 (Int.tdiv z1 w1)) + (geti glob0 (z2 * 2 + 1)))) * w1)) + (w64 ((Int.tmod z1 w1) + (geti glob0 (z2 * 2))))))] 3) = w at hS ⊢
                have hS : Sep w0 B w (own 3 (.slice (hdA hd3 z1) ((geti2 f3 z1).length) (hdC hd3 z1)) (vI (geti2 f3 z1)) :: own 3 (.slice g2 1 1) (vI ([w64 ((w64 ((w64 ((w64 (Int.tdiv z1 w1)) + (geti glob0 (z2 * 2 + 1)))) * w1)) + (w64 ((Int.tmod z1 w1) + (geti glob0 (z2 * 2)))))] : List Int)) :: blk g1 72 #[.int .i64 (geti glob0 (z2 * 2)), .int .i64 (geti glob0 (z2 * 2 + 1))] :: rowsBut 22 3 (.slice A1 ((List.replicate (Int.toNat (w64 (w1 * h1))) ([] : List Int)).length) c1) hd3 f3 (Int.toNat z1) :: fs) := (hS.at_ 2 rfl).takeRow hb1
                obtain ⟨A2, c2, w, hrun, hS⟩ := run_app1 (P := Tryd.prog) (t := 22) (m := (geti2 f3 z1)) (ys := ([w64 ((w64 ((w64 ((w64 (Int.tdiv z1 w1)) + (geti glob0 (z2 * 2 + 1)))) * w1)) + (w64 ((Int.tmod z1 w1) + (geti glob0 (z2 * 2)))))] : List Int)) (A2 := g2) (m2 := 1) (c2 := 1) (Value.int .i64) (0 : Int) (hS.at_ 0 rfl) (hS.at_ 1 rfl).rd ((hS.at_ 1 rfl).len1) 22 Und22 hi3 hz3 hs3 (by omega) rfl (fun _ => rfl) hp6
                have hS : Sep w0 B w (own 3 (.slice A2 (((geti2 f3 z1) ++ ([w64 ((w64 ((w64 ((w64 (Int.tdiv z1 w1)) + (geti glob0 (z2 * 2 + 1)))) * w1)) + (w64 ((Int.tmod z1 w1) + (geti glob0 (z2 * 2)))))] : List Int)).length) c2) (vI ((geti2 f3 z1) ++ ([w64 ((w64 ((w64 ((w64 (Int.tdiv z1 w1)) + (geti glob0 (z2 * 2 + 1)))) * w1)) + (w64 ((Int.tmod z1 w1) + (geti glob0 (z2 * 2)))))] : List Int))) :: own 3 (.slice g2 1 1) (vI ([w64 ((w64 ((w64 ((w64 (Int.tdiv z1 w1)) + (geti glob0 (z2 * 2 + 1)))) * w1)) + (w64 ((Int.tmod z1 w1) + (geti glob0 (z2 * 2)))))] : List Int)) :: blk g1 72 #[.int .i64 (geti glob0 (z2 * 2)), .int .i64 (geti glob0 (z2 * 2 + 1))] :: rowsBut 22 3 (.slice A1 ((List.replicate (Int.toNat (w64 (w1 * h1))) ([] : List Int)).length) c1) hd3 f3 (Int.toNat z1) :: fs) := hS
                refine at_do (d := 79) hF (by kernel_rfl) (by kernel_rfl) hrun (fun a hF => ?_)
                refine at_run 1 [⟨true, [], vS (Instr.indexAt 50 (.slice A1 ((List.replicate (Int.toNat (w64 (w1 * h1))) ([] : List Int)).length) c1) (.int .i64 z1)), .pointer (some (sAddr A1 z1))⟩] [some (.pointer (some (sAddr A1 z1)))] [0, 1, 6, 7, 8, 9, 29, 30, 39, 40, 79, 80] [pl 0 (.int .i64 w1), pl 1 (.int .i64 h1), pl 6 (.slice A1 ((List.replicate (Int.toNat (w64 (w1 * h1))) ([] : List Int)).length) c1), pl 7 (.int .i64 z1), pl 8 (.int .i64 (Int.tmod z1 w1)), pl 9 (.int .i64 (w64 (Int.tdiv z1 w1))), pl 29 (.int .i64 (((List.replicate (Int.toNat (w64 (w1 * h1))) ([] : List Int)).length : Nat) : Int)), pl 30 (.int .i64 z1), pl 39 (.agg (List.toArray (([] : List Value) ++ (arr1 (Value.int .i64) (0 : Int) 16 glob0 ++ ([] : List Value))))), pl 40 (.int .i64 z2), pl 79 (.slice A2 (((geti2 f3 z1) ++ ([w64 ((w64 ((w64 ((w64 (Int.tdiv z1 w1)) + (geti glob0 (z2 * 2 + 1)))) * w1)) + (w64 ((Int.tmod z1 w1) + (geti glob0 (z2 * 2)))))] : List Int)).length) c2), pl 80 (.pointer (some (sAddr A1 z1)))] hF hS (by kernel_rfl) (by kernel_rfl) ?_ (fun a w hF hS => ?_)
                · exact obs_cons (ob_ixHn Und50 hi22 hs22 (hS.at_ 3 rfl).butRd (hS.at_ 3 rfl).butLen (fun _ => hp7)) <| obs_nil
                have hb2 := (rowb (hS.at_ 3 rfl).butLen hp7)
                have hS := hS.pickN 4 [0, 1, 2, 3] (by decide)
                have hS : Sep w0 B w (own 3 (.slice A2 (((geti2 f3 z1) ++ ([w64 ((w64 ((w64 ((w64 (Int.tdiv z1 w1)) + (geti glob0 (z2 * 2 + 1)))) * w1)) + (w64 ((Int.tmod z1 w1) + (geti glob0 (z2 * 2)))))] : List Int)).length) c2) (vI ((geti2 f3 z1) ++ ([w64 ((w64 ((w64 ((w64 (Int.tdiv z1 w1)) + (geti glob0 (z2 * 2 + 1)))) * w1)) + (w64 ((Int.tmod z1 w1) + (geti glob0 (z2 * 2)))))] : List Int))) :: own 3 (.slice g2 1 1) (vI ([w64 ((w64 ((w64 ((w64 (Int.tdiv z1 w1)) + (geti glob0 (z2 * 2 + 1)))) * w1)) + (w64 ((Int.tmod z1 w1) + (geti glob0 (z2 * 2)))))] : List Int)) :: blk g1 72 #[.int .i64 (geti glob0 (z2 * 2)), .int .i64 (geti glob0 (z2 * 2 + 1))] :: rowsBut 22 3 (.slice A1 ((List.replicate (Int.toNat (w64 (w1 * h1))) ([] : List Int)).length) c1) hd3 f3 (Int.toNat z1) :: fs) := hS
                obtain ⟨w, hrun, hS⟩ := run_storeRowN (P := Tryd.prog) (t := 22) (hS.at2 2 rfl) hi22 hs22 hb2
                refine at_skip hF (by kernel_rfl) hrun ?_
                try simp only [List.length_set] at hS
                have hS : Sep w0 B w (own 3 (.slice g2 1 1) (vI ([w64 ((w64 ((w64 ((w64 (Int.tdiv z1 w1)) + (geti glob0 (z2 * 2 + 1)))) * w1)) + (w64 ((Int.tmod z1 w1) + (geti glob0 (z2 * 2)))))] : List Int)) :: blk g1 72 #[.int .i64 (geti glob0 (z2 * 2)), .int .i64 (geti glob0 (z2 * 2 + 1))] :: rows 22 3 (.slice A1 ((List.replicate (Int.toNat (w64 (w1 * h1))) ([] : List Int)).length) c1) (hd3.set (Int.toNat z1) (A2, c2)) (f3.set (Int.toNat z1) ((geti2 f3 z1) ++ ([w64 ((w64 ((w64 ((w64 (Int.tdiv z1 w1)) + (geti glob0 (z2 * 2 + 1)))) * w1)) + (w64 ((Int.tmod z1 w1) + (geti glob0 (z2 * 2)))))] : List Int))) :: fs) := hS
                refine at_end [0, 1, 6, 7, 8, 9, 29, 30, 39, 40] [pl 0 (.int .i64 w1), pl 1 (.int .i64 h1), pl 6 (.slice A1 ((List.replicate (Int.toNat (w64 (w1 * h1))) ([] : List Int)).length) c1), pl 7 (.int .i64 z1), pl 8 (.int .i64 (Int.tmod z1 w1)), pl 9 (.int .i64 (w64 (Int.tdiv z1 w1))), pl 29 (.int .i64 (((List.replicate (Int.toNat (w64 (w1 * h1))) ([] : List Int)).length : Nat) : Int)), pl 30 (.int .i64 z1), pl 39 (.agg (List.toArray (([] : List Value) ++ (arr1 (Value.int .i64) (0 : Int) 16 glob0 ++ ([] : List Value))))), pl 40 (.int .i64 z2)] hF rfl (by kernel_rfl) (fun hF => ?_)
                refine block_n ?_
                refine then_n ?_
                have hS := hS.pickN 3 [2] (by decide)
                exact ⟨(f3.set (Int.toNat z1) ((geti2 f3 z1) ++ ([w64 ((w64 ((w64 ((w64 (Int.tdiv z1 w1)) + (geti glob0 (z2 * 2 + 1)))) * w1)) + (w64 ((Int.tmod z1 w1) + (geti glob0 (z2 * 2)))))] : List Int))), (hd3.set (Int.toNat z1) (A2, c2)), hF.weak [0, 1, 6, 7, 8, 9, 29, 30, 39, 40] (by kernel_rfl), hS, hm⟩
              · replace hm := if_f hm hb
                refine wpIn_skip ?_
                refine block_n ?_
                refine then_n ?_
                have hS := hS.pickN 2 [1] (by decide)
                exact ⟨f3, hd3, hF.weak [0, 1, 6, 7, 8, 9, 29, 30, 39, 40] (by kernel_rfl), hS, hm⟩
          · refine cond_ev (t := 41) (b := decide (z2 < 8)) hF (by kernel_rfl) (fun hb => ?_) (fun hb => ?_)
            · replace hm := if_t hm hb
              refine wpIn_skip ?_
              refine then_n ?_
              exact ⟨hF.weak [0, 1, 6, 7, 8, 9, 29, 30, 39, 40] (by kernel_rfl), hS, hm⟩
            · replace hm := if_f hm hb
              refine wpIn_exit ?_
              refine then_e (then_e (block_e (block_n (then_n ?_))))
              rw [← hφ2] at hm
              replace hm := done_b hm
              unfold tour_newField_K2 at hm
              try dsimp only at hm
              have hm : ((tour_newField_J4 z1) f3).bind φ1 = some r := hm
              exact ⟨f3, hd3, hF.weak [0, 1, 6, 29, 30] (by kernel_rfl), hS, hm⟩
      · refine cond_ev (t := 31) (b := decide (z1 < (((List.replicate (Int.toNat (w64 (w1 * h1))) ([] : List Int)).length : Nat) : Int))) hF (by kernel_rfl) (fun hb => ?_) (fun hb => ?_)
        · replace hm := if_t hm hb
          refine wpIn_skip ?_
          refine then_n ?_
          exact ⟨hF.weak [0, 1, 6, 29, 30] (by kernel_rfl), hS, hm⟩
        · replace hm := if_f hm hb
          refine wpIn_exit ?_
          refine then_e (then_e (block_e (then_n ?_)))
          rw [← hφ1] at hm
          replace hm := done_b hm
          unfold tour_newField_K1 at hm
          try dsimp only at hm
          have hm : (tour_newField_J2 f1).bind some = some r := hm
          exact ⟨f1, hd1, hF.weak [6] (by kernel_rfl), hS, hm⟩
  · refine reg [⟨true, [], vS (Builtin.min_ #[3, 3] 3 #[.int .i64 w1, .int .i64 h1]), .int .i64 (minI w1 h1)⟩, ⟨true, [(decide ((minI w1 h1) < 1), false)], vS (Builtin.max_ #[3, 3] 3 #[.int .i64 w1, .int .i64 h1]), .int .i64 (maxI w1 h1)⟩] [none, none, some (.int .i64 (minI w1 h1)), none, none, none, none, some (.int .i64 (maxI w1 h1)), none, none] [0, 1, 23] [pl 0 (.int .i64 w1), pl 1 (.int .i64 h1), pl 23 (.bool ((decide ((minI w1 h1) < 1)) || (decide ((8 : Int) < (maxI w1 h1)))))] hF hS Fol (by kernel_rfl) (by kernel_rfl) (by kernel_rfl) ?_ (fun a w hF hS => ?_)
    · exact obs_cons (ob_min rfl) <| obs_cons (ob_max rfl) <| obs_nil
    refine cond_ev (t := 23) (b := (decide ((minI w1 h1) < 1)) || (decide ((8 : Int) < (maxI w1 h1)))) hF (by kernel_rfl) (fun hb => ?_) (fun hb => ?_)
    · replace hm := if_t hm hb
      refine reg [] [] [4, 5] [pl 4 (.slice none 0 0), pl 5 (.int .i64 3)] hF hS Fol (by kernel_rfl) (by kernel_rfl) (by kernel_rfl) ?_ (fun a w hF hS => ?_)
      · exact obs_nil
      refine wpIn_ret ?_
      refine then_r ?_
      have hS : Sep w0 B w (rows 22 3 (.slice none 0 0) ([]) ([] : List (List Int)) :: fs) := hS.nilRows0 22 3
      have hl1 := (hS.at_ 0 rfl).lenR
      have hS := (hS.at_ 0 rfl).reNR hl1
      have hS : Sep w0 B w (rows 22 3 (.slice none (([] : List (List Int)).length) 0) ([]) ([] : List (List Int)) :: fs) := hS
      have hm : some (([] : List (List Int)), 3) = some r := hm
      obtain rfl := Option.some.inj hm
      exact retV (rs := [.tmp 4, .tmp 5]) (vs := [.slice none (([] : List (List Int)).length) 0, .int .i64 3]) hF rfl (rv_t (by kernel_rfl) <| rv_t (by kernel_rfl) <| rv_nil) rfl ⟨_, rfl, none, 0, ([]), rfl, hS⟩
    · replace hm := if_f hm hb
      refine wpIn_skip ?_
      refine then_n ?_
      exact ⟨hF.weak [0, 1] (by kernel_rfl), hS, hm⟩

noncomputable def tour_field_has_m  (f1 : List (List Int)) (at1 : Int) : Option Bool :=
  some ((decide ((0 : Int) ≤ at1)) && (decide (at1 < (f1.length : Int))))

set_option maxRecDepth 100000 in
set_option maxHeartbeats 4000000 in
theorem tour_field_has_w {A1 : Option Addr} {c1 : Nat} {n1 : Nat} {hd1 : List Hd} {f1 : List (List Int)} {at1 : Int} {r : Bool} {w0 w : World} {B : Nat} {fs : List HP} (hm : tour_field_has_m f1 at1 = some r) (hS : Sep w0 B w (fs)) (hr_f1 : RdRowsF w0 B fs A1 hd1 f1) (_hc_f1 : f1.length ≤ c1) (_hn_f1 : n1 = f1.length) :
    Calls Tryd.prog 29 #[.slice A1 n1 c1, .int .i64 at1] w fun e w' => e = .returned (.bool r) ∧ Sep w0 B w' (fs) := by
  obtain rfl := _hn_f1
  unfold tour_field_has_m at hm
  replace hm := start_b hm
  refine enter (l := [.slice A1 f1.length c1, .int .i64 at1]) (n := 13) Tryd.func29 rfl rfl (by simp) (fun a hF => ?_)
  refine reg [] [] [0, 1] [pl 0 (.slice A1 f1.length c1), pl 1 (.int .i64 at1)] hF hS Fol (by kernel_rfl) (by kernel_rfl) (by kernel_rfl) ?_ (fun a w hF hS => ?_)
  · exact obs_nil
  refine reg [] [] [4] [pl 4 (.bool ((decide ((0 : Int) ≤ at1)) && (decide (at1 < (f1.length : Int)))))] hF hS Fol (by kernel_rfl) (by kernel_rfl) (by kernel_rfl) ?_ (fun a w hF hS => ?_)
  · exact obs_nil
  refine wpIn_ret ?_
  have hm : some ((decide ((0 : Int) ≤ at1)) && (decide (at1 < (f1.length : Int)))) = some r := hm
  obtain rfl := Option.some.inj hm
  exact retV (rs := [.tmp 4]) (vs := [.bool ((decide ((0 : Int) ≤ at1)) && (decide (at1 < (f1.length : Int))))]) hF rfl (rv_t (by kernel_rfl) <| rv_nil) rfl ⟨rfl, hS⟩

noncomputable def tour_at_J3  (z1 : Int) (e3 : Int) : Option (St (Int × Int) Int) :=
  some (.next (e3, (w64 (z1 + 1))))

noncomputable def tour_at_J2  (places1 : List Int) (r1 : (List (List Int) × Int)) (e1 : Int) (z1 : Int) : Option (St (Int × Int) Int) :=
  asrt (0 ≤ z1 ∧ z1 < (places1.length : Int)) <| ((if (e1 == 0) then tour_field_has_m r1.1 (geti places1 z1) else some false)).bind fun r2 => if ((e1 == 0) && (!r2)) then ((tour_at_J3 z1) 5) else ((tour_at_J3 z1) e1)

noncomputable def tour_at_J1  (r1 : (List (List Int) × Int)) (e2 : Int) : Option (List (List Int) × Int) :=
  some (r1.1, e2)

noncomputable def tour_at_K1  (r1 : (List (List Int) × Int)) : Int → Option (List (List Int) × Int) :=
  fun (x : Int) => match x with | e2 => (tour_at_J1 r1) e2

noncomputable def tour_at_L1  (places1 : List Int) (r1 : (List (List Int) × Int)) : (Int × Int) → Option (St (Int × Int) Int) :=
  fun (x : (Int × Int)) => match x with | (e1, z1) => if (decide (z1 < (places1.length : Int))) then ((tour_at_J2 places1 r1 e1 z1)) else (some (.done e1))

noncomputable def tour_at_m  (w1 : Int) (h1 : Int) (places1 : List Int) : Option (List (List Int) × Int) :=
  (tour_newField_m w1 h1).bind fun r1 => (loop (tour_at_L1 places1 r1) (r1.2, 0)).bind (tour_at_K1 r1)

set_option maxRecDepth 100000 in
set_option maxHeartbeats 4000000 in
theorem tour_at_w {w1 : Int} {h1 : Int} {A1 : Option Addr} {c1 : Nat} {n1 : Nat} {places1 : List Int} {r : (List (List Int) × Int)} {w0 w : World} {B : Nat} {fs : List HP} [GLV 0 glob0 w0 B] (hm : tour_at_m w1 h1 places1 = some r) (hS : Sep w0 B w (fs)) (hr_places1 : RdF w0 B fs A1 (vI places1)) (_hc_places1 : places1.length ≤ c1) (_hn_places1 : n1 = places1.length) :
    Calls Tryd.prog 27 #[.int .i64 w1, .int .i64 h1, .slice A1 n1 c1] w fun e w' => ∃ v, e = .returned v ∧ ∃ (A3 : Option Addr) (c3 : Nat) (hd2 : List Hd), v = .tuple #[.slice A3 r.1.length c3, .int .i64 r.2] ∧ Sep w0 B w' (rows 22 3 (.slice A3 r.1.length c3) hd2 r.1 :: fs) := by
  obtain ⟨i3, hi3, hz3, hs3, hb3⟩ := info_parts Info3
  obtain rfl := _hn_places1
  unfold tour_at_m at hm
  replace hm := start_b hm
  refine enter (l := [.int .i64 w1, .int .i64 h1, .slice A1 places1.length c1]) (n := 35) Tryd.func27 rfl rfl (by simp) (fun a hF => ?_)
  refine reg [] [] [0, 1, 2] [pl 0 (.int .i64 w1), pl 1 (.int .i64 h1), pl 2 (.slice A1 places1.length c1)] hF hS Fol (by kernel_rfl) (by kernel_rfl) (by kernel_rfl) ?_ (fun a w hF hS => ?_)
  · exact obs_nil
  refine seqR ?_
  obtain ⟨r1, hr1, hm⟩ := call_b hm
  refine at_run 2 [] [] [2, 13, 14] [pl 2 (.slice A1 places1.length c1), pl 13 (.int .i64 w1), pl 14 (.int .i64 h1)] hF hS (by kernel_rfl) (by kernel_rfl) ?_ (fun a w hF hS => ?_)
  · exact obs_nil
  refine at_call (f := 28) (args := #[.int .i64 w1, .int .i64 h1]) (d := 15) hF (by kernel_rfl) (by kernel_rfl) Tryd.func28 (by kernel_rfl) rfl (tour_newField_w hr1 hS ) (fun v a w hR hF => ?_)
  clear hS
  obtain ⟨A2, c2, hd1, rfl, hS⟩ := hR
  have hS : Sep w0 B w (rows 22 3 (.slice A2 r1.1.length c2) hd1 r1.1 :: fs) := hS
  refine at_run 5 [] [] [2, 8, 9] [pl 2 (.slice A1 places1.length c1), pl 8 (.slice A2 r1.1.length c2), pl 9 (.int .i64 r1.2)] hF hS (by kernel_rfl) (by kernel_rfl) ?_ (fun a w hF hS => ?_)
  · exact obs_nil
  refine at_end [2, 8, 9] [pl 2 (.slice A1 places1.length c1), pl 8 (.slice A2 r1.1.length c2), pl 9 (.int .i64 r1.2)] hF rfl (by kernel_rfl) (fun hF => ?_)
  refine then_n ?_
  refine seq_cut (fun a w => ∃ (e2 : Int), Fr 35 [pl 8 (.slice A2 r1.1.length c2), pl 9 (.int .i64 e2)] a ∧ Sep w0 B w (rows 22 3 (.slice A2 r1.1.length c2) hd1 r1.1 :: fs) ∧ ((tour_at_J1 r1) e2).bind some = some r) ?_ ?_
  · rintro a w ⟨e2, hF, hS, hm⟩
    unfold tour_at_J1 at hm
    refine reg [] [] [6, 7] [pl 6 (.slice A2 r1.1.length c2), pl 7 (.int .i64 e2)] hF hS Fol (by kernel_rfl) (by kernel_rfl) (by kernel_rfl) ?_ (fun a w hF hS => ?_)
    · exact obs_nil
    refine wpIn_ret ?_
    have hm : some (r1.1, e2) = some r := hm
    obtain rfl := Option.some.inj hm
    exact retV (rs := [.tmp 6, .tmp 7]) (vs := [.slice A2 r1.1.length c2, .int .i64 e2]) hF rfl (rv_t (by kernel_rfl) <| rv_t (by kernel_rfl) <| rv_nil) rfl ⟨_, rfl, A2, c2, hd1, rfl, hS⟩
  · refine reg [] [] [8, 9, 18, 19, 20] [pl 8 (.slice A2 r1.1.length c2), pl 9 (.int .i64 r1.2), pl 18 (.slice A1 places1.length c1), pl 19 (.int .i64 (places1.length : Int)), pl 20 (.int .i64 0)] hF hS Fol (by kernel_rfl) (by kernel_rfl) (by kernel_rfl) ?_ (fun a w hF hS => ?_)
    · exact obs_nil
    refine wpIn_block ?_
    refine wp_loop_model (S := (Int × Int)) (R := Int) (tour_at_L1 places1 r1) (fun x => ((tour_at_K1 r1) x).bind some) r (fun (x : (Int × Int)) a w => Fr 35 [pl 8 (.slice A2 r1.1.length c2), pl 9 (.int .i64 x.1), pl 18 (.slice A1 places1.length c1), pl 19 (.int .i64 (places1.length : Int)), pl 20 (.int .i64 x.2)] a ∧ Sep w0 B w (rows 22 3 (.slice A2 r1.1.length c2) hd1 r1.1 :: fs)) (assoc_b hm) ⟨hF.weak [8, 9, 18, 19, 20] (by kernel_rfl), hS⟩ ?_
    clear hF hS hm
    rintro nn1 ⟨e1, z1⟩ a w ⟨hF, hS⟩ hm
    generalize hφ1 : stK (tour_at_L1 places1 r1) nn1 (fun x => ((tour_at_K1 r1) x).bind some) = φ1 at hm
    unfold tour_at_L1 at hm
    dsimp only at hF hS hm
    refine reg [] [] [8, 9, 18, 19, 20, 21] [pl 8 (.slice A2 r1.1.length c2), pl 9 (.int .i64 e1), pl 18 (.slice A1 places1.length c1), pl 19 (.int .i64 (places1.length : Int)), pl 20 (.int .i64 z1), pl 21 (.bool (decide (z1 < (places1.length : Int))))] hF hS Fol (by kernel_rfl) (by kernel_rfl) (by kernel_rfl) ?_ (fun a w hF hS => ?_)
    · exact obs_nil
    refine seq_cut (fun a w => Fr 35 [pl 8 (.slice A2 r1.1.length c2), pl 9 (.int .i64 e1), pl 18 (.slice A1 places1.length c1), pl 19 (.int .i64 (places1.length : Int)), pl 20 (.int .i64 z1)] a ∧ Sep w0 B w (rows 22 3 (.slice A2 r1.1.length c2) hd1 r1.1 :: fs) ∧ ((tour_at_J2 places1 r1 e1 z1)).bind φ1 = some r) ?_ ?_
    · rintro a w ⟨hF, hS, hm⟩
      unfold tour_at_J2 at hm
      refine seq_cut (fun a w => ∃ (e3 : Int), Fr 35 [pl 8 (.slice A2 r1.1.length c2), pl 9 (.int .i64 e3), pl 18 (.slice A1 places1.length c1), pl 19 (.int .i64 (places1.length : Int)), pl 20 (.int .i64 z1)] a ∧ Sep w0 B w (rows 22 3 (.slice A2 r1.1.length c2) hd1 r1.1 :: fs) ∧ ((tour_at_J3 z1) e3).bind φ1 = some r) ?_ ?_
      · rintro a w ⟨e3, hF, hS, hm⟩
        unfold tour_at_J3 at hm
        refine reg1 [] [] [8, 9, 18, 19, 20] [pl 8 (.slice A2 r1.1.length c2), pl 9 (.int .i64 e3), pl 18 (.slice A1 places1.length c1), pl 19 (.int .i64 (places1.length : Int)), pl 20 (.int .i64 (w64 (z1 + 1)))] hF hS Fol (by kernel_rfl) (by kernel_rfl) (by kernel_rfl) ?_ (fun a w hF hS => ?_)
        · exact obs_nil
        refine then_n ?_
        rw [← hφ1] at hm
        exact ⟨(e3, (w64 (z1 + 1))), ⟨hF.weak [8, 9, 18, 19, 20] (by kernel_rfl), hS⟩, hm⟩
      · refine wpIn_block ?_
        obtain ⟨hp1, hm⟩ := asrt_b hm
        refine reg [⟨true, [], vS (Instr.indexAt 22 (.slice A1 places1.length c1) (.int .i64 z1)), .pointer (some (sAddr A1 z1))⟩, ⟨false, [], vS (Instr.loadAt 3 (.pointer (some (sAddr A1 z1)))), .int .i64 (geti places1 z1)⟩] [some (.pointer (some (sAddr A1 z1))), some (.int .i64 (geti places1 z1)), none] [8, 9, 11, 18, 19, 20] [pl 8 (.slice A2 r1.1.length c2), pl 9 (.int .i64 e1), pl 11 (.int .i64 (geti places1 z1)), pl 18 (.slice A1 places1.length c1), pl 19 (.int .i64 (places1.length : Int)), pl 20 (.int .i64 z1)] hF hS Fol (by kernel_rfl) (by kernel_rfl) (by kernel_rfl) ?_ (fun a w hF hS => ?_)
        · exact obs_cons (ob_ix1 (f := (Value.int .i64)) (m := places1) Und22 hi3 hs3 (hr_places1 _ (hS.dropN 1)) rfl (fun _ => hp1)) <| obs_cons (ob_get1 (n := places1.length) (m := places1) (Value.int .i64) (0 : Int) Agg3 (fun _ hS => ⟨_, (hr_places1 _ (hS.dropN 1))⟩) (fun _ hS => rfl) (fun _ => hp1)) <| obs_nil
        obtain ⟨r2, hr2, hm⟩ := call_b hm
        refine reg [⟨false, [((e1 == 0), true)], callFunc 29 #[.slice A2 r1.1.length c2, .int .i64 (geti places1 z1)], .bool r2⟩] [none, none, none, none, none, some (.bool r2), none, none] [8, 9, 18, 19, 20, 31] [pl 8 (.slice A2 r1.1.length c2), pl 9 (.int .i64 e1), pl 18 (.slice A1 places1.length c1), pl 19 (.int .i64 (places1.length : Int)), pl 20 (.int .i64 z1), pl 31 (.bool ((e1 == 0) && (!r2)))] hF hS Fol (by kernel_rfl) (by kernel_rfl) (by kernel_rfl) ?_ (fun a w hF hS => ?_)
        · exact obs_cons (ob_call Tryd.func29 (by kernel_rfl) rfl (fun hy _ hS => tour_field_has_w (ite_some hr2 (by rw [show (e1 == 0) = true from hy ((e1 == 0), true) (by simp)]; try rfl)) hS (fun _ hS => (hS.at_ 0 rfl).rdRows) (hS.at_ 0 rfl).rowsLen.2 (hS.at_ 0 rfl).lenR)) <| obs_nil
        refine cond_ev (t := 31) (b := (e1 == 0) && (!r2)) hF (by kernel_rfl) (fun hb => ?_) (fun hb => ?_)
        · replace hm := if_t hm hb
          refine reg1 [] [] [8, 9, 18, 19, 20] [pl 8 (.slice A2 r1.1.length c2), pl 9 (.int .i64 5), pl 18 (.slice A1 places1.length c1), pl 19 (.int .i64 (places1.length : Int)), pl 20 (.int .i64 z1)] hF hS Fol (by kernel_rfl) (by kernel_rfl) (by kernel_rfl) ?_ (fun a w hF hS => ?_)
          · exact obs_nil
          refine block_n ?_
          refine then_n ?_
          exact ⟨5, hF.weak [8, 9, 18, 19, 20] (by kernel_rfl), hS, hm⟩
        · replace hm := if_f hm hb
          refine wpIn_skip ?_
          refine block_n ?_
          refine then_n ?_
          exact ⟨e1, hF.weak [8, 9, 18, 19, 20] (by kernel_rfl), hS, hm⟩
    · refine cond_ev (t := 21) (b := decide (z1 < (places1.length : Int))) hF (by kernel_rfl) (fun hb => ?_) (fun hb => ?_)
      · replace hm := if_t hm hb
        refine wpIn_skip ?_
        refine then_n ?_
        exact ⟨hF.weak [8, 9, 18, 19, 20] (by kernel_rfl), hS, hm⟩
      · replace hm := if_f hm hb
        refine wpIn_exit ?_
        refine then_e (then_e (block_e (then_n ?_)))
        rw [← hφ1] at hm
        replace hm := done_b hm
        unfold tour_at_K1 at hm
        try dsimp only at hm
        have hm : ((tour_at_J1 r1) e1).bind some = some r := hm
        exact ⟨e1, hF.weak [8, 9] (by kernel_rfl), hS, hm⟩

noncomputable def tour_Next_J1  (place1 : Int) (r1 : (List (List Int) × Int)) : Option (List Int × Int) :=
  asrt (0 ≤ place1 ∧ place1 < (r1.1.length : Int)) <| some ((geti2 r1.1 place1), 0)

noncomputable def tour_Next_m  (w1 : Int) (h1 : Int) (place1 : Int) : Option (List Int × Int) :=
  (tour_at_m w1 h1 ([place1] : List Int)).bind fun r1 => if (r1.2 != 0) then (some (([] : List Int), r1.2)) else ((tour_Next_J1 place1 r1))

set_option maxRecDepth 100000 in
set_option maxHeartbeats 4000000 in
theorem tour_Next_w {w1 : Int} {h1 : Int} {place1 : Int} {r : (List Int × Int)} {w0 w : World} {B : Nat} {fs : List HP} [GLV 0 glob0 w0 B] (hm : tour_Next_m w1 h1 place1 = some r) (hS : Sep w0 B w (fs)) :
    Calls Tryd.prog 6 #[.int .i64 w1, .int .i64 h1, .int .i64 place1] w fun e w' => ∃ v, e = .returned v ∧ ∃ (A2 : Option Addr) (c2 : Nat), v = .tuple #[.slice A2 r.1.length c2, .int .i64 r.2] ∧ Sep w0 B w' (own 3 (.slice A2 r.1.length c2) (vI r.1) :: fs) := by
  obtain ⟨i3, hi3, hz3, hs3, hb3⟩ := info_parts Info3
  obtain ⟨i22, hi22, hz22, hs22, hb22⟩ := info_parts Info22
  unfold tour_Next_m at hm
  replace hm := start_b hm
  refine enter (l := [.int .i64 w1, .int .i64 h1, .int .i64 place1]) (n := 25) Tryd.func6 rfl rfl (by simp) (fun a hF => ?_)
  refine reg [] [] [0, 1, 2] [pl 0 (.int .i64 w1), pl 1 (.int .i64 h1), pl 2 (.int .i64 place1)] hF hS Fol (by kernel_rfl) (by kernel_rfl) (by kernel_rfl) ?_ (fun a w hF hS => ?_)
  · exact obs_nil
  refine seqR ?_
  obtain ⟨r1, hr1, hm⟩ := call_b hm
  refine at_run 3 [] [] [2, 11, 12, 13] [pl 2 (.int .i64 place1), pl 11 (.int .i64 w1), pl 12 (.int .i64 h1), pl 13 (.int .i64 place1)] hF hS (by kernel_rfl) (by kernel_rfl) ?_ (fun a w hF hS => ?_)
  · exact obs_nil
  refine at_do (d := 14) (s := vS (Instr.buildSlice 22 1 #[(0, .int .i64 place1)])) (v := .slice (some ⟨w.heap.size, 0, none⟩) 1 1) (w' := w.alloc (.cells #[.int .i64 place1] 3)) hF (by kernel_rfl) (by kernel_rfl) (by kernel_rfl) (fun a hF => ?_)
  have hS : Sep w0 B (w.alloc (.cells #[.int .i64 place1] 3)) (own 3 (.slice (some (⟨w.heap.size, 0, none⟩ : Addr)) 1 1) (vI ([place1] : List Int)) :: (fs)) := hS.lit 3 #[.int .i64 place1] 1 rfl (by omega)
  generalize (some (⟨w.heap.size, 0, none⟩ : Addr)) = g1 at hF hS
  generalize w.alloc (.cells #[.int .i64 place1] 3) = w at hS ⊢
  refine at_call (f := 27) (args := #[.int .i64 w1, .int .i64 h1, .slice g1 1 1]) (d := 15) hF (by kernel_rfl) (by kernel_rfl) Tryd.func27 (by kernel_rfl) rfl (tour_at_w hr1 hS (fun _ hS => (hS.at_ 0 rfl).rd) ((hS.at_ 0 rfl).cap1) ((hS.at_ 0 rfl).len1)) (fun v a w hR hF => ?_)
  clear hS
  obtain ⟨A1, c1, hd1, rfl, hS⟩ := hR
  have hS : Sep w0 B w (rows 22 3 (.slice A1 r1.1.length c1) hd1 r1.1 :: own 3 (.slice g1 1 1) (vI ([place1] : List Int)) :: fs) := hS
  refine at_run 5 [] [] [2, 8, 9] [pl 2 (.int .i64 place1), pl 8 (.slice A1 r1.1.length c1), pl 9 (.int .i64 r1.2)] hF hS (by kernel_rfl) (by kernel_rfl) ?_ (fun a w hF hS => ?_)
  · exact obs_nil
  refine at_end [2, 8, 9] [pl 2 (.int .i64 place1), pl 8 (.slice A1 r1.1.length c1), pl 9 (.int .i64 r1.2)] hF rfl (by kernel_rfl) (fun hF => ?_)
  refine then_n ?_
  refine seq_cut (fun a w => Fr 25 [pl 2 (.int .i64 place1), pl 8 (.slice A1 r1.1.length c1)] a ∧ Sep w0 B w (rows 22 3 (.slice A1 r1.1.length c1) hd1 r1.1 :: fs) ∧ ((tour_Next_J1 place1 r1)).bind some = some r) ?_ ?_
  · rintro a w ⟨hF, hS, hm⟩
    unfold tour_Next_J1 at hm
    obtain ⟨hp1, hm⟩ := asrt_b hm
    have hb1 := rowb (n := r1.1.length) (hS.at_ 0 rfl).lenR hp1
    refine reg [⟨true, [], vS (Instr.indexAt 50 (.slice A1 r1.1.length c1) (.int .i64 place1)), .pointer (some (sAddr A1 place1))⟩, ⟨false, [], vS (Instr.loadAt 22 (.pointer (some (sAddr A1 place1)))), .slice (hdA hd1 place1) ((geti2 r1.1 place1).length) (hdC hd1 place1)⟩] [none, none, some (.pointer (some (sAddr A1 place1))), some (.slice (hdA hd1 place1) ((geti2 r1.1 place1).length) (hdC hd1 place1)), none, none] [6, 7] [pl 6 (.slice (hdA hd1 place1) ((geti2 r1.1 place1).length) (hdC hd1 place1)), pl 7 (.int .i64 0)] hF hS Fol (by kernel_rfl) (by kernel_rfl) (by kernel_rfl) ?_ (fun a w hF hS => ?_)
    · exact obs_cons (ob_ixRn Und50 hi22 hs22 (hS.at_ 0 rfl).rdRows (hS.at_ 0 rfl).lenR (fun _ => hp1)) <| obs_cons (ob_getR Agg22 (fun _ hS => ⟨_, (hS.at_ 0 rfl).rdRows⟩) (fun _ => hb1)) <| obs_nil
    refine wpIn_ret ?_
    have hS : Sep w0 B w (own 3 (.slice (hdA hd1 place1) ((geti2 r1.1 place1).length) (hdC hd1 place1)) (vI (geti2 r1.1 place1)) :: rowsBut 22 3 (.slice A1 r1.1.length c1) hd1 r1.1 (Int.toNat place1) :: fs) := (hS.at_ 0 rfl).takeRow hb1
    have hS := hS.pickN 2 [0] (by decide)
    have hm : some ((geti2 r1.1 place1), 0) = some r := hm
    obtain rfl := Option.some.inj hm
    exact retV (rs := [.tmp 6, .tmp 7]) (vs := [.slice (hdA hd1 place1) ((geti2 r1.1 place1).length) (hdC hd1 place1), .int .i64 0]) hF rfl (rv_t (by kernel_rfl) <| rv_t (by kernel_rfl) <| rv_nil) rfl ⟨_, rfl, (hdA hd1 place1), (hdC hd1 place1), rfl, hS⟩
  · refine reg [] [] [2, 8, 9, 19] [pl 2 (.int .i64 place1), pl 8 (.slice A1 r1.1.length c1), pl 9 (.int .i64 r1.2), pl 19 (.bool (r1.2 != 0))] hF hS Fol (by kernel_rfl) (by kernel_rfl) (by kernel_rfl) ?_ (fun a w hF hS => ?_)
    · exact obs_nil
    refine cond_ev (t := 19) (b := (r1.2 != 0)) hF (by kernel_rfl) (fun hb => ?_) (fun hb => ?_)
    · replace hm := if_t hm hb
      refine reg [] [] [6, 7] [pl 6 (.slice none 0 0), pl 7 (.int .i64 r1.2)] hF hS Fol (by kernel_rfl) (by kernel_rfl) (by kernel_rfl) ?_ (fun a w hF hS => ?_)
      · exact obs_nil
      refine wpIn_ret ?_
      refine then_r ?_
      have hS : Sep w0 B w (own 3 (.slice none 0 0) (vI ([] : List Int)) :: rows 22 3 (.slice A1 r1.1.length c1) hd1 r1.1 :: own 3 (.slice g1 1 1) (vI ([place1] : List Int)) :: fs) := hS.nil 3
      have hl1 := (hS.at_ 0 rfl).len1
      have hS := (hS.at_ 0 rfl).reN hl1
      have hS : Sep w0 B w (own 3 (.slice none (([] : List Int).length) 0) (vI ([] : List Int)) :: rows 22 3 (.slice A1 r1.1.length c1) hd1 r1.1 :: own 3 (.slice g1 1 1) (vI ([place1] : List Int)) :: fs) := hS
      have hS := hS.pickN 3 [0] (by decide)
      have hm : some (([] : List Int), r1.2) = some r := hm
      obtain rfl := Option.some.inj hm
      exact retV (rs := [.tmp 6, .tmp 7]) (vs := [.slice none (([] : List Int).length) 0, .int .i64 r1.2]) hF rfl (rv_t (by kernel_rfl) <| rv_t (by kernel_rfl) <| rv_nil) rfl ⟨_, rfl, none, 0, rfl, hS⟩
    · replace hm := if_f hm hb
      refine wpIn_skip ?_
      refine then_n ?_
      have hS := hS.pickN 2 [0] (by decide)
      exact ⟨hF.weak [2, 8] (by kernel_rfl), hS, hm⟩

noncomputable def gameroomlaw_ints_m  (l1 : List Int) : Option (List Int) :=
  asrt ((0 : Int) + (l1.length : Int) ≤ bigN) <| some ([] ++ l1)

set_option maxRecDepth 100000 in
set_option maxHeartbeats 4000000 in
theorem gameroomlaw_ints_w {A1 : Option Addr} {c1 : Nat} {n1 : Nat} {l1 : List Int} {r : (List Int)} {w0 w : World} {B : Nat} {fs : List HP} (hm : gameroomlaw_ints_m l1 = some r) (hS : Sep w0 B w (fs)) (hr_l1 : RdF w0 B fs A1 (vI l1)) (_hc_l1 : l1.length ≤ c1) (_hn_l1 : n1 = l1.length) :
    Calls Tryd.prog 8 #[.slice A1 n1 c1] w fun e w' => ∃ v, e = .returned v ∧ ∃ (A3 : Option Addr) (c3 : Nat), v = .slice A3 r.length c3 ∧ Sep w0 B w' (own 3 (.slice A3 r.length c3) (vI r) :: fs) := by
  obtain ⟨i3, hi3, hz3, hs3, hb3⟩ := info_parts Info3
  obtain rfl := _hn_l1
  unfold gameroomlaw_ints_m at hm
  replace hm := start_b hm
  refine enter (l := [.slice A1 l1.length c1]) (n := 5) Tryd.func8 rfl rfl (by simp) (fun a hF => ?_)
  refine reg [] [] [0] [pl 0 (.slice A1 l1.length c1)] hF hS Fol (by kernel_rfl) (by kernel_rfl) (by kernel_rfl) ?_ (fun a w hF hS => ?_)
  · exact obs_nil
  refine seqR ?_
  obtain ⟨hp1, hm⟩ := asrt_b hm
  refine at_run 1 [] [] [3] [pl 3 (.slice A1 l1.length c1)] hF hS (by kernel_rfl) (by kernel_rfl) ?_ (fun a w hF hS => ?_)
  · exact obs_nil
  have hS : Sep w0 B w (own 3 (.slice none 0 0) (vI ([] : List Int)) :: fs) := hS.nil 3
  obtain ⟨A2, c2, w, hrun, hS⟩ := run_app1 (P := Tryd.prog) (t := 22) (m := ([] : List Int)) (ys := l1) (A2 := A1) (m2 := l1.length) (c2 := c1) (Value.int .i64) (0 : Int) (hS.at_ 0 rfl) (hr_l1 _ (hS.dropN 1)) rfl 22 Und22 hi3 hz3 hs3 (by omega) rfl (fun _ => rfl) hp1
  have hS : Sep w0 B w (own 3 (.slice A2 (([] ++ l1).length) c2) (vI ([] ++ l1)) :: fs) := hS
  refine at_do (d := 4) hF (by kernel_rfl) (by kernel_rfl) hrun (fun a hF => ?_)
  refine at_run 1 [] [] [2] [pl 2 (.slice A2 (([] ++ l1).length) c2)] hF hS (by kernel_rfl) (by kernel_rfl) ?_ (fun a w hF hS => ?_)
  · exact obs_nil
  refine at_end [2] [pl 2 (.slice A2 (([] ++ l1).length) c2)] hF rfl (by kernel_rfl) (fun hF => ?_)
  refine then_n ?_
  refine wpIn_ret ?_
  have hm : some ([] ++ l1) = some r := hm
  obtain rfl := Option.some.inj hm
  exact retV (rs := [.tmp 2]) (vs := [.slice A2 (([] ++ l1).length) c2]) hF rfl (rv_t (by kernel_rfl) <| rv_nil) rfl ⟨_, rfl, A2, c2, rfl, hS⟩

noncomputable def slices_Index_J3  (z1 : Int) : Option (St Int (Fl Unit Int)) :=
  some (.next (w64 (z1 + 1)))

noncomputable def slices_Index_J2  (s1 : List Int) (v1 : Int) (z1 : Int) : Option (St Int (Fl Unit Int)) :=
  asrt (0 ≤ z1 ∧ z1 < (s1.length : Int)) <| if (v1 == (geti s1 z1)) then (some (.done (.ret z1))) else ((slices_Index_J3 z1))

noncomputable def slices_Index_J1  : Option Int :=
  some (-1)

noncomputable def slices_Index_K1  : (Fl Unit Int) → Option Int :=
  fun (x : (Fl Unit Int)) => match x with | .go _ => slices_Index_J1 | .ret x => some x

noncomputable def slices_Index_L1  (s1 : List Int) (v1 : Int) : Int → Option (St Int (Fl Unit Int)) :=
  fun (x : Int) => match x with | z1 => if (decide (z1 < (s1.length : Int))) then ((slices_Index_J2 s1 v1 z1)) else (some (.done (.go ())))

noncomputable def slices_Index_m  (s1 : List Int) (v1 : Int) : Option Int :=
  (loop (slices_Index_L1 s1 v1) 0).bind slices_Index_K1

set_option maxRecDepth 100000 in
set_option maxHeartbeats 4000000 in
theorem slices_Index_w {A1 : Option Addr} {c1 : Nat} {n1 : Nat} {s1 : List Int} {v1 : Int} {r : Int} {w0 w : World} {B : Nat} {fs : List HP} (hm : slices_Index_m s1 v1 = some r) (hS : Sep w0 B w (fs)) (hr_s1 : RdF w0 B fs A1 (vI s1)) (_hc_s1 : s1.length ≤ c1) (_hn_s1 : n1 = s1.length) :
    Calls Tryd.prog 46 #[.slice A1 n1 c1, .int .i64 v1] w fun e w' => e = .returned (.int .i64 r) ∧ Sep w0 B w' (fs) := by
  obtain ⟨i3, hi3, hz3, hs3, hb3⟩ := info_parts Info3
  obtain rfl := _hn_s1
  unfold slices_Index_m at hm
  replace hm := start_b hm
  refine enter (l := [.slice A1 s1.length c1, .int .i64 v1]) (n := 19) Tryd.func46 rfl rfl (by simp) (fun a hF => ?_)
  refine reg [] [] [0, 1] [pl 0 (.slice A1 s1.length c1), pl 1 (.int .i64 v1)] hF hS Fol (by kernel_rfl) (by kernel_rfl) (by kernel_rfl) ?_ (fun a w hF hS => ?_)
  · exact obs_nil
  refine seq_cut (fun a w => Fr 19 [] a ∧ Sep w0 B w (fs) ∧ (slices_Index_J1).bind some = some r) ?_ ?_
  · rintro a w ⟨hF, hS, hm⟩
    unfold slices_Index_J1 at hm
    refine reg [] [] [4] [pl 4 (.int .i64 (-1))] hF hS Fol (by kernel_rfl) (by kernel_rfl) (by kernel_rfl) ?_ (fun a w hF hS => ?_)
    · exact obs_nil
    refine wpIn_ret ?_
    have hm : some (-1) = some r := hm
    obtain rfl := Option.some.inj hm
    exact retV (rs := [.tmp 4]) (vs := [.int .i64 (-1)]) hF rfl (rv_t (by kernel_rfl) <| rv_nil) rfl ⟨rfl, hS⟩
  · refine reg [] [] [0, 1, 7, 8] [pl 0 (.slice A1 s1.length c1), pl 1 (.int .i64 v1), pl 7 (.int .i64 (s1.length : Int)), pl 8 (.int .i64 0)] hF hS Fol (by kernel_rfl) (by kernel_rfl) (by kernel_rfl) ?_ (fun a w hF hS => ?_)
    · exact obs_nil
    refine wpIn_block ?_
    refine wp_loop_model (S := Int) (R := (Fl Unit Int)) (slices_Index_L1 s1 v1) (fun x => (slices_Index_K1 x).bind some) r (fun (x : Int) a w => Fr 19 [pl 0 (.slice A1 s1.length c1), pl 1 (.int .i64 v1), pl 7 (.int .i64 (s1.length : Int)), pl 8 (.int .i64 x)] a ∧ Sep w0 B w (fs)) (assoc_b hm) ⟨hF.weak [0, 1, 7, 8] (by kernel_rfl), hS⟩ ?_
    clear hF hS hm
    rintro nn1 z1 a w ⟨hF, hS⟩ hm
    generalize hφ1 : stK (slices_Index_L1 s1 v1) nn1 (fun x => (slices_Index_K1 x).bind some) = φ1 at hm
    unfold slices_Index_L1 at hm
    dsimp only at hm
    refine reg [] [] [0, 1, 7, 8, 9] [pl 0 (.slice A1 s1.length c1), pl 1 (.int .i64 v1), pl 7 (.int .i64 (s1.length : Int)), pl 8 (.int .i64 z1), pl 9 (.bool (decide (z1 < (s1.length : Int))))] hF hS Fol (by kernel_rfl) (by kernel_rfl) (by kernel_rfl) ?_ (fun a w hF hS => ?_)
    · exact obs_nil
    refine seq_cut (fun a w => Fr 19 [pl 0 (.slice A1 s1.length c1), pl 1 (.int .i64 v1), pl 7 (.int .i64 (s1.length : Int)), pl 8 (.int .i64 z1)] a ∧ Sep w0 B w (fs) ∧ ((slices_Index_J2 s1 v1 z1)).bind φ1 = some r) ?_ ?_
    · rintro a w ⟨hF, hS, hm⟩
      unfold slices_Index_J2 at hm
      refine seq_cut (fun a w => Fr 19 [pl 0 (.slice A1 s1.length c1), pl 1 (.int .i64 v1), pl 7 (.int .i64 (s1.length : Int)), pl 8 (.int .i64 z1)] a ∧ Sep w0 B w (fs) ∧ ((slices_Index_J3 z1)).bind φ1 = some r) ?_ ?_
      · rintro a w ⟨hF, hS, hm⟩
        unfold slices_Index_J3 at hm
        refine reg1 [] [] [0, 1, 7, 8] [pl 0 (.slice A1 s1.length c1), pl 1 (.int .i64 v1), pl 7 (.int .i64 (s1.length : Int)), pl 8 (.int .i64 (w64 (z1 + 1)))] hF hS Fol (by kernel_rfl) (by kernel_rfl) (by kernel_rfl) ?_ (fun a w hF hS => ?_)
        · exact obs_nil
        refine then_n ?_
        rw [← hφ1] at hm
        exact ⟨(w64 (z1 + 1)), ⟨hF.weak [0, 1, 7, 8] (by kernel_rfl), hS⟩, hm⟩
      · refine wpIn_block ?_
        refine reg [] [] [0, 1, 5, 7, 8] [pl 0 (.slice A1 s1.length c1), pl 1 (.int .i64 v1), pl 5 (.int .i64 z1), pl 7 (.int .i64 (s1.length : Int)), pl 8 (.int .i64 z1)] hF hS Fol (by kernel_rfl) (by kernel_rfl) (by kernel_rfl) ?_ (fun a w hF hS => ?_)
        · exact obs_nil
        obtain ⟨hp1, hm⟩ := asrt_b hm
        refine reg [⟨true, [], vS (Instr.indexAt 22 (.slice A1 s1.length c1) (.int .i64 z1)), .pointer (some (sAddr A1 z1))⟩, ⟨false, [], vS (Instr.loadAt 3 (.pointer (some (sAddr A1 z1)))), .int .i64 (geti s1 z1)⟩] [none, none, none, some (.pointer (some (sAddr A1 z1))), some (.int .i64 (geti s1 z1)), none] [0, 1, 5, 7, 8, 16] [pl 0 (.slice A1 s1.length c1), pl 1 (.int .i64 v1), pl 5 (.int .i64 z1), pl 7 (.int .i64 (s1.length : Int)), pl 8 (.int .i64 z1), pl 16 (.bool (v1 == (geti s1 z1)))] hF hS Fol (by kernel_rfl) (by kernel_rfl) (by kernel_rfl) ?_ (fun a w hF hS => ?_)
        · exact obs_cons (ob_ix1 (f := (Value.int .i64)) (m := s1) Und22 hi3 hs3 (hr_s1 _ (hS.dropN 0)) rfl (fun _ => hp1)) <| obs_cons (ob_get1 (n := s1.length) (m := s1) (Value.int .i64) (0 : Int) Agg3 (fun _ hS => ⟨_, (hr_s1 _ (hS.dropN 0))⟩) (fun _ hS => rfl) (fun _ => hp1)) <| obs_nil
        refine cond_ev (t := 16) (b := (v1 == (geti s1 z1))) hF (by kernel_rfl) (fun hb => ?_) (fun hb => ?_)
        · replace hm := if_t hm hb
          refine reg [] [] [4] [pl 4 (.int .i64 z1)] hF hS Fol (by kernel_rfl) (by kernel_rfl) (by kernel_rfl) ?_ (fun a w hF hS => ?_)
          · exact obs_nil
          refine wpIn_ret ?_
          refine block_r (then_r (then_r (block_r (then_r ?_))))
          rw [← hφ1] at hm
          replace hm := done_b hm
          unfold slices_Index_K1 at hm
          try dsimp only at hm
          have hm : some z1 = some r := hm
          obtain rfl := Option.some.inj hm
          exact retV (rs := [.tmp 4]) (vs := [.int .i64 z1]) hF rfl (rv_t (by kernel_rfl) <| rv_nil) rfl ⟨rfl, hS⟩
        · replace hm := if_f hm hb
          refine wpIn_skip ?_
          refine block_n ?_
          refine then_n ?_
          exact ⟨hF.weak [0, 1, 7, 8] (by kernel_rfl), hS, hm⟩
    · refine cond_ev (t := 9) (b := decide (z1 < (s1.length : Int))) hF (by kernel_rfl) (fun hb => ?_) (fun hb => ?_)
      · replace hm := if_t hm hb
        refine wpIn_skip ?_
        refine then_n ?_
        exact ⟨hF.weak [0, 1, 7, 8] (by kernel_rfl), hS, hm⟩
      · replace hm := if_f hm hb
        refine wpIn_exit ?_
        refine then_e (then_e (block_e (then_n ?_)))
        rw [← hφ1] at hm
        replace hm := done_b hm
        unfold slices_Index_K1 at hm
        try dsimp only at hm
        have hm : (slices_Index_J1).bind some = some r := hm
        exact ⟨hF.weak [] (by kernel_rfl), hS, hm⟩

noncomputable def slices_Contains_m  (s1 : List Int) (v1 : Int) : Option Bool :=
  (slices_Index_m s1 v1).bind fun r1 => some (decide ((0 : Int) ≤ r1))

set_option maxRecDepth 100000 in
set_option maxHeartbeats 4000000 in
theorem slices_Contains_w {A1 : Option Addr} {c1 : Nat} {n1 : Nat} {s1 : List Int} {v1 : Int} {r : Bool} {w0 w : World} {B : Nat} {fs : List HP} (hm : slices_Contains_m s1 v1 = some r) (hS : Sep w0 B w (fs)) (hr_s1 : RdF w0 B fs A1 (vI s1)) (_hc_s1 : s1.length ≤ c1) (_hn_s1 : n1 = s1.length) :
    Calls Tryd.prog 30 #[.slice A1 n1 c1, .int .i64 v1] w fun e w' => e = .returned (.bool r) ∧ Sep w0 B w' (fs) := by
  obtain ⟨i3, hi3, hz3, hs3, hb3⟩ := info_parts Info3
  obtain rfl := _hn_s1
  unfold slices_Contains_m at hm
  replace hm := start_b hm
  refine enter (l := [.slice A1 s1.length c1, .int .i64 v1]) (n := 9) Tryd.func30 rfl rfl (by simp) (fun a hF => ?_)
  refine reg [] [] [0, 1] [pl 0 (.slice A1 s1.length c1), pl 1 (.int .i64 v1)] hF hS Fol (by kernel_rfl) (by kernel_rfl) (by kernel_rfl) ?_ (fun a w hF hS => ?_)
  · exact obs_nil
  obtain ⟨r1, hr1, hm⟩ := call_b hm
  refine reg [⟨false, [], callFunc 46 #[.slice A1 s1.length c1, .int .i64 v1], .int .i64 r1⟩] [none, none, some (.int .i64 r1), none, none] [4] [pl 4 (.bool (decide ((0 : Int) ≤ r1)))] hF hS Fol (by kernel_rfl) (by kernel_rfl) (by kernel_rfl) ?_ (fun a w hF hS => ?_)
  · exact obs_cons (ob_call Tryd.func46 (by kernel_rfl) rfl (fun _ _ hS => slices_Index_w hr1 hS (fun _ hS => (hr_s1 _ (hS.dropN 0))) _hc_s1 rfl)) <| obs_nil
  refine wpIn_ret ?_
  have hm : some (decide ((0 : Int) ≤ r1)) = some r := hm
  obtain rfl := Option.some.inj hm
  exact retV (rs := [.tmp 4]) (vs := [.bool (decide ((0 : Int) ≤ r1))]) hF rfl (rv_t (by kernel_rfl) <| rv_nil) rfl ⟨rfl, hS⟩

noncomputable def tour_Is_J5  (l1 : List Int) (seen1 : List Bool) (z1 : Int) : Option (St (List Bool × Int) (Fl Unit (Int × Int))) :=
  some (.next ((seen1.set (Int.toNat (geti l1 z1)) true), (w64 (z1 + 1))))

noncomputable def tour_Is_J6  (l1 : List Int) (r1 : (List (List Int) × Int)) (seen1 : List Bool) (z1 : Int) : Option (St (List Bool × Int) (Fl Unit (Int × Int))) :=
  asrt (0 ≤ (geti l1 z1) ∧ (geti l1 z1) < (((Int.toNat (r1.1.length : Int)) : Nat) : Int)) <| (tour_Is_J5 l1 seen1 z1)

noncomputable def tour_Is_J4  (l1 : List Int) (r1 : (List (List Int) × Int)) (seen1 : List Bool) (z1 : Int) : Option (St (List Bool × Int) (Fl Unit (Int × Int))) :=
  asrt (0 ≤ z1 ∧ z1 < (l1.length : Int)) <| (tour_field_has_m r1.1 (geti l1 z1)).bind fun r2 => asrt ((!r2) = false → 0 ≤ (geti l1 z1) ∧ (geti l1 z1) < (((Int.toNat (r1.1.length : Int)) : Nat) : Int)) <| asrt ((decide ((0 : Int) < z1)) = true → ((!r2) || (getb seen1 (geti l1 z1))) = false → 0 ≤ (w64 (z1 - 1)) ∧ (w64 (z1 - 1)) < (l1.length : Int)) <| asrt ((decide ((0 : Int) < z1)) = true → ((!r2) || (getb seen1 (geti l1 z1))) = false → 0 ≤ (geti l1 (w64 (z1 - 1))) ∧ (geti l1 (w64 (z1 - 1))) < (r1.1.length : Int)) <| ((if (decide ((0 : Int) < z1)) && (!((!r2) || (getb seen1 (geti l1 z1)))) then slices_Contains_m (geti2 r1.1 (geti l1 (w64 (z1 - 1)))) (geti l1 z1) else some false)).bind fun r3 => if (((!r2) || (getb seen1 (geti l1 z1))) || ((decide ((0 : Int) < z1)) && (!r3))) then (some (.done (.ret (0, 0)))) else ((tour_Is_J6 l1 r1 seen1 z1))

noncomputable def tour_Is_J7  : Option (Int × Int) :=
  some (2, 0)

noncomputable def tour_Is_J3  (l1 : List Int) (r1 : (List (List Int) × Int)) : Option (Int × Int) :=
  if (decide ((l1.length : Int) < (r1.1.length : Int))) then (some (1, 0)) else (asrt ((decide ((1 : Int) < (l1.length : Int))) = true → 0 ≤ (w64 ((l1.length : Int) - 1)) ∧ (w64 ((l1.length : Int) - 1)) < (l1.length : Int)) <| asrt ((decide ((1 : Int) < (l1.length : Int))) = true → 0 ≤ (geti l1 (w64 ((l1.length : Int) - 1))) ∧ (geti l1 (w64 ((l1.length : Int) - 1))) < (r1.1.length : Int)) <| asrt ((decide ((1 : Int) < (l1.length : Int))) = true → 0 ≤ (0 : Int) ∧ (0 : Int) < (l1.length : Int)) <| ((if (decide ((1 : Int) < (l1.length : Int))) then slices_Contains_m (geti2 r1.1 (geti l1 (w64 ((l1.length : Int) - 1)))) (geti l1 0) else some false)).bind fun r4 => if ((decide ((1 : Int) < (l1.length : Int))) && r4) then (some (3, 0)) else (tour_Is_J7))

noncomputable def tour_Is_K1  (l1 : List Int) (r1 : (List (List Int) × Int)) : (Fl Unit (Int × Int)) → Option (Int × Int) :=
  fun (x : (Fl Unit (Int × Int))) => match x with | .go _ => (tour_Is_J3 l1 r1) | .ret x => some x

noncomputable def tour_Is_L1  (l1 : List Int) (r1 : (List (List Int) × Int)) : (List Bool × Int) → Option (St (List Bool × Int) (Fl Unit (Int × Int))) :=
  fun (x : (List Bool × Int)) => match x with | (seen1, z1) => if (decide (z1 < (l1.length : Int))) then ((tour_Is_J4 l1 r1 seen1 z1)) else (some (.done (.go ())))

noncomputable def tour_Is_J2  (l1 : List Int) (r1 : (List (List Int) × Int)) : Option (Int × Int) :=
  asrt ((0 : Int) ≤ (r1.1.length : Int) ∧ (r1.1.length : Int) ≤ bigN) <| (loop (tour_Is_L1 l1 r1) ((List.replicate (Int.toNat (r1.1.length : Int)) false), 0)).bind (tour_Is_K1 l1 r1)

noncomputable def tour_Is_J1  (l1 : List Int) (r1 : (List (List Int) × Int)) : Option (Int × Int) :=
  if (((l1.length : Int) == 0) || (decide ((r1.1.length : Int) < (l1.length : Int)))) then (some (0, 0)) else ((tour_Is_J2 l1 r1))

noncomputable def tour_Is_m  (w1 : Int) (h1 : Int) (l1 : List Int) : Option (Int × Int) :=
  (tour_newField_m w1 h1).bind fun r1 => if (r1.2 != 0) then (some (0, r1.2)) else ((tour_Is_J1 l1 r1))

set_option maxRecDepth 100000 in
set_option maxHeartbeats 4000000 in
theorem tour_Is_w {w1 : Int} {h1 : Int} {A1 : Option Addr} {c1 : Nat} {n1 : Nat} {l1 : List Int} {r : (Int × Int)} {w0 w : World} {B : Nat} {fs : List HP} [GLV 0 glob0 w0 B] (hm : tour_Is_m w1 h1 l1 = some r) (hS : Sep w0 B w (fs)) (hr_l1 : RdF w0 B fs A1 (vI l1)) (_hc_l1 : l1.length ≤ c1) (_hn_l1 : n1 = l1.length) :
    Calls Tryd.prog 7 #[.int .i64 w1, .int .i64 h1, .slice A1 n1 c1] w fun e w' => e = .returned (.tuple #[.int .i64 r.1, .int .i64 r.2]) ∧ Sep w0 B w' (fs) := by
  obtain ⟨i3, hi3, hz3, hs3, hb3⟩ := info_parts Info3
  obtain ⟨i4, hi4, hz4, hs4, hb4⟩ := info_parts Info4
  obtain ⟨i22, hi22, hz22, hs22, hb22⟩ := info_parts Info22
  obtain rfl := _hn_l1
  unfold tour_Is_m at hm
  replace hm := start_b hm
  refine enter (l := [.int .i64 w1, .int .i64 h1, .slice A1 l1.length c1]) (n := 98) Tryd.func7 rfl rfl (by simp) (fun a hF => ?_)
  refine reg [] [] [0, 1, 2] [pl 0 (.int .i64 w1), pl 1 (.int .i64 h1), pl 2 (.slice A1 l1.length c1)] hF hS Fol (by kernel_rfl) (by kernel_rfl) (by kernel_rfl) ?_ (fun a w hF hS => ?_)
  · exact obs_nil
  refine seqR ?_
  obtain ⟨r1, hr1, hm⟩ := call_b hm
  refine at_run 2 [] [] [2, 14, 15] [pl 2 (.slice A1 l1.length c1), pl 14 (.int .i64 w1), pl 15 (.int .i64 h1)] hF hS (by kernel_rfl) (by kernel_rfl) ?_ (fun a w hF hS => ?_)
  · exact obs_nil
  refine at_call (f := 28) (args := #[.int .i64 w1, .int .i64 h1]) (d := 16) hF (by kernel_rfl) (by kernel_rfl) Tryd.func28 (by kernel_rfl) rfl (tour_newField_w hr1 hS ) (fun v a w hR hF => ?_)
  clear hS
  obtain ⟨A2, c2, hd1, rfl, hS⟩ := hR
  have hS : Sep w0 B w (rows 22 3 (.slice A2 r1.1.length c2) hd1 r1.1 :: fs) := hS
  refine at_run 5 [] [] [2, 8, 9] [pl 2 (.slice A1 l1.length c1), pl 8 (.slice A2 r1.1.length c2), pl 9 (.int .i64 r1.2)] hF hS (by kernel_rfl) (by kernel_rfl) ?_ (fun a w hF hS => ?_)
  · exact obs_nil
  refine at_end [2, 8, 9] [pl 2 (.slice A1 l1.length c1), pl 8 (.slice A2 r1.1.length c2), pl 9 (.int .i64 r1.2)] hF rfl (by kernel_rfl) (fun hF => ?_)
  refine then_n ?_
  refine seq_cut (fun a w => Fr 98 [pl 2 (.slice A1 l1.length c1), pl 8 (.slice A2 r1.1.length c2)] a ∧ Sep w0 B w (rows 22 3 (.slice A2 r1.1.length c2) hd1 r1.1 :: fs) ∧ ((tour_Is_J1 l1 r1)).bind some = some r) ?_ ?_
  · rintro a w ⟨hF, hS, hm⟩
    unfold tour_Is_J1 at hm
    refine seq_cut (fun a w => Fr 98 [pl 2 (.slice A1 l1.length c1), pl 8 (.slice A2 r1.1.length c2)] a ∧ Sep w0 B w (rows 22 3 (.slice A2 r1.1.length c2) hd1 r1.1 :: fs) ∧ ((tour_Is_J2 l1 r1)).bind some = some r) ?_ ?_
    · rintro a w ⟨hF, hS, hm⟩
      unfold tour_Is_J2 at hm
      refine seqR ?_
      obtain ⟨hp1, hm⟩ := asrt_b hm
      refine at_run 2 [] [] [2, 8, 33] [pl 2 (.slice A1 l1.length c1), pl 8 (.slice A2 r1.1.length c2), pl 33 (.int .i64 (r1.1.length : Int))] hF hS (by kernel_rfl) (by kernel_rfl) ?_ (fun a w hF hS => ?_)
      · exact obs_nil
      obtain ⟨A3, c3, w, hrun, hS⟩ := run_mk1 (P := Tryd.prog) (t := 54) Value.bool false hS .i64 .i64 Und54 hi4 hz4 hs4 (by omega) rfl hp1
      have hS : Sep w0 B w (own 4 (.slice A3 (Int.toNat (r1.1.length : Int)) c3) (vB (List.replicate (Int.toNat (r1.1.length : Int)) false)) :: rows 22 3 (.slice A2 r1.1.length c2) hd1 r1.1 :: fs) := hS
      refine at_do (d := 34) hF (by kernel_rfl) (by kernel_rfl) hrun (fun a hF => ?_)
      refine at_run 1 [] [] [2, 8, 10] [pl 2 (.slice A1 l1.length c1), pl 8 (.slice A2 r1.1.length c2), pl 10 (.slice A3 (Int.toNat (r1.1.length : Int)) c3)] hF hS (by kernel_rfl) (by kernel_rfl) ?_ (fun a w hF hS => ?_)
      · exact obs_nil
      refine at_end [2, 8, 10] [pl 2 (.slice A1 l1.length c1), pl 8 (.slice A2 r1.1.length c2), pl 10 (.slice A3 (Int.toNat (r1.1.length : Int)) c3)] hF rfl (by kernel_rfl) (fun hF => ?_)
      refine then_n ?_
      refine seq_cut (fun a w => Fr 98 [pl 2 (.slice A1 l1.length c1), pl 8 (.slice A2 r1.1.length c2)] a ∧ Sep w0 B w (rows 22 3 (.slice A2 r1.1.length c2) hd1 r1.1 :: fs) ∧ ((tour_Is_J3 l1 r1)).bind some = some r) ?_ ?_
      · rintro a w ⟨hF, hS, hm⟩
        unfold tour_Is_J3 at hm
        refine seq_cut (fun a w => Fr 98 [] a ∧ Sep w0 B w (fs) ∧ (tour_Is_J7).bind some = some r) ?_ ?_
        · rintro a w ⟨hF, hS, hm⟩
          unfold tour_Is_J7 at hm
          refine reg [] [] [6, 7] [pl 6 (.int .i64 2), pl 7 (.int .i64 0)] hF hS Fol (by kernel_rfl) (by kernel_rfl) (by kernel_rfl) ?_ (fun a w hF hS => ?_)
          · exact obs_nil
          refine wpIn_ret ?_
          have hm : some (2, 0) = some r := hm
          obtain rfl := Option.some.inj hm
          exact retV (rs := [.tmp 6, .tmp 7]) (vs := [.int .i64 2, .int .i64 0]) hF rfl (rv_t (by kernel_rfl) <| rv_t (by kernel_rfl) <| rv_nil) rfl ⟨rfl, hS⟩
        · refine wpIn_block ?_
          refine reg [] [] [2, 8, 73] [pl 2 (.slice A1 l1.length c1), pl 8 (.slice A2 r1.1.length c2), pl 73 (.bool (decide ((l1.length : Int) < (r1.1.length : Int))))] hF hS Fol (by kernel_rfl) (by kernel_rfl) (by kernel_rfl) ?_ (fun a w hF hS => ?_)
          · exact obs_nil
          refine cond_ev (t := 73) (b := decide ((l1.length : Int) < (r1.1.length : Int))) hF (by kernel_rfl) (fun hb => ?_) (fun hb => ?_)
          · replace hm := if_t hm hb
            refine reg [] [] [6, 7] [pl 6 (.int .i64 1), pl 7 (.int .i64 0)] hF hS Fol (by kernel_rfl) (by kernel_rfl) (by kernel_rfl) ?_ (fun a w hF hS => ?_)
            · exact obs_nil
            refine wpIn_ret ?_
            refine block_r (then_r ?_)
            have hS := hS.pickN 1 [] (by decide)
            have hm : some (1, 0) = some r := hm
            obtain rfl := Option.some.inj hm
            exact retV (rs := [.tmp 6, .tmp 7]) (vs := [.int .i64 1, .int .i64 0]) hF rfl (rv_t (by kernel_rfl) <| rv_t (by kernel_rfl) <| rv_nil) rfl ⟨rfl, hS⟩
          · replace hm := if_f hm hb
            obtain ⟨hp7, hm⟩ := asrt_b hm
            obtain ⟨hp8, hm⟩ := asrt_b hm
            obtain ⟨hp9, hm⟩ := asrt_b hm
            obtain ⟨r4, hr4, hm⟩ := call_b hm
            refine reg [⟨true, [(decide ((1 : Int) < (l1.length : Int)), true)], vS (Instr.indexAt 22 (.slice A1 l1.length c1) (.int .i64 (w64 ((l1.length : Int) - 1)))), .pointer (some (sAddr A1 (w64 ((l1.length : Int) - 1))))⟩, ⟨false, [(decide ((1 : Int) < (l1.length : Int)), true)], vS (Instr.loadAt 3 (.pointer (some (sAddr A1 (w64 ((l1.length : Int) - 1)))))), .int .i64 (geti l1 (w64 ((l1.length : Int) - 1)))⟩, ⟨true, [(decide ((1 : Int) < (l1.length : Int)), true)], vS (Instr.indexAt 50 (.slice A2 r1.1.length c2) (.int .i64 (geti l1 (w64 ((l1.length : Int) - 1))))), .pointer (some (sAddr A2 (geti l1 (w64 ((l1.length : Int) - 1)))))⟩, ⟨false, [(decide ((1 : Int) < (l1.length : Int)), true)], vS (Instr.loadAt 22 (.pointer (some (sAddr A2 (geti l1 (w64 ((l1.length : Int) - 1))))))), .slice (hdA hd1 (geti l1 (w64 ((l1.length : Int) - 1)))) ((geti2 r1.1 (geti l1 (w64 ((l1.length : Int) - 1)))).length) (hdC hd1 (geti l1 (w64 ((l1.length : Int) - 1))))⟩, ⟨true, [(decide ((1 : Int) < (l1.length : Int)), true)], vS (Instr.indexAt 22 (.slice A1 l1.length c1) (.int .i64 0)), .pointer (some (sAddr A1 0))⟩, ⟨false, [(decide ((1 : Int) < (l1.length : Int)), true)], vS (Instr.loadAt 3 (.pointer (some (sAddr A1 0)))), .int .i64 (geti l1 0)⟩, ⟨false, [(decide ((1 : Int) < (l1.length : Int)), true)], callFunc 30 #[.slice (hdA hd1 (geti l1 (w64 ((l1.length : Int) - 1)))) ((geti2 r1.1 (geti l1 (w64 ((l1.length : Int) - 1)))).length) (hdC hd1 (geti l1 (w64 ((l1.length : Int) - 1)))), .int .i64 (geti l1 0)], .bool r4⟩] [none, none, none, none, none, none, none, none, none, some (.pointer (some (sAddr A1 (w64 ((l1.length : Int) - 1))))), some (.int .i64 (geti l1 (w64 ((l1.length : Int) - 1)))), some (.pointer (some (sAddr A2 (geti l1 (w64 ((l1.length : Int) - 1)))))), some (.slice (hdA hd1 (geti l1 (w64 ((l1.length : Int) - 1)))) ((geti2 r1.1 (geti l1 (w64 ((l1.length : Int) - 1)))).length) (hdC hd1 (geti l1 (w64 ((l1.length : Int) - 1))))), none, some (.pointer (some (sAddr A1 0))), some (.int .i64 (geti l1 0)), some (.bool r4), none, none] [79] [pl 79 (.bool ((decide ((1 : Int) < (l1.length : Int))) && r4))] hF hS Fol (by kernel_rfl) (by kernel_rfl) (by kernel_rfl) ?_ (fun a w hF hS => ?_)
            · exact obs_cons (ob_ix1 (f := (Value.int .i64)) (m := l1) Und22 hi3 hs3 (hr_l1 _ (hS.dropN 1)) rfl (fun hy => hp7 (hy (decide ((1 : Int) < (l1.length : Int)), true) (by simp)))) <| obs_cons (ob_get1 (n := l1.length) (m := l1) (Value.int .i64) (0 : Int) Agg3 (fun _ hS => ⟨_, (hr_l1 _ (hS.dropN 1))⟩) (fun _ hS => rfl) (fun hy => hp7 (hy (decide ((1 : Int) < (l1.length : Int)), true) (by simp)))) <| obs_cons (ob_ixRn Und50 hi22 hs22 (hS.at_ 0 rfl).rdRows (hS.at_ 0 rfl).lenR (fun hy => hp8 (hy (decide ((1 : Int) < (l1.length : Int)), true) (by simp)))) <| obs_cons (ob_getR Agg22 (fun _ hS => ⟨_, (hS.at_ 0 rfl).rdRows⟩) (fun hy => hp8 (hy (decide ((1 : Int) < (l1.length : Int)), true) (by simp)))) <| obs_cons (ob_ix1 (f := (Value.int .i64)) (m := l1) Und22 hi3 hs3 (hr_l1 _ (hS.dropN 1)) rfl (fun hy => hp9 (hy (decide ((1 : Int) < (l1.length : Int)), true) (by simp)))) <| obs_cons (ob_get1 (n := l1.length) (m := l1) (Value.int .i64) (0 : Int) Agg3 (fun _ hS => ⟨_, (hr_l1 _ (hS.dropN 1))⟩) (fun _ hS => rfl) (fun hy => hp9 (hy (decide ((1 : Int) < (l1.length : Int)), true) (by simp)))) <| obs_cons (ob_call Tryd.func30 (by kernel_rfl) rfl (fun hy _ hS => slices_Contains_w (ite_some hr4 (by rw [show (decide ((1 : Int) < (l1.length : Int))) = true from hy (decide ((1 : Int) < (l1.length : Int)), true) (by simp)]; try rfl)) hS (fun _ hS => ((hS.at_ 0 rfl).rdRows.rowAny (geti l1 (w64 ((l1.length : Int) - 1)))).1) ((hS.at_ 0 rfl).rdRows.rowAny (geti l1 (w64 ((l1.length : Int) - 1)))).2 rfl)) <| obs_nil
            refine cond_ev (t := 79) (b := (decide ((1 : Int) < (l1.length : Int))) && r4) hF (by kernel_rfl) (fun hb => ?_) (fun hb => ?_)
            · replace hm := if_t hm hb
              refine reg [] [] [6, 7] [pl 6 (.int .i64 3), pl 7 (.int .i64 0)] hF hS Fol (by kernel_rfl) (by kernel_rfl) (by kernel_rfl) ?_ (fun a w hF hS => ?_)
              · exact obs_nil
              refine wpIn_ret ?_
              refine block_r (then_r ?_)
              have hS := hS.pickN 1 [] (by decide)
              have hm : some (3, 0) = some r := hm
              obtain rfl := Option.some.inj hm
              exact retV (rs := [.tmp 6, .tmp 7]) (vs := [.int .i64 3, .int .i64 0]) hF rfl (rv_t (by kernel_rfl) <| rv_t (by kernel_rfl) <| rv_nil) rfl ⟨rfl, hS⟩
            · replace hm := if_f hm hb
              refine wpIn_skip ?_
              refine block_n ?_
              refine then_n ?_
              have hS := hS.pickN 1 [] (by decide)
              exact ⟨hF.weak [] (by kernel_rfl), hS, hm⟩
      · refine reg [] [] [2, 8, 10, 35, 36, 37] [pl 2 (.slice A1 l1.length c1), pl 8 (.slice A2 r1.1.length c2), pl 10 (.slice A3 (Int.toNat (r1.1.length : Int)) c3), pl 35 (.slice A1 l1.length c1), pl 36 (.int .i64 (l1.length : Int)), pl 37 (.int .i64 0)] hF hS Fol (by kernel_rfl) (by kernel_rfl) (by kernel_rfl) ?_ (fun a w hF hS => ?_)
        · exact obs_nil
        refine wpIn_block ?_
        have hS := hS.pickN 2 [1, 0] (by decide)
        refine wp_loop_model (S := (List Bool × Int)) (R := (Fl Unit (Int × Int))) (tour_Is_L1 l1 r1) (fun x => ((tour_Is_K1 l1 r1) x).bind some) r (fun (x : (List Bool × Int)) a w => Fr 98 [pl 2 (.slice A1 l1.length c1), pl 8 (.slice A2 r1.1.length c2), pl 10 (.slice A3 (Int.toNat (r1.1.length : Int)) c3), pl 35 (.slice A1 l1.length c1), pl 36 (.int .i64 (l1.length : Int)), pl 37 (.int .i64 x.2)] a ∧ Sep w0 B w (rows 22 3 (.slice A2 r1.1.length c2) hd1 r1.1 :: own 4 (.slice A3 (Int.toNat (r1.1.length : Int)) c3) (vB x.1) :: fs)) (assoc_b hm) ⟨hF.weak [2, 8, 10, 35, 36, 37] (by kernel_rfl), hS⟩ ?_
        clear hF hS hm
        rintro nn1 ⟨seen1, z1⟩ a w ⟨hF, hS⟩ hm
        generalize hφ1 : stK (tour_Is_L1 l1 r1) nn1 (fun x => ((tour_Is_K1 l1 r1) x).bind some) = φ1 at hm
        unfold tour_Is_L1 at hm
        dsimp only at hF hS hm
        refine reg [] [] [2, 8, 10, 35, 36, 37, 38] [pl 2 (.slice A1 l1.length c1), pl 8 (.slice A2 r1.1.length c2), pl 10 (.slice A3 (Int.toNat (r1.1.length : Int)) c3), pl 35 (.slice A1 l1.length c1), pl 36 (.int .i64 (l1.length : Int)), pl 37 (.int .i64 z1), pl 38 (.bool (decide (z1 < (l1.length : Int))))] hF hS Fol (by kernel_rfl) (by kernel_rfl) (by kernel_rfl) ?_ (fun a w hF hS => ?_)
        · exact obs_nil
        refine seq_cut (fun a w => Fr 98 [pl 2 (.slice A1 l1.length c1), pl 8 (.slice A2 r1.1.length c2), pl 10 (.slice A3 (Int.toNat (r1.1.length : Int)) c3), pl 35 (.slice A1 l1.length c1), pl 36 (.int .i64 (l1.length : Int)), pl 37 (.int .i64 z1)] a ∧ Sep w0 B w (rows 22 3 (.slice A2 r1.1.length c2) hd1 r1.1 :: own 4 (.slice A3 (Int.toNat (r1.1.length : Int)) c3) (vB seen1) :: fs) ∧ ((tour_Is_J4 l1 r1 seen1 z1)).bind φ1 = some r) ?_ ?_
        · rintro a w ⟨hF, hS, hm⟩
          unfold tour_Is_J4 at hm
          refine seq_cut (fun a w => Fr 98 [pl 2 (.slice A1 l1.length c1), pl 8 (.slice A2 r1.1.length c2), pl 10 (.slice A3 (Int.toNat (r1.1.length : Int)) c3), pl 35 (.slice A1 l1.length c1), pl 36 (.int .i64 (l1.length : Int)), pl 37 (.int .i64 z1)] a ∧ Sep w0 B w (rows 22 3 (.slice A2 r1.1.length c2) hd1 r1.1 :: own 4 (.slice A3 (Int.toNat (r1.1.length : Int)) c3) (vB (seen1.set (Int.toNat (geti l1 z1)) true)) :: fs) ∧ ((tour_Is_J5 l1 seen1 z1)).bind φ1 = some r) ?_ ?_
          · rintro a w ⟨hF, hS, hm⟩
            unfold tour_Is_J5 at hm
            refine reg1 [] [] [2, 8, 10, 35, 36, 37] [pl 2 (.slice A1 l1.length c1), pl 8 (.slice A2 r1.1.length c2), pl 10 (.slice A3 (Int.toNat (r1.1.length : Int)) c3), pl 35 (.slice A1 l1.length c1), pl 36 (.int .i64 (l1.length : Int)), pl 37 (.int .i64 (w64 (z1 + 1)))] hF hS Fol (by kernel_rfl) (by kernel_rfl) (by kernel_rfl) ?_ (fun a w hF hS => ?_)
            · exact obs_nil
            refine then_n ?_
            rw [← hφ1] at hm
            exact ⟨((seen1.set (Int.toNat (geti l1 z1)) true), (w64 (z1 + 1))), ⟨hF.weak [2, 8, 10, 35, 36, 37] (by kernel_rfl), hS⟩, hm⟩
          · refine wpIn_block ?_
            obtain ⟨hp2, hm⟩ := asrt_b hm
            refine reg [⟨true, [], vS (Instr.indexAt 22 (.slice A1 l1.length c1) (.int .i64 z1)), .pointer (some (sAddr A1 z1))⟩, ⟨false, [], vS (Instr.loadAt 3 (.pointer (some (sAddr A1 z1)))), .int .i64 (geti l1 z1)⟩] [none, some (.pointer (some (sAddr A1 z1))), some (.int .i64 (geti l1 z1)), none, none] [2, 8, 10, 11, 12, 35, 36, 37] [pl 2 (.slice A1 l1.length c1), pl 8 (.slice A2 r1.1.length c2), pl 10 (.slice A3 (Int.toNat (r1.1.length : Int)) c3), pl 11 (.int .i64 z1), pl 12 (.int .i64 (geti l1 z1)), pl 35 (.slice A1 l1.length c1), pl 36 (.int .i64 (l1.length : Int)), pl 37 (.int .i64 z1)] hF hS Fol (by kernel_rfl) (by kernel_rfl) (by kernel_rfl) ?_ (fun a w hF hS => ?_)
            · exact obs_cons (ob_ix1 (f := (Value.int .i64)) (m := l1) Und22 hi3 hs3 (hr_l1 _ (hS.dropN 2)) rfl (fun _ => hp2)) <| obs_cons (ob_get1 (n := l1.length) (m := l1) (Value.int .i64) (0 : Int) Agg3 (fun _ hS => ⟨_, (hr_l1 _ (hS.dropN 2))⟩) (fun _ hS => rfl) (fun _ => hp2)) <| obs_nil
            refine seq_cut (fun a w => Fr 98 [pl 2 (.slice A1 l1.length c1), pl 8 (.slice A2 r1.1.length c2), pl 10 (.slice A3 (Int.toNat (r1.1.length : Int)) c3), pl 12 (.int .i64 (geti l1 z1)), pl 35 (.slice A1 l1.length c1), pl 36 (.int .i64 (l1.length : Int)), pl 37 (.int .i64 z1)] a ∧ Sep w0 B w (rows 22 3 (.slice A2 r1.1.length c2) hd1 r1.1 :: own 4 (.slice A3 (Int.toNat (r1.1.length : Int)) c3) (vB seen1) :: fs) ∧ ((tour_Is_J6 l1 r1 seen1 z1)).bind φ1 = some r) ?_ ?_
            · rintro a w ⟨hF, hS, hm⟩
              unfold tour_Is_J6 at hm
              refine oneR ?_
              obtain ⟨hp6, hm⟩ := asrt_b hm
              refine at_run 3 [⟨true, [], vS (Instr.indexAt 54 (.slice A3 (Int.toNat (r1.1.length : Int)) c3) (.int .i64 (geti l1 z1))), .pointer (some (sAddr A3 (geti l1 z1)))⟩] [none, none, some (.pointer (some (sAddr A3 (geti l1 z1))))] [2, 8, 10, 35, 36, 37, 71] [pl 2 (.slice A1 l1.length c1), pl 8 (.slice A2 r1.1.length c2), pl 10 (.slice A3 (Int.toNat (r1.1.length : Int)) c3), pl 35 (.slice A1 l1.length c1), pl 36 (.int .i64 (l1.length : Int)), pl 37 (.int .i64 z1), pl 71 (.pointer (some (sAddr A3 (geti l1 z1))))] hF hS (by kernel_rfl) (by kernel_rfl) ?_ (fun a w hF hS => ?_)
              · exact obs_cons (ob_ix1 (f := Value.bool) (m := seen1) Und54 hi4 hs4 (hS.at_ 1 rfl).rd ((hS.at_ 1 rfl).len1) (fun _ => hp6)) <| obs_nil
              obtain ⟨w, hrun, hS⟩ := run_set1 (P := Tryd.prog) (t := 4) (x := true) Value.bool (hS.at_ 1 rfl) hi4 hs4 rfl rfl hp6
              refine at_skip hF (by kernel_rfl) hrun ?_
              have hS : Sep w0 B w (rows 22 3 (.slice A2 r1.1.length c2) hd1 r1.1 :: own 4 (.slice A3 (Int.toNat (r1.1.length : Int)) c3) (vB (seen1.set (Int.toNat (geti l1 z1)) true)) :: fs) := hS
              refine at_end [2, 8, 10, 35, 36, 37] [pl 2 (.slice A1 l1.length c1), pl 8 (.slice A2 r1.1.length c2), pl 10 (.slice A3 (Int.toNat (r1.1.length : Int)) c3), pl 35 (.slice A1 l1.length c1), pl 36 (.int .i64 (l1.length : Int)), pl 37 (.int .i64 z1)] hF rfl (by kernel_rfl) (fun hF => ?_)
              refine block_n ?_
              refine then_n ?_
              exact ⟨hF.weak [2, 8, 10, 35, 36, 37] (by kernel_rfl), hS, hm⟩
            · obtain ⟨r2, hr2, hm⟩ := call_b hm
              obtain ⟨hp3, hm⟩ := asrt_b hm
              obtain ⟨hp4, hm⟩ := asrt_b hm
              obtain ⟨hp5, hm⟩ := asrt_b hm
              obtain ⟨r3, hr3, hm⟩ := call_b hm
              refine reg [⟨false, [], callFunc 29 #[.slice A2 r1.1.length c2, .int .i64 (geti l1 z1)], .bool r2⟩, ⟨true, [(!r2, false)], vS (Instr.indexAt 54 (.slice A3 (Int.toNat (r1.1.length : Int)) c3) (.int .i64 (geti l1 z1))), .pointer (some (sAddr A3 (geti l1 z1)))⟩, ⟨false, [(!r2, false)], vS (Instr.loadAt 4 (.pointer (some (sAddr A3 (geti l1 z1))))), .bool (getb seen1 (geti l1 z1))⟩, ⟨true, [(decide ((0 : Int) < z1), true), ((!r2) || (getb seen1 (geti l1 z1)), false)], vS (Instr.indexAt 22 (.slice A1 l1.length c1) (.int .i64 (w64 (z1 - 1)))), .pointer (some (sAddr A1 (w64 (z1 - 1))))⟩, ⟨false, [(decide ((0 : Int) < z1), true), ((!r2) || (getb seen1 (geti l1 z1)), false)], vS (Instr.loadAt 3 (.pointer (some (sAddr A1 (w64 (z1 - 1)))))), .int .i64 (geti l1 (w64 (z1 - 1)))⟩, ⟨true, [(decide ((0 : Int) < z1), true), ((!r2) || (getb seen1 (geti l1 z1)), false)], vS (Instr.indexAt 50 (.slice A2 r1.1.length c2) (.int .i64 (geti l1 (w64 (z1 - 1))))), .pointer (some (sAddr A2 (geti l1 (w64 (z1 - 1)))))⟩, ⟨false, [(decide ((0 : Int) < z1), true), ((!r2) || (getb seen1 (geti l1 z1)), false)], vS (Instr.loadAt 22 (.pointer (some (sAddr A2 (geti l1 (w64 (z1 - 1))))))), .slice (hdA hd1 (geti l1 (w64 (z1 - 1)))) ((geti2 r1.1 (geti l1 (w64 (z1 - 1)))).length) (hdC hd1 (geti l1 (w64 (z1 - 1))))⟩, ⟨false, [(decide ((0 : Int) < z1), true), ((!r2) || (getb seen1 (geti l1 z1)), false)], callFunc 30 #[.slice (hdA hd1 (geti l1 (w64 (z1 - 1)))) ((geti2 r1.1 (geti l1 (w64 (z1 - 1)))).length) (hdC hd1 (geti l1 (w64 (z1 - 1)))), .int .i64 (geti l1 z1)], .bool r3⟩] [none, none, some (.bool r2), none, none, none, none, some (.pointer (some (sAddr A3 (geti l1 z1)))), some (.bool (getb seen1 (geti l1 z1))), none, none, none, none, none, none, none, none, none, some (.pointer (some (sAddr A1 (w64 (z1 - 1))))), some (.int .i64 (geti l1 (w64 (z1 - 1)))), some (.pointer (some (sAddr A2 (geti l1 (w64 (z1 - 1)))))), some (.slice (hdA hd1 (geti l1 (w64 (z1 - 1)))) ((geti2 r1.1 (geti l1 (w64 (z1 - 1)))).length) (hdC hd1 (geti l1 (w64 (z1 - 1))))), none, some (.bool r3), none, none, none] [2, 8, 10, 12, 35, 36, 37, 68] [pl 2 (.slice A1 l1.length c1), pl 8 (.slice A2 r1.1.length c2), pl 10 (.slice A3 (Int.toNat (r1.1.length : Int)) c3), pl 12 (.int .i64 (geti l1 z1)), pl 35 (.slice A1 l1.length c1), pl 36 (.int .i64 (l1.length : Int)), pl 37 (.int .i64 z1), pl 68 (.bool (((!r2) || (getb seen1 (geti l1 z1))) || ((decide ((0 : Int) < z1)) && (!r3))))] hF hS Fol (by kernel_rfl) (by kernel_rfl) (by kernel_rfl) ?_ (fun a w hF hS => ?_)
              · exact obs_cons (ob_call Tryd.func29 (by kernel_rfl) rfl (fun _ _ hS => tour_field_has_w hr2 hS (fun _ hS => (hS.at_ 0 rfl).rdRows) (hS.at_ 0 rfl).rowsLen.2 (hS.at_ 0 rfl).lenR)) <| obs_cons (ob_ix1 (f := Value.bool) (m := seen1) Und54 hi4 hs4 (hS.at_ 1 rfl).rd ((hS.at_ 1 rfl).len1) (fun hy => hp3 (hy (!r2, false) (by simp)))) <| obs_cons (ob_get1 (n := (Int.toNat (r1.1.length : Int))) (m := seen1) Value.bool false Agg4 (fun _ hS => ⟨_, (hS.at_ 1 rfl).rd⟩) (fun _ hS => ((hS.at_ 1 rfl).len1)) (fun hy => hp3 (hy (!r2, false) (by simp)))) <| obs_cons (ob_ix1 (f := (Value.int .i64)) (m := l1) Und22 hi3 hs3 (hr_l1 _ (hS.dropN 2)) rfl (fun hy => hp4 (hy (decide ((0 : Int) < z1), true) (by simp)) (hy ((!r2) || (getb seen1 (geti l1 z1)), false) (by simp)))) <| obs_cons (ob_get1 (n := l1.length) (m := l1) (Value.int .i64) (0 : Int) Agg3 (fun _ hS => ⟨_, (hr_l1 _ (hS.dropN 2))⟩) (fun _ hS => rfl) (fun hy => hp4 (hy (decide ((0 : Int) < z1), true) (by simp)) (hy ((!r2) || (getb seen1 (geti l1 z1)), false) (by simp)))) <| obs_cons (ob_ixRn Und50 hi22 hs22 (hS.at_ 0 rfl).rdRows (hS.at_ 0 rfl).lenR (fun hy => hp5 (hy (decide ((0 : Int) < z1), true) (by simp)) (hy ((!r2) || (getb seen1 (geti l1 z1)), false) (by simp)))) <| obs_cons (ob_getR Agg22 (fun _ hS => ⟨_, (hS.at_ 0 rfl).rdRows⟩) (fun hy => hp5 (hy (decide ((0 : Int) < z1), true) (by simp)) (hy ((!r2) || (getb seen1 (geti l1 z1)), false) (by simp)))) <| obs_cons (ob_call Tryd.func30 (by kernel_rfl) rfl (fun hy _ hS => slices_Contains_w (ite_some hr3 (by rw [show (decide ((0 : Int) < z1)) = true from hy (decide ((0 : Int) < z1), true) (by simp), show ((!r2) || (getb seen1 (geti l1 z1))) = false from hy ((!r2) || (getb seen1 (geti l1 z1)), false) (by simp)]; try rfl)) hS (fun _ hS => ((hS.at_ 0 rfl).rdRows.rowAny (geti l1 (w64 (z1 - 1)))).1) ((hS.at_ 0 rfl).rdRows.rowAny (geti l1 (w64 (z1 - 1)))).2 rfl)) <| obs_nil
              refine cond_ev (t := 68) (b := ((!r2) || (getb seen1 (geti l1 z1))) || ((decide ((0 : Int) < z1)) && (!r3))) hF (by kernel_rfl) (fun hb => ?_) (fun hb => ?_)
              · replace hm := if_t hm hb
                refine reg [] [] [6, 7] [pl 6 (.int .i64 0), pl 7 (.int .i64 0)] hF hS Fol (by kernel_rfl) (by kernel_rfl) (by kernel_rfl) ?_ (fun a w hF hS => ?_)
                · exact obs_nil
                refine wpIn_ret ?_
                refine then_r (block_r (then_r (then_r (block_r (then_r ?_)))))
                rw [← hφ1] at hm
                replace hm := done_b hm
                unfold tour_Is_K1 at hm
                try dsimp only at hm
                have hS := hS.pickN 2 [] (by decide)
                have hm : some (0, 0) = some r := hm
                obtain rfl := Option.some.inj hm
                exact retV (rs := [.tmp 6, .tmp 7]) (vs := [.int .i64 0, .int .i64 0]) hF rfl (rv_t (by kernel_rfl) <| rv_t (by kernel_rfl) <| rv_nil) rfl ⟨rfl, hS⟩
              · replace hm := if_f hm hb
                refine wpIn_skip ?_
                refine then_n ?_
                exact ⟨hF.weak [2, 8, 10, 12, 35, 36, 37] (by kernel_rfl), hS, hm⟩
        · refine cond_ev (t := 38) (b := decide (z1 < (l1.length : Int))) hF (by kernel_rfl) (fun hb => ?_) (fun hb => ?_)
          · replace hm := if_t hm hb
            refine wpIn_skip ?_
            refine then_n ?_
            exact ⟨hF.weak [2, 8, 10, 35, 36, 37] (by kernel_rfl), hS, hm⟩
          · replace hm := if_f hm hb
            refine wpIn_exit ?_
            refine then_e (then_e (block_e (then_n ?_)))
            have hS := hS.pickN 2 [0] (by decide)
            rw [← hφ1] at hm
            replace hm := done_b hm
            unfold tour_Is_K1 at hm
            try dsimp only at hm
            have hm : ((tour_Is_J3 l1 r1)).bind some = some r := hm
            exact ⟨hF.weak [2, 8] (by kernel_rfl), hS, hm⟩
    · refine reg [] [] [2, 8, 31] [pl 2 (.slice A1 l1.length c1), pl 8 (.slice A2 r1.1.length c2), pl 31 (.bool (((l1.length : Int) == 0) || (decide ((r1.1.length : Int) < (l1.length : Int)))))] hF hS Fol (by kernel_rfl) (by kernel_rfl) (by kernel_rfl) ?_ (fun a w hF hS => ?_)
      · exact obs_nil
      refine cond_ev (t := 31) (b := ((l1.length : Int) == 0) || (decide ((r1.1.length : Int) < (l1.length : Int)))) hF (by kernel_rfl) (fun hb => ?_) (fun hb => ?_)
      · replace hm := if_t hm hb
        refine reg [] [] [6, 7] [pl 6 (.int .i64 0), pl 7 (.int .i64 0)] hF hS Fol (by kernel_rfl) (by kernel_rfl) (by kernel_rfl) ?_ (fun a w hF hS => ?_)
        · exact obs_nil
        refine wpIn_ret ?_
        refine then_r ?_
        have hS := hS.pickN 1 [] (by decide)
        have hm : some (0, 0) = some r := hm
        obtain rfl := Option.some.inj hm
        exact retV (rs := [.tmp 6, .tmp 7]) (vs := [.int .i64 0, .int .i64 0]) hF rfl (rv_t (by kernel_rfl) <| rv_t (by kernel_rfl) <| rv_nil) rfl ⟨rfl, hS⟩
      · replace hm := if_f hm hb
        refine wpIn_skip ?_
        refine then_n ?_
        exact ⟨hF.weak [2, 8] (by kernel_rfl), hS, hm⟩
  · refine reg [] [] [2, 8, 9, 20] [pl 2 (.slice A1 l1.length c1), pl 8 (.slice A2 r1.1.length c2), pl 9 (.int .i64 r1.2), pl 20 (.bool (r1.2 != 0))] hF hS Fol (by kernel_rfl) (by kernel_rfl) (by kernel_rfl) ?_ (fun a w hF hS => ?_)
    · exact obs_nil
    refine cond_ev (t := 20) (b := (r1.2 != 0)) hF (by kernel_rfl) (fun hb => ?_) (fun hb => ?_)
    · replace hm := if_t hm hb
      refine reg [] [] [6, 7] [pl 6 (.int .i64 0), pl 7 (.int .i64 r1.2)] hF hS Fol (by kernel_rfl) (by kernel_rfl) (by kernel_rfl) ?_ (fun a w hF hS => ?_)
      · exact obs_nil
      refine wpIn_ret ?_
      refine then_r ?_
      have hS := hS.pickN 1 [] (by decide)
      have hm : some (0, r1.2) = some r := hm
      obtain rfl := Option.some.inj hm
      exact retV (rs := [.tmp 6, .tmp 7]) (vs := [.int .i64 0, .int .i64 r1.2]) hF rfl (rv_t (by kernel_rfl) <| rv_t (by kernel_rfl) <| rv_nil) rfl ⟨rfl, hS⟩
    · replace hm := if_f hm hb
      refine wpIn_skip ?_
      refine then_n ?_
      exact ⟨hF.weak [2, 8] (by kernel_rfl), hS, hm⟩

noncomputable def bits_Mul64_m  (x1 : Int) (y1 : Int) : Option (Int × Int) :=
  some ((IntKind.wrap .u64 ((IntKind.wrap .u64 ((IntKind.wrap .u64 ((shrK .u64 x1 32) * (shrK .u64 y1 32))) + (shrK .u64 (IntKind.wrap .u64 ((IntKind.wrap .u64 ((shrK .u64 x1 32) * (andK .u64 y1 4294967295))) + (shrK .u64 (IntKind.wrap .u64 ((andK .u64 x1 4294967295) * (andK .u64 y1 4294967295))) 32))) 32))) + (shrK .u64 (IntKind.wrap .u64 ((andK .u64 (IntKind.wrap .u64 ((IntKind.wrap .u64 ((shrK .u64 x1 32) * (andK .u64 y1 4294967295))) + (shrK .u64 (IntKind.wrap .u64 ((andK .u64 x1 4294967295) * (andK .u64 y1 4294967295))) 32))) 4294967295) + (IntKind.wrap .u64 ((andK .u64 x1 4294967295) * (shrK .u64 y1 32))))) 32))), (IntKind.wrap .u64 (x1 * y1)))

set_option maxRecDepth 100000 in
set_option maxHeartbeats 4000000 in
theorem bits_Mul64_w {x1 : Int} {y1 : Int} {r : (Int × Int)} {w0 w : World} {B : Nat} {fs : List HP} (hm : bits_Mul64_m x1 y1 = some r) (hS : Sep w0 B w (fs)) :
    Calls Tryd.prog 55 #[.int .u64 x1, .int .u64 y1] w fun e w' => e = .returned (.tuple #[.int .u64 r.1, .int .u64 r.2]) ∧ Sep w0 B w' (fs) := by
  unfold bits_Mul64_m at hm
  replace hm := start_b hm
  refine enter (l := [.int .u64 x1, .int .u64 y1]) (n := 51) Tryd.func55 rfl rfl (by simp) (fun a hF => ?_)
  refine reg [] [] [0, 1] [pl 0 (.int .u64 x1), pl 1 (.int .u64 y1)] hF hS Fol (by kernel_rfl) (by kernel_rfl) (by kernel_rfl) ?_ (fun a w hF hS => ?_)
  · exact obs_nil
  refine reg [] [] [0, 1, 6] [pl 0 (.int .u64 x1), pl 1 (.int .u64 y1), pl 6 (.int .u64 (andK .u64 x1 4294967295))] hF hS Fol (by kernel_rfl) (by kernel_rfl) (by kernel_rfl) ?_ (fun a w hF hS => ?_)
  · exact obs_nil
  refine reg [⟨true, [], vS (Op.shift .shr .u64 x1 .u64 32), .int .u64 (shrK .u64 x1 32)⟩] [none, some (.int .u64 (shrK .u64 x1 32)), none] [0, 1, 6, 7] [pl 0 (.int .u64 x1), pl 1 (.int .u64 y1), pl 6 (.int .u64 (andK .u64 x1 4294967295)), pl 7 (.int .u64 (shrK .u64 x1 32))] hF hS Fol (by kernel_rfl) (by kernel_rfl) (by kernel_rfl) ?_ (fun a w hF hS => ?_)
  · exact obs_cons (ob_shr (fun _ => by decide)) <| obs_nil
  refine reg [] [] [0, 1, 6, 7, 8] [pl 0 (.int .u64 x1), pl 1 (.int .u64 y1), pl 6 (.int .u64 (andK .u64 x1 4294967295)), pl 7 (.int .u64 (shrK .u64 x1 32)), pl 8 (.int .u64 (andK .u64 y1 4294967295))] hF hS Fol (by kernel_rfl) (by kernel_rfl) (by kernel_rfl) ?_ (fun a w hF hS => ?_)
  · exact obs_nil
  refine reg [⟨true, [], vS (Op.shift .shr .u64 y1 .u64 32), .int .u64 (shrK .u64 y1 32)⟩] [none, some (.int .u64 (shrK .u64 y1 32)), none] [0, 1, 6, 7, 8, 9] [pl 0 (.int .u64 x1), pl 1 (.int .u64 y1), pl 6 (.int .u64 (andK .u64 x1 4294967295)), pl 7 (.int .u64 (shrK .u64 x1 32)), pl 8 (.int .u64 (andK .u64 y1 4294967295)), pl 9 (.int .u64 (shrK .u64 y1 32))] hF hS Fol (by kernel_rfl) (by kernel_rfl) (by kernel_rfl) ?_ (fun a w hF hS => ?_)
  · exact obs_cons (ob_shr (fun _ => by decide)) <| obs_nil
  refine reg [] [] [0, 1, 6, 7, 8, 9, 10] [pl 0 (.int .u64 x1), pl 1 (.int .u64 y1), pl 6 (.int .u64 (andK .u64 x1 4294967295)), pl 7 (.int .u64 (shrK .u64 x1 32)), pl 8 (.int .u64 (andK .u64 y1 4294967295)), pl 9 (.int .u64 (shrK .u64 y1 32)), pl 10 (.int .u64 (IntKind.wrap .u64 ((andK .u64 x1 4294967295) * (andK .u64 y1 4294967295))))] hF hS Fol (by kernel_rfl) (by kernel_rfl) (by kernel_rfl) ?_ (fun a w hF hS => ?_)
  · exact obs_nil
  refine reg [⟨true, [], vS (Op.shift .shr .u64 (IntKind.wrap .u64 ((andK .u64 x1 4294967295) * (andK .u64 y1 4294967295))) .u64 32), .int .u64 (shrK .u64 (IntKind.wrap .u64 ((andK .u64 x1 4294967295) * (andK .u64 y1 4294967295))) 32)⟩] [none, none, none, none, some (.int .u64 (shrK .u64 (IntKind.wrap .u64 ((andK .u64 x1 4294967295) * (andK .u64 y1 4294967295))) 32)), none, none] [0, 1, 6, 7, 9, 11] [pl 0 (.int .u64 x1), pl 1 (.int .u64 y1), pl 6 (.int .u64 (andK .u64 x1 4294967295)), pl 7 (.int .u64 (shrK .u64 x1 32)), pl 9 (.int .u64 (shrK .u64 y1 32)), pl 11 (.int .u64 (IntKind.wrap .u64 ((IntKind.wrap .u64 ((shrK .u64 x1 32) * (andK .u64 y1 4294967295))) + (shrK .u64 (IntKind.wrap .u64 ((andK .u64 x1 4294967295) * (andK .u64 y1 4294967295))) 32))))] hF hS Fol (by kernel_rfl) (by kernel_rfl) (by kernel_rfl) ?_ (fun a w hF hS => ?_)
  · exact obs_cons (ob_shr (fun _ => by decide)) <| obs_nil
  refine reg [] [] [0, 1, 6, 7, 9, 11, 12] [pl 0 (.int .u64 x1), pl 1 (.int .u64 y1), pl 6 (.int .u64 (andK .u64 x1 4294967295)), pl 7 (.int .u64 (shrK .u64 x1 32)), pl 9 (.int .u64 (shrK .u64 y1 32)), pl 11 (.int .u64 (IntKind.wrap .u64 ((IntKind.wrap .u64 ((shrK .u64 x1 32) * (andK .u64 y1 4294967295))) + (shrK .u64 (IntKind.wrap .u64 ((andK .u64 x1 4294967295) * (andK .u64 y1 4294967295))) 32)))), pl 12 (.int .u64 (andK .u64 (IntKind.wrap .u64 ((IntKind.wrap .u64 ((shrK .u64 x1 32) * (andK .u64 y1 4294967295))) + (shrK .u64 (IntKind.wrap .u64 ((andK .u64 x1 4294967295) * (andK .u64 y1 4294967295))) 32))) 4294967295))] hF hS Fol (by kernel_rfl) (by kernel_rfl) (by kernel_rfl) ?_ (fun a w hF hS => ?_)
  · exact obs_nil
  refine reg [⟨true, [], vS (Op.shift .shr .u64 (IntKind.wrap .u64 ((IntKind.wrap .u64 ((shrK .u64 x1 32) * (andK .u64 y1 4294967295))) + (shrK .u64 (IntKind.wrap .u64 ((andK .u64 x1 4294967295) * (andK .u64 y1 4294967295))) 32))) .u64 32), .int .u64 (shrK .u64 (IntKind.wrap .u64 ((IntKind.wrap .u64 ((shrK .u64 x1 32) * (andK .u64 y1 4294967295))) + (shrK .u64 (IntKind.wrap .u64 ((andK .u64 x1 4294967295) * (andK .u64 y1 4294967295))) 32))) 32)⟩] [none, some (.int .u64 (shrK .u64 (IntKind.wrap .u64 ((IntKind.wrap .u64 ((shrK .u64 x1 32) * (andK .u64 y1 4294967295))) + (shrK .u64 (IntKind.wrap .u64 ((andK .u64 x1 4294967295) * (andK .u64 y1 4294967295))) 32))) 32)), none] [0, 1, 6, 7, 9, 12, 13] [pl 0 (.int .u64 x1), pl 1 (.int .u64 y1), pl 6 (.int .u64 (andK .u64 x1 4294967295)), pl 7 (.int .u64 (shrK .u64 x1 32)), pl 9 (.int .u64 (shrK .u64 y1 32)), pl 12 (.int .u64 (andK .u64 (IntKind.wrap .u64 ((IntKind.wrap .u64 ((shrK .u64 x1 32) * (andK .u64 y1 4294967295))) + (shrK .u64 (IntKind.wrap .u64 ((andK .u64 x1 4294967295) * (andK .u64 y1 4294967295))) 32))) 4294967295)), pl 13 (.int .u64 (shrK .u64 (IntKind.wrap .u64 ((IntKind.wrap .u64 ((shrK .u64 x1 32) * (andK .u64 y1 4294967295))) + (shrK .u64 (IntKind.wrap .u64 ((andK .u64 x1 4294967295) * (andK .u64 y1 4294967295))) 32))) 32))] hF hS Fol (by kernel_rfl) (by kernel_rfl) (by kernel_rfl) ?_ (fun a w hF hS => ?_)
  · exact obs_cons (ob_shr (fun _ => by decide)) <| obs_nil
  refine reg [] [] [0, 1, 7, 9, 12, 13] [pl 0 (.int .u64 x1), pl 1 (.int .u64 y1), pl 7 (.int .u64 (shrK .u64 x1 32)), pl 9 (.int .u64 (shrK .u64 y1 32)), pl 12 (.int .u64 (IntKind.wrap .u64 ((andK .u64 (IntKind.wrap .u64 ((IntKind.wrap .u64 ((shrK .u64 x1 32) * (andK .u64 y1 4294967295))) + (shrK .u64 (IntKind.wrap .u64 ((andK .u64 x1 4294967295) * (andK .u64 y1 4294967295))) 32))) 4294967295) + (IntKind.wrap .u64 ((andK .u64 x1 4294967295) * (shrK .u64 y1 32)))))), pl 13 (.int .u64 (shrK .u64 (IntKind.wrap .u64 ((IntKind.wrap .u64 ((shrK .u64 x1 32) * (andK .u64 y1 4294967295))) + (shrK .u64 (IntKind.wrap .u64 ((andK .u64 x1 4294967295) * (andK .u64 y1 4294967295))) 32))) 32))] hF hS Fol (by kernel_rfl) (by kernel_rfl) (by kernel_rfl) ?_ (fun a w hF hS => ?_)
  · exact obs_nil
  refine reg [⟨true, [], vS (Op.shift .shr .u64 (IntKind.wrap .u64 ((andK .u64 (IntKind.wrap .u64 ((IntKind.wrap .u64 ((shrK .u64 x1 32) * (andK .u64 y1 4294967295))) + (shrK .u64 (IntKind.wrap .u64 ((andK .u64 x1 4294967295) * (andK .u64 y1 4294967295))) 32))) 4294967295) + (IntKind.wrap .u64 ((andK .u64 x1 4294967295) * (shrK .u64 y1 32))))) .u64 32), .int .u64 (shrK .u64 (IntKind.wrap .u64 ((andK .u64 (IntKind.wrap .u64 ((IntKind.wrap .u64 ((shrK .u64 x1 32) * (andK .u64 y1 4294967295))) + (shrK .u64 (IntKind.wrap .u64 ((andK .u64 x1 4294967295) * (andK .u64 y1 4294967295))) 32))) 4294967295) + (IntKind.wrap .u64 ((andK .u64 x1 4294967295) * (shrK .u64 y1 32))))) 32)⟩] [none, none, none, none, none, none, some (.int .u64 (shrK .u64 (IntKind.wrap .u64 ((andK .u64 (IntKind.wrap .u64 ((IntKind.wrap .u64 ((shrK .u64 x1 32) * (andK .u64 y1 4294967295))) + (shrK .u64 (IntKind.wrap .u64 ((andK .u64 x1 4294967295) * (andK .u64 y1 4294967295))) 32))) 4294967295) + (IntKind.wrap .u64 ((andK .u64 x1 4294967295) * (shrK .u64 y1 32))))) 32)), none, none] [0, 1, 4] [pl 0 (.int .u64 x1), pl 1 (.int .u64 y1), pl 4 (.int .u64 (IntKind.wrap .u64 ((IntKind.wrap .u64 ((IntKind.wrap .u64 ((shrK .u64 x1 32) * (shrK .u64 y1 32))) + (shrK .u64 (IntKind.wrap .u64 ((IntKind.wrap .u64 ((shrK .u64 x1 32) * (andK .u64 y1 4294967295))) + (shrK .u64 (IntKind.wrap .u64 ((andK .u64 x1 4294967295) * (andK .u64 y1 4294967295))) 32))) 32))) + (shrK .u64 (IntKind.wrap .u64 ((andK .u64 (IntKind.wrap .u64 ((IntKind.wrap .u64 ((shrK .u64 x1 32) * (andK .u64 y1 4294967295))) + (shrK .u64 (IntKind.wrap .u64 ((andK .u64 x1 4294967295) * (andK .u64 y1 4294967295))) 32))) 4294967295) + (IntKind.wrap .u64 ((andK .u64 x1 4294967295) * (shrK .u64 y1 32))))) 32))))] hF hS Fol (by kernel_rfl) (by kernel_rfl) (by kernel_rfl) ?_ (fun a w hF hS => ?_)
  · exact obs_cons (ob_shr (fun _ => by decide)) <| obs_nil
  refine reg [] [] [4, 5] [pl 4 (.int .u64 (IntKind.wrap .u64 ((IntKind.wrap .u64 ((IntKind.wrap .u64 ((shrK .u64 x1 32) * (shrK .u64 y1 32))) + (shrK .u64 (IntKind.wrap .u64 ((IntKind.wrap .u64 ((shrK .u64 x1 32) * (andK .u64 y1 4294967295))) + (shrK .u64 (IntKind.wrap .u64 ((andK .u64 x1 4294967295) * (andK .u64 y1 4294967295))) 32))) 32))) + (shrK .u64 (IntKind.wrap .u64 ((andK .u64 (IntKind.wrap .u64 ((IntKind.wrap .u64 ((shrK .u64 x1 32) * (andK .u64 y1 4294967295))) + (shrK .u64 (IntKind.wrap .u64 ((andK .u64 x1 4294967295) * (andK .u64 y1 4294967295))) 32))) 4294967295) + (IntKind.wrap .u64 ((andK .u64 x1 4294967295) * (shrK .u64 y1 32))))) 32)))), pl 5 (.int .u64 (IntKind.wrap .u64 (x1 * y1)))] hF hS Fol (by kernel_rfl) (by kernel_rfl) (by kernel_rfl) ?_ (fun a w hF hS => ?_)
  · exact obs_nil
  refine wpIn_ret ?_
  have hm : some ((IntKind.wrap .u64 ((IntKind.wrap .u64 ((IntKind.wrap .u64 ((shrK .u64 x1 32) * (shrK .u64 y1 32))) + (shrK .u64 (IntKind.wrap .u64 ((IntKind.wrap .u64 ((shrK .u64 x1 32) * (andK .u64 y1 4294967295))) + (shrK .u64 (IntKind.wrap .u64 ((andK .u64 x1 4294967295) * (andK .u64 y1 4294967295))) 32))) 32))) + (shrK .u64 (IntKind.wrap .u64 ((andK .u64 (IntKind.wrap .u64 ((IntKind.wrap .u64 ((shrK .u64 x1 32) * (andK .u64 y1 4294967295))) + (shrK .u64 (IntKind.wrap .u64 ((andK .u64 x1 4294967295) * (andK .u64 y1 4294967295))) 32))) 4294967295) + (IntKind.wrap .u64 ((andK .u64 x1 4294967295) * (shrK .u64 y1 32))))) 32))), (IntKind.wrap .u64 (x1 * y1))) = some r := hm
  obtain rfl := Option.some.inj hm
  exact retV (rs := [.tmp 4, .tmp 5]) (vs := [.int .u64 (IntKind.wrap .u64 ((IntKind.wrap .u64 ((IntKind.wrap .u64 ((shrK .u64 x1 32) * (shrK .u64 y1 32))) + (shrK .u64 (IntKind.wrap .u64 ((IntKind.wrap .u64 ((shrK .u64 x1 32) * (andK .u64 y1 4294967295))) + (shrK .u64 (IntKind.wrap .u64 ((andK .u64 x1 4294967295) * (andK .u64 y1 4294967295))) 32))) 32))) + (shrK .u64 (IntKind.wrap .u64 ((andK .u64 (IntKind.wrap .u64 ((IntKind.wrap .u64 ((shrK .u64 x1 32) * (andK .u64 y1 4294967295))) + (shrK .u64 (IntKind.wrap .u64 ((andK .u64 x1 4294967295) * (andK .u64 y1 4294967295))) 32))) 4294967295) + (IntKind.wrap .u64 ((andK .u64 x1 4294967295) * (shrK .u64 y1 32))))) 32))), .int .u64 (IntKind.wrap .u64 (x1 * y1))]) hF rfl (rv_t (by kernel_rfl) <| rv_t (by kernel_rfl) <| rv_nil) rfl ⟨rfl, hS⟩

noncomputable def bits_Mul_J1  (x1 : Int) (y1 : Int) : Option (Int × Int) :=
  (bits_Mul64_m x1 y1).bind fun r1 => some (r1.1, r1.2)

noncomputable def bits_Mul_m  (x1 : Int) (y1 : Int) : Option (Int × Int) :=
  (bits_Mul_J1 x1 y1)

set_option maxRecDepth 100000 in
set_option maxHeartbeats 4000000 in
theorem bits_Mul_w {x1 : Int} {y1 : Int} {r : (Int × Int)} {w0 w : World} {B : Nat} {fs : List HP} (hm : bits_Mul_m x1 y1 = some r) (hS : Sep w0 B w (fs)) :
    Calls Tryd.prog 47 #[.int .u64 x1, .int .u64 y1] w fun e w' => e = .returned (.tuple #[.int .u64 r.1, .int .u64 r.2]) ∧ Sep w0 B w' (fs) := by
  unfold bits_Mul_m at hm
  replace hm := start_b hm
  refine enter (l := [.int .u64 x1, .int .u64 y1]) (n := 30) Tryd.func47 rfl rfl (by simp) (fun a hF => ?_)
  refine reg [] [] [0, 1] [pl 0 (.int .u64 x1), pl 1 (.int .u64 y1)] hF hS Fol (by kernel_rfl) (by kernel_rfl) (by kernel_rfl) ?_ (fun a w hF hS => ?_)
  · exact obs_nil
  refine seq_cut (fun a w => Fr 30 [pl 0 (.int .u64 x1), pl 1 (.int .u64 y1)] a ∧ Sep w0 B w (fs) ∧ ((bits_Mul_J1 x1 y1)).bind some = some r) ?_ ?_
  · rintro a w ⟨hF, hS, hm⟩
    unfold bits_Mul_J1 at hm
    obtain ⟨r1, hr1, hm⟩ := call_b hm
    refine reg [⟨false, [], callFunc 55 #[.int .u64 x1, .int .u64 y1], .tuple #[.int .u64 r1.1, .int .u64 r1.2]⟩] [none, none, some (.tuple #[.int .u64 r1.1, .int .u64 r1.2]), none, none, none, none, none] [8, 9] [pl 8 (.int .u64 r1.1), pl 9 (.int .u64 r1.2)] hF hS Fol (by kernel_rfl) (by kernel_rfl) (by kernel_rfl) ?_ (fun a w hF hS => ?_)
    · exact obs_cons (ob_call Tryd.func55 (by kernel_rfl) rfl (fun _ _ hS => bits_Mul64_w hr1 hS )) <| obs_nil
    refine reg [] [] [4, 5] [pl 4 (.int .u64 r1.1), pl 5 (.int .u64 r1.2)] hF hS Fol (by kernel_rfl) (by kernel_rfl) (by kernel_rfl) ?_ (fun a w hF hS => ?_)
    · exact obs_nil
    refine wpIn_ret ?_
    have hm : some (r1.1, r1.2) = some r := hm
    obtain rfl := Option.some.inj hm
    exact retV (rs := [.tmp 4, .tmp 5]) (vs := [.int .u64 r1.1, .int .u64 r1.2]) hF rfl (rv_t (by kernel_rfl) <| rv_t (by kernel_rfl) <| rv_nil) rfl ⟨rfl, hS⟩
  · refine cond_f ?_
    refine wpIn_skip ?_
    refine then_n ?_
    exact ⟨hF.weak [0, 1] (by kernel_rfl), hS, hm⟩

noncomputable def slices_Repeat_J4  (r1 : (Int × Int)) (newslice1 : List Int) (n2 : Int) : Option (St (List Int × Int) (List Int)) :=
  asrt (0 ≤ n2 ∧ n2 ≤ (((Int.toNat (w64 r1.2)) : Nat) : Int) ∧ (((Int.toNat (w64 r1.2)) : Nat) : Int) ≤ (((Int.toNat (w64 r1.2)) : Nat) : Int)) <| asrt (0 ≤ (0 : Int) ∧ (0 : Int) ≤ n2 ∧ n2 ≤ (((Int.toNat (w64 r1.2)) : Nat) : Int)) <| some (.next ((putL newslice1 (Int.toNat n2) (List.take ((cut newslice1 n2 (((Int.toNat (w64 r1.2)) : Nat) : Int)).length) (cut newslice1 (0 : Int) n2))), (w64 (n2 + (minI (((cut newslice1 n2 (((Int.toNat (w64 r1.2)) : Nat) : Int)).length : Nat) : Int) (((cut newslice1 (0 : Int) n2).length : Nat) : Int))))))

noncomputable def slices_Repeat_J3  (newslice2 : List Int) : Option (List Int) :=
  some newslice2

noncomputable def slices_Repeat_K1  : (List Int) → Option (List Int) :=
  fun (x : (List Int)) => match x with | newslice2 => slices_Repeat_J3 newslice2

noncomputable def slices_Repeat_L1  (r1 : (Int × Int)) : (List Int × Int) → Option (St (List Int × Int) (List Int)) :=
  fun (x : (List Int × Int)) => match x with | (newslice1, n2) => if (decide (n2 < (((Int.toNat (w64 r1.2)) : Nat) : Int))) then ((slices_Repeat_J4 r1 newslice1 n2)) else (some (.done newslice1))

noncomputable def slices_Repeat_J2  (x1 : List Int) (r1 : (Int × Int)) : Option (List Int) :=
  asrt ((0 : Int) ≤ (w64 r1.2) ∧ (w64 r1.2) ≤ bigN) <| (loop (slices_Repeat_L1 r1) ((putL (List.replicate (Int.toNat (w64 r1.2)) (0 : Int)) 0 (List.take (Int.toNat (w64 r1.2)) x1)), (minI (((Int.toNat (w64 r1.2)) : Nat) : Int) (x1.length : Int)))).bind slices_Repeat_K1

noncomputable def slices_Repeat_J1  (x1 : List Int) (count1 : Int) : Option (List Int) :=
  (bits_Mul_m (IntKind.wrap .u64 (x1.length : Int)) (IntKind.wrap .u64 count1)).bind fun r1 => if ((decide ((0 : Int) < r1.1)) || (decide ((9223372036854775807 : Int) < r1.2))) then none else ((slices_Repeat_J2 x1 r1))

noncomputable def slices_Repeat_m  (x1 : List Int) (count1 : Int) : Option (List Int) :=
  if (decide (count1 < 0)) then none else ((slices_Repeat_J1 x1 count1))

set_option maxRecDepth 100000 in
set_option maxHeartbeats 4000000 in
theorem slices_Repeat_w {A1 : Option Addr} {c1 : Nat} {n1 : Nat} {x1 : List Int} {count1 : Int} {r : (List Int)} {w0 w : World} {B : Nat} {fs : List HP} (hm : slices_Repeat_m x1 count1 = some r) (hS : Sep w0 B w (fs)) (hr_x1 : RdF w0 B fs A1 (vI x1)) (_hc_x1 : x1.length ≤ c1) (_hn_x1 : n1 = x1.length) :
    Calls Tryd.prog 31 #[.slice A1 n1 c1, .int .i64 count1] w fun e w' => ∃ v, e = .returned v ∧ ∃ (A3 : Option Addr) (c3 : Nat), v = .slice A3 r.length c3 ∧ Sep w0 B w' (own 3 (.slice A3 r.length c3) (vI r) :: fs) := by
  obtain ⟨i3, hi3, hz3, hs3, hb3⟩ := info_parts Info3
  obtain rfl := _hn_x1
  unfold slices_Repeat_m at hm
  replace hm := start_b hm
  refine enter (l := [.slice A1 x1.length c1, .int .i64 count1]) (n := 48) Tryd.func31 rfl rfl (by simp) (fun a hF => ?_)
  refine reg [] [] [0, 1] [pl 0 (.slice A1 x1.length c1), pl 1 (.int .i64 count1)] hF hS Fol (by kernel_rfl) (by kernel_rfl) (by kernel_rfl) ?_ (fun a w hF hS => ?_)
  · exact obs_nil
  refine seq_cut (fun a w => Fr 48 [pl 0 (.slice A1 x1.length c1), pl 1 (.int .i64 count1)] a ∧ Sep w0 B w (fs) ∧ ((slices_Repeat_J1 x1 count1)).bind some = some r) ?_ ?_
  · rintro a w ⟨hF, hS, hm⟩
    unfold slices_Repeat_J1 at hm
    obtain ⟨r1, hr1, hm⟩ := call_b hm
    refine reg [⟨false, [], callFunc 47 #[.int .u64 (IntKind.wrap .u64 (x1.length : Int)), .int .u64 (IntKind.wrap .u64 count1)], .tuple #[.int .u64 r1.1, .int .u64 r1.2]⟩] [none, none, none, none, none, some (.tuple #[.int .u64 r1.1, .int .u64 r1.2]), none, none, none, none, none] [0, 5, 6] [pl 0 (.slice A1 x1.length c1), pl 5 (.int .u64 r1.1), pl 6 (.int .u64 r1.2)] hF hS Fol (by kernel_rfl) (by kernel_rfl) (by kernel_rfl) ?_ (fun a w hF hS => ?_)
    · exact obs_cons (ob_call Tryd.func47 (by kernel_rfl) rfl (fun _ _ hS => bits_Mul_w hr1 hS )) <| obs_nil
    refine seq_cut (fun a w => Fr 48 [pl 0 (.slice A1 x1.length c1), pl 6 (.int .u64 r1.2)] a ∧ Sep w0 B w (fs) ∧ ((slices_Repeat_J2 x1 r1)).bind some = some r) ?_ ?_
    · rintro a w ⟨hF, hS, hm⟩
      unfold slices_Repeat_J2 at hm
      refine seqR ?_
      obtain ⟨hp1, hm⟩ := asrt_b hm
      refine at_run 2 [] [] [0, 29] [pl 0 (.slice A1 x1.length c1), pl 29 (.int .i64 (w64 r1.2))] hF hS (by kernel_rfl) (by kernel_rfl) ?_ (fun a w hF hS => ?_)
      · exact obs_nil
      obtain ⟨A2, c2, w, hrun, hS⟩ := run_mk1 (P := Tryd.prog) (t := 22) (Value.int .i64) (0 : Int) hS .i64 .i64 Und22 hi3 hz3 hs3 (by omega) rfl hp1
      have hS : Sep w0 B w (own 3 (.slice A2 (Int.toNat (w64 r1.2)) c2) (vI (List.replicate (Int.toNat (w64 r1.2)) (0 : Int))) :: fs) := hS
      refine at_do (d := 30) hF (by kernel_rfl) (by kernel_rfl) hrun (fun a hF => ?_)
      refine at_run 1 [] [] [0, 7] [pl 0 (.slice A1 x1.length c1), pl 7 (.slice A2 (Int.toNat (w64 r1.2)) c2)] hF hS (by kernel_rfl) (by kernel_rfl) ?_ (fun a w hF hS => ?_)
      · exact obs_nil
      refine at_end [0, 7] [pl 0 (.slice A1 x1.length c1), pl 7 (.slice A2 (Int.toNat (w64 r1.2)) c2)] hF rfl (by kernel_rfl) (fun hF => ?_)
      refine then_n ?_
      refine seqR ?_
      refine at_run 2 [] [] [7, 31, 32] [pl 7 (.slice A2 (Int.toNat (w64 r1.2)) c2), pl 31 (.slice A2 (Int.toNat (w64 r1.2)) c2), pl 32 (.slice A1 x1.length c1)] hF hS (by kernel_rfl) (by kernel_rfl) ?_ (fun a w hF hS => ?_)
      · exact obs_nil
      obtain ⟨w, hrun, hS⟩ := run_copy0 (P := Tryd.prog) (t := 22) (t2 := 22) (ty := 3) (ys := x1) (A2 := A1) (n2 := x1.length) (c2 := c1) (hS.at_ 0 rfl) (hr_x1 _ (hS.dropN 1)) rfl Und22 hi3 hs3
      refine at_do (d := 33) hF (by kernel_rfl) (by kernel_rfl) hrun (fun a hF => ?_)
      have hS : Sep w0 B w (own 3 (.slice A2 (Int.toNat (w64 r1.2)) c2) (vI (putL (List.replicate (Int.toNat (w64 r1.2)) (0 : Int)) 0 (List.take (Int.toNat (w64 r1.2)) x1))) :: fs) := hS
      refine at_run 1 [] [] [7, 8] [pl 7 (.slice A2 (Int.toNat (w64 r1.2)) c2), pl 8 (.int .i64 (minI (((Int.toNat (w64 r1.2)) : Nat) : Int) (x1.length : Int)))] hF hS (by kernel_rfl) (by kernel_rfl) ?_ (fun a w hF hS => ?_)
      · exact obs_nil
      refine at_end [7, 8] [pl 7 (.slice A2 (Int.toNat (w64 r1.2)) c2), pl 8 (.int .i64 (minI (((Int.toNat (w64 r1.2)) : Nat) : Int) (x1.length : Int)))] hF rfl (by kernel_rfl) (fun hF => ?_)
      refine then_n ?_
      refine seq_cut (fun a w => ∃ (newslice2 : List Int), Fr 48 [pl 7 (.slice A2 (Int.toNat (w64 r1.2)) c2)] a ∧ Sep w0 B w (own 3 (.slice A2 (Int.toNat (w64 r1.2)) c2) (vI newslice2) :: fs) ∧ (slices_Repeat_J3 newslice2).bind some = some r) ?_ ?_
      · rintro a w ⟨newslice2, hF, hS, hm⟩
        unfold slices_Repeat_J3 at hm
        refine reg [] [] [4] [pl 4 (.slice A2 (Int.toNat (w64 r1.2)) c2)] hF hS Fol (by kernel_rfl) (by kernel_rfl) (by kernel_rfl) ?_ (fun a w hF hS => ?_)
        · exact obs_nil
        refine wpIn_ret ?_
        have hl1 := (hS.at_ 0 rfl).len1
        have hS := (hS.at_ 0 rfl).reN hl1
        have hS : Sep w0 B w (own 3 (.slice A2 newslice2.length c2) (vI newslice2) :: fs) := hS
        have hF := hF.cast (t := 4) (v := .slice A2 (Int.toNat (w64 r1.2)) c2) (v' := .slice A2 newslice2.length c2) rfl rfl (congrArg (fun k => Value.slice A2 k c2) hl1)
        have hm : some newslice2 = some r := hm
        obtain rfl := Option.some.inj hm
        exact retV (rs := [.tmp 4]) (vs := [.slice A2 newslice2.length c2]) hF rfl (rv_t (by kernel_rfl) <| rv_nil) rfl ⟨_, rfl, A2, c2, rfl, hS⟩
      · refine wpIn_block ?_
        refine wp_loop_model (S := (List Int × Int)) (R := (List Int)) (slices_Repeat_L1 r1) (fun x => (slices_Repeat_K1 x).bind some) r (fun (x : (List Int × Int)) a w => Fr 48 [pl 7 (.slice A2 (Int.toNat (w64 r1.2)) c2), pl 8 (.int .i64 x.2)] a ∧ Sep w0 B w (own 3 (.slice A2 (Int.toNat (w64 r1.2)) c2) (vI x.1) :: fs)) (assoc_b hm) ⟨hF.weak [7, 8] (by kernel_rfl), hS⟩ ?_
        clear hF hS hm
        rintro nn1 ⟨newslice1, n2⟩ a w ⟨hF, hS⟩ hm
        generalize hφ1 : stK (slices_Repeat_L1 r1) nn1 (fun x => (slices_Repeat_K1 x).bind some) = φ1 at hm
        unfold slices_Repeat_L1 at hm
        dsimp only at hF hS hm
        refine seq_cut (fun a w => Fr 48 [pl 7 (.slice A2 (Int.toNat (w64 r1.2)) c2), pl 8 (.int .i64 n2)] a ∧ Sep w0 B w (own 3 (.slice A2 (Int.toNat (w64 r1.2)) c2) (vI newslice1) :: fs) ∧ ((slices_Repeat_J4 r1 newslice1 n2)).bind φ1 = some r) ?_ ?_
        · rintro a w ⟨hF, hS, hm⟩
          unfold slices_Repeat_J4 at hm
          refine wpIn_block ?_
          obtain ⟨hp2, hm⟩ := asrt_b hm
          obtain ⟨hp3, hm⟩ := asrt_b hm
          have hb1 := cutb (n := (Int.toNat (w64 r1.2))) ((hS.at_ 0 rfl).len1) hp2
          have hb2 := cutb (n := (Int.toNat (w64 r1.2))) ((hS.at_ 0 rfl).len1) hp3
          refine regMix4 [0, 1, 2, 3, 4, 5, 6] [7, 8, 9] [⟨true, [], vS (Instr.sliceAt 22 (.slice A2 (Int.toNat (w64 r1.2)) c2) (some (.int .i64 n2)) none none), .slice (cutAddr A2 c2 n2) ((cut newslice1 n2 (((Int.toNat (w64 r1.2)) : Nat) : Int)).length) (c2 - Int.toNat n2)⟩, ⟨true, [], vS (Instr.sliceAt 22 (.slice A2 (Int.toNat (w64 r1.2)) c2) none (some (.int .i64 n2)) none), .slice (cutAddr A2 c2 (0 : Int)) ((cut newslice1 (0 : Int) n2).length) (c2 - Int.toNat (0 : Int))⟩] [none, none, none, some (.slice (cutAddr A2 c2 n2) ((cut newslice1 n2 (((Int.toNat (w64 r1.2)) : Nat) : Int)).length) (c2 - Int.toNat n2)), none, none, some (.slice (cutAddr A2 c2 (0 : Int)) ((cut newslice1 (0 : Int) n2).length) (c2 - Int.toNat (0 : Int)))] [7, 38, 41, 44] [pl 7 (.slice A2 (Int.toNat (w64 r1.2)) c2), pl 38 (.int .i64 n2), pl 41 (.slice (cutAddr A2 c2 n2) ((cut newslice1 n2 (((Int.toNat (w64 r1.2)) : Nat) : Int)).length) (c2 - Int.toNat n2)), pl 44 (.slice (cutAddr A2 c2 (0 : Int)) ((cut newslice1 (0 : Int) n2).length) (c2 - Int.toNat (0 : Int)))] hF hS Fol (by kernel_rfl) (by kernel_rfl) (by kernel_rfl) (by kernel_rfl) (by kernel_rfl) ?_ (fun a w hF hS => ?_)
          · exact obs_cons (ob_cutn (l := newslice1) (k := .i64) (k' := .i64) Und22 hi3 hs3 ((hS.at_ 0 rfl).len1) (.inl rfl) (.inr ⟨rfl, rfl⟩) (fun _ => hb1) ((hS.at_ 0 rfl).cap1)) <| obs_cons (ob_cutn (l := newslice1) (k := .i64) (k' := .i64) Und22 hi3 hs3 ((hS.at_ 0 rfl).len1) (.inr ⟨rfl, rfl⟩) (.inl rfl) (fun _ => hb2) ((hS.at_ 0 rfl).cap1)) <| obs_nil
          obtain ⟨w, hrun, hS⟩ := run_copyC (P := Tryd.prog) (t := 22) (t2 := 22) (ty := 3) (ys := (cut newslice1 (0 : Int) n2)) (A2 := (cutAddr A2 c2 (0 : Int))) (n2 := (cut newslice1 (0 : Int) n2).length) (c2 := (c2 - Int.toNat (0 : Int))) (dc := (c2 - Int.toNat n2)) (hS.at_ 0 rfl) (Rd.cutF (hS.at_ 0 rfl).rd hb2 ((hS.at_ 0 rfl).cap1)) rfl Und22 hi3 hs3 hb1
          refine at_do (d := 45) hF (by kernel_rfl) (by kernel_rfl) hrun (fun a hF => ?_)
          have hS : Sep w0 B w (own 3 (.slice A2 (Int.toNat (w64 r1.2)) c2) (vI (putL newslice1 (Int.toNat n2) (List.take ((cut newslice1 n2 (((Int.toNat (w64 r1.2)) : Nat) : Int)).length) (cut newslice1 (0 : Int) n2)))) :: fs) := hS
          refine at_run 2 [] [] [7, 8] [pl 7 (.slice A2 (Int.toNat (w64 r1.2)) c2), pl 8 (.int .i64 (w64 (n2 + (minI (((cut newslice1 n2 (((Int.toNat (w64 r1.2)) : Nat) : Int)).length : Nat) : Int) (((cut newslice1 (0 : Int) n2).length : Nat) : Int)))))] hF hS (by kernel_rfl) (by kernel_rfl) ?_ (fun a w hF hS => ?_)
          · exact obs_nil
          refine at_end [7, 8] [pl 7 (.slice A2 (Int.toNat (w64 r1.2)) c2), pl 8 (.int .i64 (w64 (n2 + (minI (((cut newslice1 n2 (((Int.toNat (w64 r1.2)) : Nat) : Int)).length : Nat) : Int) (((cut newslice1 (0 : Int) n2).length : Nat) : Int)))))] hF rfl (by kernel_rfl) (fun hF => ?_)
          refine np_n ?_
          refine block_n ?_
          refine then_n ?_
          rw [← hφ1] at hm
          exact ⟨((putL newslice1 (Int.toNat n2) (List.take ((cut newslice1 n2 (((Int.toNat (w64 r1.2)) : Nat) : Int)).length) (cut newslice1 (0 : Int) n2))), (w64 (n2 + (minI (((cut newslice1 n2 (((Int.toNat (w64 r1.2)) : Nat) : Int)).length : Nat) : Int) (((cut newslice1 (0 : Int) n2).length : Nat) : Int))))), ⟨hF.weak [7, 8] (by kernel_rfl), hS⟩, hm⟩
        · refine reg [] [] [7, 8, 37] [pl 7 (.slice A2 (Int.toNat (w64 r1.2)) c2), pl 8 (.int .i64 n2), pl 37 (.bool (decide (n2 < (((Int.toNat (w64 r1.2)) : Nat) : Int))))] hF hS Fol (by kernel_rfl) (by kernel_rfl) (by kernel_rfl) ?_ (fun a w hF hS => ?_)
          · exact obs_nil
          refine cond_ev (t := 37) (b := decide (n2 < (((Int.toNat (w64 r1.2)) : Nat) : Int))) hF (by kernel_rfl) (fun hb => ?_) (fun hb => ?_)
          · replace hm := if_t hm hb
            refine wpIn_skip ?_
            refine then_n ?_
            exact ⟨hF.weak [7, 8] (by kernel_rfl), hS, hm⟩
          · replace hm := if_f hm hb
            refine wpIn_exit ?_
            refine then_e (then_e (block_e (then_n ?_)))
            rw [← hφ1] at hm
            replace hm := done_b hm
            unfold slices_Repeat_K1 at hm
            try dsimp only at hm
            have hm : (slices_Repeat_J3 newslice1).bind some = some r := hm
            exact ⟨newslice1, hF.weak [7] (by kernel_rfl), hS, hm⟩
    · refine reg [] [] [0, 6, 26] [pl 0 (.slice A1 x1.length c1), pl 6 (.int .u64 r1.2), pl 26 (.bool ((decide ((0 : Int) < r1.1)) || (decide ((9223372036854775807 : Int) < r1.2))))] hF hS Fol (by kernel_rfl) (by kernel_rfl) (by kernel_rfl) ?_ (fun a w hF hS => ?_)
      · exact obs_nil
      refine cond_ev (t := 26) (b := (decide ((0 : Int) < r1.1)) || (decide ((9223372036854775807 : Int) < r1.2))) hF (by kernel_rfl) (fun hb => ?_) (fun hb => ?_)
      · replace hm := if_t hm hb
        simp at hm
      · replace hm := if_f hm hb
        refine wpIn_skip ?_
        refine then_n ?_
        exact ⟨hF.weak [0, 6] (by kernel_rfl), hS, hm⟩
  · refine reg [] [] [0, 1, 10] [pl 0 (.slice A1 x1.length c1), pl 1 (.int .i64 count1), pl 10 (.bool (decide (count1 < 0)))] hF hS Fol (by kernel_rfl) (by kernel_rfl) (by kernel_rfl) ?_ (fun a w hF hS => ?_)
    · exact obs_nil
    refine cond_ev (t := 10) (b := decide (count1 < 0)) hF (by kernel_rfl) (fun hb => ?_) (fun hb => ?_)
    · replace hm := if_t hm hb
      simp at hm
    · replace hm := if_f hm hb
      refine wpIn_skip ?_
      refine then_n ?_
      exact ⟨hF.weak [0, 1] (by kernel_rfl), hS, hm⟩

noncomputable def tour_Far_J6  (z1 : Int) (far5 : List Int) (queue4 : List Int) : Option (St (List Int × List Int × Int) (List Int × List Int)) :=
  some (.next (far5, queue4, (w64 (z1 + 1))))

noncomputable def tour_Far_J5  (r1 : (List (List Int) × Int)) (r2 : (List Int)) (queue1 : List Int) (far3 : List Int) (queue2 : List Int) (z1 : Int) : Option (St (List Int × List Int × Int) (List Int × List Int)) :=
  asrt (0 ≤ z1 ∧ z1 < (((geti2 r1.1 (geti queue1 0)).length : Nat) : Int)) <| asrt (0 ≤ (geti (geti2 r1.1 (geti queue1 0)) z1) ∧ (geti (geti2 r1.1 (geti queue1 0)) z1) < (r2.length : Int)) <| if (decide ((geti far3 (geti (geti2 r1.1 (geti queue1 0)) z1)) < 0)) then (asrt (0 ≤ (0 : Int) ∧ (0 : Int) < (queue2.length : Int)) <| asrt (0 ≤ (geti queue2 0) ∧ (geti queue2 0) < (r2.length : Int)) <| asrt (0 ≤ (geti (geti2 r1.1 (geti queue1 0)) z1) ∧ (geti (geti2 r1.1 (geti queue1 0)) z1) < (r2.length : Int)) <| asrt ((queue2.length : Int) + 1 ≤ bigN) <| (tour_Far_J6 z1) (far3.set (Int.toNat (geti (geti2 r1.1 (geti queue1 0)) z1)) (w64 ((geti far3 (geti queue2 0)) + 1))) (queue2 ++ ([geti (geti2 r1.1 (geti queue1 0)) z1] : List Int))) else ((tour_Far_J6 z1) far3 queue2)

noncomputable def tour_Far_J4  (far4 : List Int) (queue3 : List Int) : Option (St (List Int × List Int) (List Int)) :=
  asrt (0 ≤ (1 : Int) ∧ (1 : Int) ≤ (queue3.length : Int) ∧ (queue3.length : Int) ≤ (queue3.length : Int)) <| some (.next (far4, (cut queue3 (1 : Int) (queue3.length : Int))))

noncomputable def tour_Far_K2  : (List Int × List Int) → Option (St (List Int × List Int) (List Int)) :=
  fun (x : (List Int × List Int)) => match x with | (far4, queue3) => tour_Far_J4 far4 queue3

noncomputable def tour_Far_L2  (r1 : (List (List Int) × Int)) (r2 : (List Int)) (queue1 : List Int) : (List Int × List Int × Int) → Option (St (List Int × List Int × Int) (List Int × List Int)) :=
  fun (x : (List Int × List Int × Int)) => match x with | (far3, queue2, z1) => if (decide (z1 < (((geti2 r1.1 (geti queue1 0)).length : Nat) : Int))) then ((tour_Far_J5 r1 r2 queue1 far3 queue2 z1)) else (some (.done (far3, queue2)))

noncomputable def tour_Far_J3  (r1 : (List (List Int) × Int)) (r2 : (List Int)) (far1 : List Int) (queue1 : List Int) : Option (St (List Int × List Int) (List Int)) :=
  asrt (0 ≤ (0 : Int) ∧ (0 : Int) < (queue1.length : Int)) <| asrt (0 ≤ (geti queue1 0) ∧ (geti queue1 0) < (r1.1.length : Int)) <| (loop (tour_Far_L2 r1 r2 queue1) (far1, queue1, 0)).bind tour_Far_K2

noncomputable def tour_Far_J2  (far2 : List Int) : Option (List Int × Int) :=
  some (far2, 0)

noncomputable def tour_Far_K1  : (List Int) → Option (List Int × Int) :=
  fun (x : (List Int)) => match x with | far2 => tour_Far_J2 far2

noncomputable def tour_Far_L1  (r1 : (List (List Int) × Int)) (r2 : (List Int)) : (List Int × List Int) → Option (St (List Int × List Int) (List Int)) :=
  fun (x : (List Int × List Int)) => match x with | (far1, queue1) => if (decide ((0 : Int) < (queue1.length : Int))) then ((tour_Far_J3 r1 r2 far1 queue1)) else (some (.done far1))

noncomputable def tour_Far_J1  (from1 : Int) (r1 : (List (List Int) × Int)) : Option (List Int × Int) :=
  (slices_Repeat_m ([(-1)] : List Int) (r1.1.length : Int)).bind fun r2 => asrt (0 ≤ from1 ∧ from1 < (r2.length : Int)) <| (loop (tour_Far_L1 r1 r2) ((r2.set (Int.toNat from1) 0), ([from1] : List Int))).bind tour_Far_K1

noncomputable def tour_Far_m  (w1 : Int) (h1 : Int) (from1 : Int) : Option (List Int × Int) :=
  (tour_at_m w1 h1 ([from1] : List Int)).bind fun r1 => if (r1.2 != 0) then (some (([] : List Int), r1.2)) else ((tour_Far_J1 from1 r1))

set_option maxRecDepth 100000 in
set_option maxHeartbeats 4000000 in
theorem tour_Far_w {w1 : Int} {h1 : Int} {from1 : Int} {r : (List Int × Int)} {w0 w : World} {B : Nat} {fs : List HP} [GLV 0 glob0 w0 B] (hm : tour_Far_m w1 h1 from1 = some r) (hS : Sep w0 B w (fs)) :
    Calls Tryd.prog 9 #[.int .i64 w1, .int .i64 h1, .int .i64 from1] w fun e w' => ∃ v, e = .returned v ∧ ∃ (A8 : Option Addr) (c8 : Nat), v = .tuple #[.slice A8 r.1.length c8, .int .i64 r.2] ∧ Sep w0 B w' (own 3 (.slice A8 r.1.length c8) (vI r.1) :: fs) := by
  obtain ⟨i3, hi3, hz3, hs3, hb3⟩ := info_parts Info3
  obtain ⟨i22, hi22, hz22, hs22, hb22⟩ := info_parts Info22
  unfold tour_Far_m at hm
  replace hm := start_b hm
  refine enter (l := [.int .i64 w1, .int .i64 h1, .int .i64 from1]) (n := 71) Tryd.func9 rfl rfl (by simp) (fun a hF => ?_)
  refine reg [] [] [0, 1, 2] [pl 0 (.int .i64 w1), pl 1 (.int .i64 h1), pl 2 (.int .i64 from1)] hF hS Fol (by kernel_rfl) (by kernel_rfl) (by kernel_rfl) ?_ (fun a w hF hS => ?_)
  · exact obs_nil
  refine seqR ?_
  obtain ⟨r1, hr1, hm⟩ := call_b hm
  refine at_run 3 [] [] [2, 15, 16, 17] [pl 2 (.int .i64 from1), pl 15 (.int .i64 w1), pl 16 (.int .i64 h1), pl 17 (.int .i64 from1)] hF hS (by kernel_rfl) (by kernel_rfl) ?_ (fun a w hF hS => ?_)
  · exact obs_nil
  refine at_do (d := 18) (s := vS (Instr.buildSlice 22 1 #[(0, .int .i64 from1)])) (v := .slice (some ⟨w.heap.size, 0, none⟩) 1 1) (w' := w.alloc (.cells #[.int .i64 from1] 3)) hF (by kernel_rfl) (by kernel_rfl) (by kernel_rfl) (fun a hF => ?_)
  have hS : Sep w0 B (w.alloc (.cells #[.int .i64 from1] 3)) (own 3 (.slice (some (⟨w.heap.size, 0, none⟩ : Addr)) 1 1) (vI ([from1] : List Int)) :: (fs)) := hS.lit 3 #[.int .i64 from1] 1 rfl (by omega)
  generalize (some (⟨w.heap.size, 0, none⟩ : Addr)) = g1 at hF hS
  generalize w.alloc (.cells #[.int .i64 from1] 3) = w at hS ⊢
  refine at_call (f := 27) (args := #[.int .i64 w1, .int .i64 h1, .slice g1 1 1]) (d := 19) hF (by kernel_rfl) (by kernel_rfl) Tryd.func27 (by kernel_rfl) rfl (tour_at_w hr1 hS (fun _ hS => (hS.at_ 0 rfl).rd) ((hS.at_ 0 rfl).cap1) ((hS.at_ 0 rfl).len1)) (fun v a w hR hF => ?_)
  clear hS
  obtain ⟨A1, c1, hd1, rfl, hS⟩ := hR
  have hS : Sep w0 B w (rows 22 3 (.slice A1 r1.1.length c1) hd1 r1.1 :: own 3 (.slice g1 1 1) (vI ([from1] : List Int)) :: fs) := hS
  refine at_run 5 [] [] [2, 8, 9] [pl 2 (.int .i64 from1), pl 8 (.slice A1 r1.1.length c1), pl 9 (.int .i64 r1.2)] hF hS (by kernel_rfl) (by kernel_rfl) ?_ (fun a w hF hS => ?_)
  · exact obs_nil
  refine at_end [2, 8, 9] [pl 2 (.int .i64 from1), pl 8 (.slice A1 r1.1.length c1), pl 9 (.int .i64 r1.2)] hF rfl (by kernel_rfl) (fun hF => ?_)
  refine then_n ?_
  refine seq_cut (fun a w => Fr 71 [pl 2 (.int .i64 from1), pl 8 (.slice A1 r1.1.length c1)] a ∧ Sep w0 B w (rows 22 3 (.slice A1 r1.1.length c1) hd1 r1.1 :: fs) ∧ ((tour_Far_J1 from1 r1)).bind some = some r) ?_ ?_
  · rintro a w ⟨hF, hS, hm⟩
    unfold tour_Far_J1 at hm
    refine seqR ?_
    obtain ⟨r2, hr2, hm⟩ := call_b hm
    refine at_do (d := 25) (s := vS (Instr.buildSlice 22 1 #[(0, .int .i64 (-1))])) (v := .slice (some ⟨w.heap.size, 0, none⟩) 1 1) (w' := w.alloc (.cells #[.int .i64 (-1)] 3)) hF (by kernel_rfl) (by kernel_rfl) (by kernel_rfl) (fun a hF => ?_)
    have hS : Sep w0 B (w.alloc (.cells #[.int .i64 (-1)] 3)) (own 3 (.slice (some (⟨w.heap.size, 0, none⟩ : Addr)) 1 1) (vI ([(-1)] : List Int)) :: (rows 22 3 (.slice A1 r1.1.length c1) hd1 r1.1 :: fs)) := hS.lit 3 #[.int .i64 (-1)] 1 rfl (by omega)
    generalize (some (⟨w.heap.size, 0, none⟩ : Addr)) = g2 at hF hS
    generalize w.alloc (.cells #[.int .i64 (-1)] 3) = w at hS ⊢
    refine at_run 2 [] [] [2, 8, 25, 27] [pl 2 (.int .i64 from1), pl 8 (.slice A1 r1.1.length c1), pl 25 (.slice g2 1 1), pl 27 (.int .i64 (r1.1.length : Int))] hF hS (by kernel_rfl) (by kernel_rfl) ?_ (fun a w hF hS => ?_)
    · exact obs_nil
    refine at_call (f := 31) (args := #[.slice g2 1 1, .int .i64 (r1.1.length : Int)]) (d := 28) hF (by kernel_rfl) (by kernel_rfl) Tryd.func31 (by kernel_rfl) rfl (slices_Repeat_w hr2 hS (fun _ hS => (hS.at_ 0 rfl).rd) ((hS.at_ 0 rfl).cap1) ((hS.at_ 0 rfl).len1)) (fun v a w hR hF => ?_)
    clear hS
    obtain ⟨A2, c2, rfl, hS⟩ := hR
    have hS : Sep w0 B w (own 3 (.slice A2 r2.length c2) (vI r2) :: own 3 (.slice g2 1 1) (vI ([(-1)] : List Int)) :: rows 22 3 (.slice A1 r1.1.length c1) hd1 r1.1 :: fs) := hS
    refine at_run 1 [] [] [2, 8, 10] [pl 2 (.int .i64 from1), pl 8 (.slice A1 r1.1.length c1), pl 10 (.slice A2 r2.length c2)] hF hS (by kernel_rfl) (by kernel_rfl) ?_ (fun a w hF hS => ?_)
    · exact obs_nil
    refine at_end [2, 8, 10] [pl 2 (.int .i64 from1), pl 8 (.slice A1 r1.1.length c1), pl 10 (.slice A2 r2.length c2)] hF rfl (by kernel_rfl) (fun hF => ?_)
    refine then_n ?_
    refine seqR ?_
    obtain ⟨hp1, hm⟩ := asrt_b hm
    refine at_run 3 [⟨true, [], vS (Instr.indexAt 22 (.slice A2 r2.length c2) (.int .i64 from1)), .pointer (some (sAddr A2 from1))⟩] [none, none, some (.pointer (some (sAddr A2 from1)))] [2, 8, 10, 31] [pl 2 (.int .i64 from1), pl 8 (.slice A1 r1.1.length c1), pl 10 (.slice A2 r2.length c2), pl 31 (.pointer (some (sAddr A2 from1)))] hF hS (by kernel_rfl) (by kernel_rfl) ?_ (fun a w hF hS => ?_)
    · exact obs_cons (ob_ix1 (f := (Value.int .i64)) (m := r2) Und22 hi3 hs3 (hS.at_ 0 rfl).rd rfl (fun _ => hp1)) <| obs_nil
    obtain ⟨w, hrun, hS⟩ := run_set1 (P := Tryd.prog) (t := 3) (x := 0) (Value.int .i64) (hS.at_ 0 rfl) hi3 hs3 rfl rfl hp1
    refine at_skip hF (by kernel_rfl) hrun ?_
    have hS : Sep w0 B w (own 3 (.slice A2 r2.length c2) (vI (r2.set (Int.toNat from1) 0)) :: own 3 (.slice g2 1 1) (vI ([(-1)] : List Int)) :: rows 22 3 (.slice A1 r1.1.length c1) hd1 r1.1 :: fs) := hS
    refine at_end [2, 8, 10] [pl 2 (.int .i64 from1), pl 8 (.slice A1 r1.1.length c1), pl 10 (.slice A2 r2.length c2)] hF rfl (by kernel_rfl) (fun hF => ?_)
    refine then_n ?_
    refine seq_cut (fun a w => ∃ (far2 : List Int), Fr 71 [pl 10 (.slice A2 r2.length c2)] a ∧ Sep w0 B w (own 3 (.slice A2 r2.length c2) (vI far2) :: fs) ∧ (tour_Far_J2 far2).bind some = some r) ?_ ?_
    · rintro a w ⟨far2, hF, hS, hm⟩
      unfold tour_Far_J2 at hm
      refine reg [] [] [6, 7] [pl 6 (.slice A2 r2.length c2), pl 7 (.int .i64 0)] hF hS Fol (by kernel_rfl) (by kernel_rfl) (by kernel_rfl) ?_ (fun a w hF hS => ?_)
      · exact obs_nil
      refine wpIn_ret ?_
      have hl3 := (hS.at_ 0 rfl).len1
      have hS := (hS.at_ 0 rfl).reN hl3
      have hS : Sep w0 B w (own 3 (.slice A2 far2.length c2) (vI far2) :: fs) := hS
      have hF := hF.cast (t := 6) (v := .slice A2 r2.length c2) (v' := .slice A2 far2.length c2) rfl rfl (congrArg (fun k => Value.slice A2 k c2) hl3)
      have hm : some (far2, 0) = some r := hm
      obtain rfl := Option.some.inj hm
      exact retV (rs := [.tmp 6, .tmp 7]) (vs := [.slice A2 far2.length c2, .int .i64 0]) hF rfl (rv_t (by kernel_rfl) <| rv_t (by kernel_rfl) <| rv_nil) rfl ⟨_, rfl, A2, c2, rfl, hS⟩
    · refine seqR ?_
      refine at_run 1 [] [] [8, 10, 32] [pl 8 (.slice A1 r1.1.length c1), pl 10 (.slice A2 r2.length c2), pl 32 (.int .i64 from1)] hF hS (by kernel_rfl) (by kernel_rfl) ?_ (fun a w hF hS => ?_)
      · exact obs_nil
      refine at_do (d := 33) (s := vS (Instr.buildSlice 22 1 #[(0, .int .i64 from1)])) (v := .slice (some ⟨w.heap.size, 0, none⟩) 1 1) (w' := w.alloc (.cells #[.int .i64 from1] 3)) hF (by kernel_rfl) (by kernel_rfl) (by kernel_rfl) (fun a hF => ?_)
      have hS : Sep w0 B (w.alloc (.cells #[.int .i64 from1] 3)) (own 3 (.slice (some (⟨w.heap.size, 0, none⟩ : Addr)) 1 1) (vI ([from1] : List Int)) :: (own 3 (.slice A2 r2.length c2) (vI (r2.set (Int.toNat from1) 0)) :: own 3 (.slice g2 1 1) (vI ([(-1)] : List Int)) :: rows 22 3 (.slice A1 r1.1.length c1) hd1 r1.1 :: fs)) := hS.lit 3 #[.int .i64 from1] 1 rfl (by omega)
      generalize (some (⟨w.heap.size, 0, none⟩ : Addr)) = g3 at hF hS
      generalize w.alloc (.cells #[.int .i64 from1] 3) = w at hS ⊢
      refine at_run 1 [] [] [8, 10, 11] [pl 8 (.slice A1 r1.1.length c1), pl 10 (.slice A2 r2.length c2), pl 11 (.slice g3 1 1)] hF hS (by kernel_rfl) (by kernel_rfl) ?_ (fun a w hF hS => ?_)
      · exact obs_nil
      refine at_end [8, 10, 11] [pl 8 (.slice A1 r1.1.length c1), pl 10 (.slice A2 r2.length c2), pl 11 (.slice g3 1 1)] hF rfl (by kernel_rfl) (fun hF => ?_)
      refine then_n ?_
      refine wpIn_block ?_
      have hS : Sep w0 B w (ownQ 3 g3 1 1 (vI ([from1] : List Int)) :: own 3 (.slice A2 r2.length c2) (vI (r2.set (Int.toNat from1) 0)) :: own 3 (.slice g2 1 1) (vI ([(-1)] : List Int)) :: rows 22 3 (.slice A1 r1.1.length c1) hd1 r1.1 :: fs) := (hS.at_ 0 rfl).ofOwnQ
      have hl2 := (hS.at_ 0 rfl).lenQ
      have hS := (hS.at_ 0 rfl).reNQ hl2
      have hS : Sep w0 B w (ownQ 3 g3 (([from1] : List Int).length) 1 (vI ([from1] : List Int)) :: own 3 (.slice A2 r2.length c2) (vI (r2.set (Int.toNat from1) 0)) :: own 3 (.slice g2 1 1) (vI ([(-1)] : List Int)) :: rows 22 3 (.slice A1 r1.1.length c1) hd1 r1.1 :: fs) := hS
      have hF := hF.cast (t := 11) (v := .slice g3 1 1) (v' := .slice g3 (([from1] : List Int).length) 1) rfl rfl (congrArg (fun k => Value.slice g3 k 1) hl2)
      have hS := hS.pickN 4 [3, 1, 0] (by decide)
      refine wp_loop_model (S := (List Int × List Int)) (R := (List Int)) (tour_Far_L1 r1 r2) (fun x => (tour_Far_K1 x).bind some) r (fun (x : (List Int × List Int)) a w => ∃ (A3 : Option Addr) (c3 : Nat), Fr 71 [pl 8 (.slice A1 r1.1.length c1), pl 10 (.slice A2 r2.length c2), pl 11 (.slice A3 x.2.length c3)] a ∧ Sep w0 B w (rows 22 3 (.slice A1 r1.1.length c1) hd1 r1.1 :: own 3 (.slice A2 r2.length c2) (vI x.1) :: ownQ 3 A3 x.2.length c3 (vI x.2) :: fs)) (assoc_b hm) ⟨g3, 1, hF.weak [8, 10, 11] (by kernel_rfl), hS⟩ ?_
      clear hF hS hm
      rintro nn1 ⟨far1, queue1⟩ a w ⟨A3, c3, hF, hS⟩ hm
      generalize hφ1 : stK (tour_Far_L1 r1 r2) nn1 (fun x => (tour_Far_K1 x).bind some) = φ1 at hm
      unfold tour_Far_L1 at hm
      dsimp only at hF hS hm
      refine seq_cut (fun a w => Fr 71 [pl 8 (.slice A1 r1.1.length c1), pl 10 (.slice A2 r2.length c2), pl 11 (.slice A3 queue1.length c3)] a ∧ Sep w0 B w (rows 22 3 (.slice A1 r1.1.length c1) hd1 r1.1 :: own 3 (.slice A2 r2.length c2) (vI far1) :: ownQ 3 A3 queue1.length c3 (vI queue1) :: fs) ∧ ((tour_Far_J3 r1 r2 far1 queue1)).bind φ1 = some r) ?_ ?_
      · rintro a w ⟨hF, hS, hm⟩
        unfold tour_Far_J3 at hm
        refine seq_cut (fun a w => ∃ (far4 : List Int) (queue3 : List Int) (A5 : Option Addr) (c5 : Nat), Fr 71 [pl 8 (.slice A1 r1.1.length c1), pl 10 (.slice A2 r2.length c2), pl 11 (.slice A5 queue3.length c5)] a ∧ Sep w0 B w (rows 22 3 (.slice A1 r1.1.length c1) hd1 r1.1 :: own 3 (.slice A2 r2.length c2) (vI far4) :: ownQ 3 A5 queue3.length c5 (vI queue3) :: fs) ∧ (tour_Far_J4 far4 queue3).bind φ1 = some r) ?_ ?_
        · rintro a w ⟨far4, queue3, A5, c5, hF, hS, hm⟩
          unfold tour_Far_J4 at hm
          obtain ⟨hp10, hm⟩ := asrt_b hm
          refine reg1 [⟨true, [], vS (Instr.sliceAt 22 (.slice A5 queue3.length c5) (some (.int .i64 (1 : Int))) none none), .slice (cutAddr A5 c5 (1 : Int)) ((cut queue3 (1 : Int) (queue3.length : Int)).length) (c5 - Int.toNat (1 : Int))⟩] [none, some (.slice (cutAddr A5 c5 (1 : Int)) ((cut queue3 (1 : Int) (queue3.length : Int)).length) (c5 - Int.toNat (1 : Int))), none] [8, 10, 11] [pl 8 (.slice A1 r1.1.length c1), pl 10 (.slice A2 r2.length c2), pl 11 (.slice (cutAddr A5 c5 (1 : Int)) ((cut queue3 (1 : Int) (queue3.length : Int)).length) (c5 - Int.toNat (1 : Int)))] hF hS Fol (by kernel_rfl) (by kernel_rfl) (by kernel_rfl) ?_ (fun a w hF hS => ?_)
          · exact obs_cons (ob_cutn (l := queue3) (k := .i64) (k' := .i64) Und22 hi3 hs3 rfl (.inl rfl) (.inr ⟨rfl, rfl⟩) (fun _ => hp10) ((hS.at_ 2 rfl).capQ)) <| obs_nil
          refine then_n ?_
          have hS : Sep w0 B w (rows 22 3 (.slice A1 r1.1.length c1) hd1 r1.1 :: own 3 (.slice A2 r2.length c2) (vI far4) :: ownQ 3 (cutAddr A5 c5 (1 : Int)) ((cut queue3 (1 : Int) (queue3.length : Int)).length) (c5 - Int.toNat (1 : Int)) (vI (cut queue3 (1 : Int) (queue3.length : Int))) :: fs) := (hS.at_ 2 rfl).cutQ hp10
          rw [← hφ1] at hm
          exact ⟨(far4, (cut queue3 (1 : Int) (queue3.length : Int))), ⟨(cutAddr A5 c5 (1 : Int)), (c5 - Int.toNat (1 : Int)), hF.weak [8, 10, 11] (by kernel_rfl), hS⟩, hm⟩
        · refine wpIn_block ?_
          obtain ⟨hp2, hm⟩ := asrt_b hm
          obtain ⟨hp3, hm⟩ := asrt_b hm
          have hb1 := rowb (n := r1.1.length) (hS.at_ 0 rfl).lenR hp3
          refine reg [⟨true, [], vS (Instr.indexAt 22 (.slice A3 queue1.length c3) (.int .i64 0)), .pointer (some (sAddr A3 0))⟩, ⟨false, [], vS (Instr.loadAt 3 (.pointer (some (sAddr A3 0)))), .int .i64 (geti queue1 0)⟩, ⟨true, [], vS (Instr.indexAt 50 (.slice A1 r1.1.length c1) (.int .i64 (geti queue1 0))), .pointer (some (sAddr A1 (geti queue1 0)))⟩, ⟨false, [], vS (Instr.loadAt 22 (.pointer (some (sAddr A1 (geti queue1 0))))), .slice (hdA hd1 (geti queue1 0)) ((geti2 r1.1 (geti queue1 0)).length) (hdC hd1 (geti queue1 0))⟩] [none, none, some (.pointer (some (sAddr A3 0))), some (.int .i64 (geti queue1 0)), some (.pointer (some (sAddr A1 (geti queue1 0)))), some (.slice (hdA hd1 (geti queue1 0)) ((geti2 r1.1 (geti queue1 0)).length) (hdC hd1 (geti queue1 0))), none, none] [8, 10, 11, 44, 45, 46] [pl 8 (.slice A1 r1.1.length c1), pl 10 (.slice A2 r2.length c2), pl 11 (.slice A3 queue1.length c3), pl 44 (.slice (hdA hd1 (geti queue1 0)) ((geti2 r1.1 (geti queue1 0)).length) (hdC hd1 (geti queue1 0))), pl 45 (.int .i64 (((geti2 r1.1 (geti queue1 0)).length : Nat) : Int)), pl 46 (.int .i64 0)] hF hS Fol (by kernel_rfl) (by kernel_rfl) (by kernel_rfl) ?_ (fun a w hF hS => ?_)
          · exact obs_cons (ob_ix1 (f := (Value.int .i64)) (m := queue1) Und22 hi3 hs3 (hS.at_ 2 rfl).rdQ rfl (fun _ => hp2)) <| obs_cons (ob_get1 (n := queue1.length) (m := queue1) (Value.int .i64) (0 : Int) Agg3 (fun _ hS => ⟨_, (hS.at_ 2 rfl).rdQ⟩) (fun _ hS => rfl) (fun _ => hp2)) <| obs_cons (ob_ixRn Und50 hi22 hs22 (hS.at_ 0 rfl).rdRows (hS.at_ 0 rfl).lenR (fun _ => hp3)) <| obs_cons (ob_getR Agg22 (fun _ hS => ⟨_, (hS.at_ 0 rfl).rdRows⟩) (fun _ => hb1)) <| obs_nil
          refine wpIn_block ?_
          refine wp_loop_model (S := (List Int × List Int × Int)) (R := (List Int × List Int)) (tour_Far_L2 r1 r2 queue1) (fun x => (tour_Far_K2 x).bind φ1) r (fun (x : (List Int × List Int × Int)) a w => ∃ (A4 : Option Addr) (c4 : Nat), Fr 71 [pl 8 (.slice A1 r1.1.length c1), pl 10 (.slice A2 r2.length c2), pl 11 (.slice A4 x.2.1.length c4), pl 44 (.slice (hdA hd1 (geti queue1 0)) ((geti2 r1.1 (geti queue1 0)).length) (hdC hd1 (geti queue1 0))), pl 45 (.int .i64 (((geti2 r1.1 (geti queue1 0)).length : Nat) : Int)), pl 46 (.int .i64 x.2.2)] a ∧ Sep w0 B w (rows 22 3 (.slice A1 r1.1.length c1) hd1 r1.1 :: own 3 (.slice A2 r2.length c2) (vI x.1) :: ownQ 3 A4 x.2.1.length c4 (vI x.2.1) :: fs)) (assoc_b hm) ⟨A3, c3, hF.weak [8, 10, 11, 44, 45, 46] (by kernel_rfl), hS⟩ ?_
          clear hF hS hm
          rintro nn2 ⟨far3, queue2, z1⟩ a w ⟨A4, c4, hF, hS⟩ hm
          generalize hφ2 : stK (tour_Far_L2 r1 r2 queue1) nn2 (fun x => (tour_Far_K2 x).bind φ1) = φ2 at hm
          unfold tour_Far_L2 at hm
          dsimp only at hF hS hm
          refine reg [] [] [8, 10, 11, 44, 45, 46, 47] [pl 8 (.slice A1 r1.1.length c1), pl 10 (.slice A2 r2.length c2), pl 11 (.slice A4 queue2.length c4), pl 44 (.slice (hdA hd1 (geti queue1 0)) ((geti2 r1.1 (geti queue1 0)).length) (hdC hd1 (geti queue1 0))), pl 45 (.int .i64 (((geti2 r1.1 (geti queue1 0)).length : Nat) : Int)), pl 46 (.int .i64 z1), pl 47 (.bool (decide (z1 < (((geti2 r1.1 (geti queue1 0)).length : Nat) : Int))))] hF hS Fol (by kernel_rfl) (by kernel_rfl) (by kernel_rfl) ?_ (fun a w hF hS => ?_)
          · exact obs_nil
          refine seq_cut (fun a w => Fr 71 [pl 8 (.slice A1 r1.1.length c1), pl 10 (.slice A2 r2.length c2), pl 11 (.slice A4 queue2.length c4), pl 44 (.slice (hdA hd1 (geti queue1 0)) ((geti2 r1.1 (geti queue1 0)).length) (hdC hd1 (geti queue1 0))), pl 45 (.int .i64 (((geti2 r1.1 (geti queue1 0)).length : Nat) : Int)), pl 46 (.int .i64 z1)] a ∧ Sep w0 B w (rows 22 3 (.slice A1 r1.1.length c1) hd1 r1.1 :: own 3 (.slice A2 r2.length c2) (vI far3) :: ownQ 3 A4 queue2.length c4 (vI queue2) :: fs) ∧ ((tour_Far_J5 r1 r2 queue1 far3 queue2 z1)).bind φ2 = some r) ?_ ?_
          · rintro a w ⟨hF, hS, hm⟩
            unfold tour_Far_J5 at hm
            refine seq_cut (fun a w => ∃ (far5 : List Int) (queue4 : List Int) (A7 : Option Addr) (c7 : Nat), Fr 71 [pl 8 (.slice A1 r1.1.length c1), pl 10 (.slice A2 r2.length c2), pl 11 (.slice A7 queue4.length c7), pl 44 (.slice (hdA hd1 (geti queue1 0)) ((geti2 r1.1 (geti queue1 0)).length) (hdC hd1 (geti queue1 0))), pl 45 (.int .i64 (((geti2 r1.1 (geti queue1 0)).length : Nat) : Int)), pl 46 (.int .i64 z1)] a ∧ Sep w0 B w (rows 22 3 (.slice A1 r1.1.length c1) hd1 r1.1 :: own 3 (.slice A2 r2.length c2) (vI far5) :: ownQ 3 A7 queue4.length c7 (vI queue4) :: fs) ∧ ((tour_Far_J6 z1) far5 queue4).bind φ2 = some r) ?_ ?_
            · rintro a w ⟨far5, queue4, A7, c7, hF, hS, hm⟩
              unfold tour_Far_J6 at hm
              refine reg1 [] [] [8, 10, 11, 44, 45, 46] [pl 8 (.slice A1 r1.1.length c1), pl 10 (.slice A2 r2.length c2), pl 11 (.slice A7 queue4.length c7), pl 44 (.slice (hdA hd1 (geti queue1 0)) ((geti2 r1.1 (geti queue1 0)).length) (hdC hd1 (geti queue1 0))), pl 45 (.int .i64 (((geti2 r1.1 (geti queue1 0)).length : Nat) : Int)), pl 46 (.int .i64 (w64 (z1 + 1)))] hF hS Fol (by kernel_rfl) (by kernel_rfl) (by kernel_rfl) ?_ (fun a w hF hS => ?_)
              · exact obs_nil
              refine then_n ?_
              rw [← hφ2] at hm
              exact ⟨(far5, queue4, (w64 (z1 + 1))), ⟨A7, c7, hF.weak [8, 10, 11, 44, 45, 46] (by kernel_rfl), hS⟩, hm⟩
            · refine wpIn_block ?_
              obtain ⟨hp4, hm⟩ := asrt_b hm
              refine reg [⟨true, [], vS (Instr.indexAt 22 (.slice (hdA hd1 (geti queue1 0)) ((geti2 r1.1 (geti queue1 0)).length) (hdC hd1 (geti queue1 0))) (.int .i64 z1)), .pointer (some (sAddr (hdA hd1 (geti queue1 0)) z1))⟩, ⟨false, [], vS (Instr.loadAt 3 (.pointer (some (sAddr (hdA hd1 (geti queue1 0)) z1)))), .int .i64 (geti (geti2 r1.1 (geti queue1 0)) z1)⟩] [some (.pointer (some (sAddr (hdA hd1 (geti queue1 0)) z1))), some (.int .i64 (geti (geti2 r1.1 (geti queue1 0)) z1)), none] [8, 10, 11, 13, 44, 45, 46] [pl 8 (.slice A1 r1.1.length c1), pl 10 (.slice A2 r2.length c2), pl 11 (.slice A4 queue2.length c4), pl 13 (.int .i64 (geti (geti2 r1.1 (geti queue1 0)) z1)), pl 44 (.slice (hdA hd1 (geti queue1 0)) ((geti2 r1.1 (geti queue1 0)).length) (hdC hd1 (geti queue1 0))), pl 45 (.int .i64 (((geti2 r1.1 (geti queue1 0)).length : Nat) : Int)), pl 46 (.int .i64 z1)] hF hS Fol (by kernel_rfl) (by kernel_rfl) (by kernel_rfl) ?_ (fun a w hF hS => ?_)
              · exact obs_cons (ob_ix1 (f := (Value.int .i64)) (m := (geti2 r1.1 (geti queue1 0))) Und22 hi3 hs3 ((hS.at_ 0 rfl).rdRows.row _ hb1).1 rfl (fun _ => hp4)) <| obs_cons (ob_get1 (n := (geti2 r1.1 (geti queue1 0)).length) (m := (geti2 r1.1 (geti queue1 0))) (Value.int .i64) (0 : Int) Agg3 (fun _ hS => ⟨_, ((hS.at_ 0 rfl).rdRows.row _ hb1).1⟩) (fun _ hS => rfl) (fun _ => hp4)) <| obs_nil
              obtain ⟨hp5, hm⟩ := asrt_b hm
              refine reg [⟨true, [], vS (Instr.indexAt 22 (.slice A2 r2.length c2) (.int .i64 (geti (geti2 r1.1 (geti queue1 0)) z1))), .pointer (some (sAddr A2 (geti (geti2 r1.1 (geti queue1 0)) z1)))⟩, ⟨false, [], vS (Instr.loadAt 3 (.pointer (some (sAddr A2 (geti (geti2 r1.1 (geti queue1 0)) z1))))), .int .i64 (geti far3 (geti (geti2 r1.1 (geti queue1 0)) z1))⟩] [none, none, some (.pointer (some (sAddr A2 (geti (geti2 r1.1 (geti queue1 0)) z1)))), some (.int .i64 (geti far3 (geti (geti2 r1.1 (geti queue1 0)) z1))), none] [8, 10, 11, 13, 44, 45, 46, 54] [pl 8 (.slice A1 r1.1.length c1), pl 10 (.slice A2 r2.length c2), pl 11 (.slice A4 queue2.length c4), pl 13 (.int .i64 (geti (geti2 r1.1 (geti queue1 0)) z1)), pl 44 (.slice (hdA hd1 (geti queue1 0)) ((geti2 r1.1 (geti queue1 0)).length) (hdC hd1 (geti queue1 0))), pl 45 (.int .i64 (((geti2 r1.1 (geti queue1 0)).length : Nat) : Int)), pl 46 (.int .i64 z1), pl 54 (.bool (decide ((geti far3 (geti (geti2 r1.1 (geti queue1 0)) z1)) < 0)))] hF hS Fol (by kernel_rfl) (by kernel_rfl) (by kernel_rfl) ?_ (fun a w hF hS => ?_)
              · exact obs_cons (ob_ix1 (f := (Value.int .i64)) (m := far3) Und22 hi3 hs3 (hS.at_ 1 rfl).rd ((hS.at_ 1 rfl).len1) (fun _ => hp5)) <| obs_cons (ob_get1 (n := r2.length) (m := far3) (Value.int .i64) (0 : Int) Agg3 (fun _ hS => ⟨_, (hS.at_ 1 rfl).rd⟩) (fun _ hS => ((hS.at_ 1 rfl).len1)) (fun _ => hp5)) <| obs_nil
              refine cond_ev (t := 54) (b := decide ((geti far3 (geti (geti2 r1.1 (geti queue1 0)) z1)) < 0)) hF (by kernel_rfl) (fun hb => ?_) (fun hb => ?_)
              · replace hm := if_t hm hb
                refine seqR ?_
                obtain ⟨hp6, hm⟩ := asrt_b hm
                obtain ⟨hp7, hm⟩ := asrt_b hm
                obtain ⟨hp8, hm⟩ := asrt_b hm
                refine at_run 10 [⟨true, [], vS (Instr.indexAt 22 (.slice A4 queue2.length c4) (.int .i64 0)), .pointer (some (sAddr A4 0))⟩, ⟨false, [], vS (Instr.loadAt 3 (.pointer (some (sAddr A4 0)))), .int .i64 (geti queue2 0)⟩, ⟨true, [], vS (Instr.indexAt 22 (.slice A2 r2.length c2) (.int .i64 (geti queue2 0))), .pointer (some (sAddr A2 (geti queue2 0)))⟩, ⟨false, [], vS (Instr.loadAt 3 (.pointer (some (sAddr A2 (geti queue2 0))))), .int .i64 (geti far3 (geti queue2 0))⟩, ⟨true, [], vS (Instr.indexAt 22 (.slice A2 r2.length c2) (.int .i64 (geti (geti2 r1.1 (geti queue1 0)) z1))), .pointer (some (sAddr A2 (geti (geti2 r1.1 (geti queue1 0)) z1)))⟩] [none, none, none, none, some (.pointer (some (sAddr A4 0))), some (.int .i64 (geti queue2 0)), some (.pointer (some (sAddr A2 (geti queue2 0)))), some (.int .i64 (geti far3 (geti queue2 0))), none, some (.pointer (some (sAddr A2 (geti (geti2 r1.1 (geti queue1 0)) z1))))] [8, 10, 11, 13, 44, 45, 46, 63, 64] [pl 8 (.slice A1 r1.1.length c1), pl 10 (.slice A2 r2.length c2), pl 11 (.slice A4 queue2.length c4), pl 13 (.int .i64 (geti (geti2 r1.1 (geti queue1 0)) z1)), pl 44 (.slice (hdA hd1 (geti queue1 0)) ((geti2 r1.1 (geti queue1 0)).length) (hdC hd1 (geti queue1 0))), pl 45 (.int .i64 (((geti2 r1.1 (geti queue1 0)).length : Nat) : Int)), pl 46 (.int .i64 z1), pl 63 (.int .i64 (w64 ((geti far3 (geti queue2 0)) + 1))), pl 64 (.pointer (some (sAddr A2 (geti (geti2 r1.1 (geti queue1 0)) z1))))] hF hS (by kernel_rfl) (by kernel_rfl) ?_ (fun a w hF hS => ?_)
                · exact obs_cons (ob_ix1 (f := (Value.int .i64)) (m := queue2) Und22 hi3 hs3 (hS.at_ 2 rfl).rdQ rfl (fun _ => hp6)) <| obs_cons (ob_get1 (n := queue2.length) (m := queue2) (Value.int .i64) (0 : Int) Agg3 (fun _ hS => ⟨_, (hS.at_ 2 rfl).rdQ⟩) (fun _ hS => rfl) (fun _ => hp6)) <| obs_cons (ob_ix1 (f := (Value.int .i64)) (m := far3) Und22 hi3 hs3 (hS.at_ 1 rfl).rd ((hS.at_ 1 rfl).len1) (fun _ => hp7)) <| obs_cons (ob_get1 (n := r2.length) (m := far3) (Value.int .i64) (0 : Int) Agg3 (fun _ hS => ⟨_, (hS.at_ 1 rfl).rd⟩) (fun _ hS => ((hS.at_ 1 rfl).len1)) (fun _ => hp7)) <| obs_cons (ob_ix1 (f := (Value.int .i64)) (m := far3) Und22 hi3 hs3 (hS.at_ 1 rfl).rd ((hS.at_ 1 rfl).len1) (fun _ => hp8)) <| obs_nil
                obtain ⟨w, hrun, hS⟩ := run_set1 (P := Tryd.prog) (t := 3) (x := (w64 ((geti far3 (geti queue2 0)) + 1))) (Value.int .i64) (hS.at_ 1 rfl) hi3 hs3 rfl rfl hp8
                refine at_skip hF (by kernel_rfl) hrun ?_
                have hS : Sep w0 B w (rows 22 3 (.slice A1 r1.1.length c1) hd1 r1.1 :: own 3 (.slice A2 r2.length c2) (vI (far3.set (Int.toNat (geti (geti2 r1.1 (geti queue1 0)) z1)) (w64 ((geti far3 (geti queue2 0)) + 1)))) :: ownQ 3 A4 queue2.length c4 (vI queue2) :: fs) := hS
                refine at_end [8, 10, 11, 13, 44, 45, 46] [pl 8 (.slice A1 r1.1.length c1), pl 10 (.slice A2 r2.length c2), pl 11 (.slice A4 queue2.length c4), pl 13 (.int .i64 (geti (geti2 r1.1 (geti queue1 0)) z1)), pl 44 (.slice (hdA hd1 (geti queue1 0)) ((geti2 r1.1 (geti queue1 0)).length) (hdC hd1 (geti queue1 0))), pl 45 (.int .i64 (((geti2 r1.1 (geti queue1 0)).length : Nat) : Int)), pl 46 (.int .i64 z1)] hF rfl (by kernel_rfl) (fun hF => ?_)
                refine then_n ?_
                refine oneR ?_
                obtain ⟨hp9, hm⟩ := asrt_b hm
                refine at_run 2 [] [] [8, 10, 44, 45, 46, 65, 66] [pl 8 (.slice A1 r1.1.length c1), pl 10 (.slice A2 r2.length c2), pl 44 (.slice (hdA hd1 (geti queue1 0)) ((geti2 r1.1 (geti queue1 0)).length) (hdC hd1 (geti queue1 0))), pl 45 (.int .i64 (((geti2 r1.1 (geti queue1 0)).length : Nat) : Int)), pl 46 (.int .i64 z1), pl 65 (.slice A4 queue2.length c4), pl 66 (.int .i64 (geti (geti2 r1.1 (geti queue1 0)) z1))] hF hS (by kernel_rfl) (by kernel_rfl) ?_ (fun a w hF hS => ?_)
                · exact obs_nil
                refine at_do (d := 67) (s := vS (Instr.buildSlice 22 1 #[(0, .int .i64 (geti (geti2 r1.1 (geti queue1 0)) z1))])) (v := .slice (some ⟨w.heap.size, 0, none⟩) 1 1) (w' := w.alloc (.cells #[.int .i64 (geti (geti2 r1.1 (geti queue1 0)) z1)] 3)) hF (by kernel_rfl) (by kernel_rfl) (by kernel_rfl) (fun a hF => ?_)
                have hS : Sep w0 B (w.alloc (.cells #[.int .i64 (geti (geti2 r1.1 (geti queue1 0)) z1)] 3)) (own 3 (.slice (some (⟨w.heap.size, 0, none⟩ : Addr)) 1 1) (vI ([geti (geti2 r1.1 (geti queue1 0)) z1] : List Int)) :: (rows 22 3 (.slice A1 r1.1.length c1) hd1 r1.1 :: own 3 (.slice A2 r2.length c2) (vI (far3.set (Int.toNat (geti (geti2 r1.1 (geti queue1 0)) z1)) (w64 ((geti far3 (geti queue2 0)) + 1)))) :: ownQ 3 A4 queue2.length c4 (vI queue2) :: fs)) := hS.lit 3 #[.int .i64 (geti (geti2 r1.1 (geti queue1 0)) z1)] 1 rfl (by omega)
                generalize (some (⟨w.heap.size, 0, none⟩ : Addr)) = g4 at hF hS
                generalize w.alloc (.cells #[.int .i64 (geti (geti2 r1.1 (geti queue1 0)) z1)] 3) = w at hS ⊢
                obtain ⟨A6, c6, w, hrun, hS⟩ := run_appQ (P := Tryd.prog) (t := 22) (m := queue2) (ys := ([geti (geti2 r1.1 (geti queue1 0)) z1] : List Int)) (A2 := g4) (m2 := 1) (c2 := 1) (Value.int .i64) (0 : Int) 17592186044416 (hS.at_ 3 rfl) (hS.at_ 0 rfl).rd ((hS.at_ 0 rfl).len1) 22 Und22 hi3 hz3 hs3 (by rw [hb3]; decide) (by decide) rfl (fun _ => rfl) hp9
                have hS : Sep w0 B w (own 3 (.slice g4 1 1) (vI ([geti (geti2 r1.1 (geti queue1 0)) z1] : List Int)) :: rows 22 3 (.slice A1 r1.1.length c1) hd1 r1.1 :: own 3 (.slice A2 r2.length c2) (vI (far3.set (Int.toNat (geti (geti2 r1.1 (geti queue1 0)) z1)) (w64 ((geti far3 (geti queue2 0)) + 1)))) :: ownQ 3 A6 ((queue2 ++ ([geti (geti2 r1.1 (geti queue1 0)) z1] : List Int)).length) c6 (vI (queue2 ++ ([geti (geti2 r1.1 (geti queue1 0)) z1] : List Int))) :: fs) := hS
                refine at_do (d := 68) hF (by kernel_rfl) (by kernel_rfl) hrun (fun a hF => ?_)
                refine at_run 1 [] [] [8, 10, 11, 44, 45, 46] [pl 8 (.slice A1 r1.1.length c1), pl 10 (.slice A2 r2.length c2), pl 11 (.slice A6 ((queue2 ++ ([geti (geti2 r1.1 (geti queue1 0)) z1] : List Int)).length) c6), pl 44 (.slice (hdA hd1 (geti queue1 0)) ((geti2 r1.1 (geti queue1 0)).length) (hdC hd1 (geti queue1 0))), pl 45 (.int .i64 (((geti2 r1.1 (geti queue1 0)).length : Nat) : Int)), pl 46 (.int .i64 z1)] hF hS (by kernel_rfl) (by kernel_rfl) ?_ (fun a w hF hS => ?_)
                · exact obs_nil
                refine at_end [8, 10, 11, 44, 45, 46] [pl 8 (.slice A1 r1.1.length c1), pl 10 (.slice A2 r2.length c2), pl 11 (.slice A6 ((queue2 ++ ([geti (geti2 r1.1 (geti queue1 0)) z1] : List Int)).length) c6), pl 44 (.slice (hdA hd1 (geti queue1 0)) ((geti2 r1.1 (geti queue1 0)).length) (hdC hd1 (geti queue1 0))), pl 45 (.int .i64 (((geti2 r1.1 (geti queue1 0)).length : Nat) : Int)), pl 46 (.int .i64 z1)] hF rfl (by kernel_rfl) (fun hF => ?_)
                refine block_n ?_
                refine then_n ?_
                have hS := hS.pickN 4 [1, 2, 3] (by decide)
                exact ⟨(far3.set (Int.toNat (geti (geti2 r1.1 (geti queue1 0)) z1)) (w64 ((geti far3 (geti queue2 0)) + 1))), (queue2 ++ ([geti (geti2 r1.1 (geti queue1 0)) z1] : List Int)), A6, c6, hF.weak [8, 10, 11, 44, 45, 46] (by kernel_rfl), hS, hm⟩
              · replace hm := if_f hm hb
                refine wpIn_skip ?_
                refine block_n ?_
                refine then_n ?_
                exact ⟨far3, queue2, A4, c4, hF.weak [8, 10, 11, 44, 45, 46] (by kernel_rfl), hS, hm⟩
          · refine cond_ev (t := 47) (b := decide (z1 < (((geti2 r1.1 (geti queue1 0)).length : Nat) : Int))) hF (by kernel_rfl) (fun hb => ?_) (fun hb => ?_)
            · replace hm := if_t hm hb
              refine wpIn_skip ?_
              refine then_n ?_
              exact ⟨hF.weak [8, 10, 11, 44, 45, 46] (by kernel_rfl), hS, hm⟩
            · replace hm := if_f hm hb
              refine wpIn_exit ?_
              refine then_e (then_e (block_e (block_n (then_n ?_))))
              rw [← hφ2] at hm
              replace hm := done_b hm
              unfold tour_Far_K2 at hm
              try dsimp only at hm
              have hm : (tour_Far_J4 far3 queue2).bind φ1 = some r := hm
              exact ⟨far3, queue2, A4, c4, hF.weak [8, 10, 11] (by kernel_rfl), hS, hm⟩
      · refine reg [] [] [8, 10, 11, 36] [pl 8 (.slice A1 r1.1.length c1), pl 10 (.slice A2 r2.length c2), pl 11 (.slice A3 queue1.length c3), pl 36 (.bool (decide ((0 : Int) < (queue1.length : Int))))] hF hS Fol (by kernel_rfl) (by kernel_rfl) (by kernel_rfl) ?_ (fun a w hF hS => ?_)
        · exact obs_nil
        refine cond_ev (t := 36) (b := decide ((0 : Int) < (queue1.length : Int))) hF (by kernel_rfl) (fun hb => ?_) (fun hb => ?_)
        · replace hm := if_t hm hb
          refine wpIn_skip ?_
          refine then_n ?_
          exact ⟨hF.weak [8, 10, 11] (by kernel_rfl), hS, hm⟩
        · replace hm := if_f hm hb
          refine wpIn_exit ?_
          refine then_e (then_e (block_e (then_n ?_)))
          have hS := hS.pickN 3 [1] (by decide)
          rw [← hφ1] at hm
          replace hm := done_b hm
          unfold tour_Far_K1 at hm
          try dsimp only at hm
          have hm : (tour_Far_J2 far1).bind some = some r := hm
          exact ⟨far1, hF.weak [10] (by kernel_rfl), hS, hm⟩
  · refine reg [] [] [2, 8, 9, 23] [pl 2 (.int .i64 from1), pl 8 (.slice A1 r1.1.length c1), pl 9 (.int .i64 r1.2), pl 23 (.bool (r1.2 != 0))] hF hS Fol (by kernel_rfl) (by kernel_rfl) (by kernel_rfl) ?_ (fun a w hF hS => ?_)
    · exact obs_nil
    refine cond_ev (t := 23) (b := (r1.2 != 0)) hF (by kernel_rfl) (fun hb => ?_) (fun hb => ?_)
    · replace hm := if_t hm hb
      refine reg [] [] [6, 7] [pl 6 (.slice none 0 0), pl 7 (.int .i64 r1.2)] hF hS Fol (by kernel_rfl) (by kernel_rfl) (by kernel_rfl) ?_ (fun a w hF hS => ?_)
      · exact obs_nil
      refine wpIn_ret ?_
      refine then_r ?_
      have hS : Sep w0 B w (own 3 (.slice none 0 0) (vI ([] : List Int)) :: rows 22 3 (.slice A1 r1.1.length c1) hd1 r1.1 :: own 3 (.slice g1 1 1) (vI ([from1] : List Int)) :: fs) := hS.nil 3
      have hl1 := (hS.at_ 0 rfl).len1
      have hS := (hS.at_ 0 rfl).reN hl1
      have hS : Sep w0 B w (own 3 (.slice none (([] : List Int).length) 0) (vI ([] : List Int)) :: rows 22 3 (.slice A1 r1.1.length c1) hd1 r1.1 :: own 3 (.slice g1 1 1) (vI ([from1] : List Int)) :: fs) := hS
      have hS := hS.pickN 3 [0] (by decide)
      have hm : some (([] : List Int), r1.2) = some r := hm
      obtain rfl := Option.some.inj hm
      exact retV (rs := [.tmp 6, .tmp 7]) (vs := [.slice none (([] : List Int).length) 0, .int .i64 r1.2]) hF rfl (rv_t (by kernel_rfl) <| rv_t (by kernel_rfl) <| rv_nil) rfl ⟨_, rfl, none, 0, rfl, hS⟩
    · replace hm := if_f hm hb
      refine wpIn_skip ?_
      refine then_n ?_
      have hS := hS.pickN 2 [0] (by decide)
      exact ⟨hF.weak [2, 8] (by kernel_rfl), hS, hm⟩

noncomputable def gameroomlaw_board_m  (w1 : Int) (h1 : Int) : Option Bool :=
  some ((((decide ((1 : Int) ≤ w1)) && (decide (w1 ≤ 8))) && (decide ((1 : Int) ≤ h1))) && (decide (h1 ≤ 8)))

set_option maxRecDepth 100000 in
set_option maxHeartbeats 4000000 in
theorem gameroomlaw_board_w {w1 : Int} {h1 : Int} {r : Bool} {w0 w : World} {B : Nat} {fs : List HP} (hm : gameroomlaw_board_m w1 h1 = some r) (hS : Sep w0 B w (fs)) :
    Calls Tryd.prog 10 #[.int .i64 w1, .int .i64 h1] w fun e w' => e = .returned (.bool r) ∧ Sep w0 B w' (fs) := by
  unfold gameroomlaw_board_m at hm
  replace hm := start_b hm
  refine enter (l := [.int .i64 w1, .int .i64 h1]) (n := 19) Tryd.func10 rfl rfl (by simp) (fun a hF => ?_)
  refine reg [] [] [0, 1] [pl 0 (.int .i64 w1), pl 1 (.int .i64 h1)] hF hS Fol (by kernel_rfl) (by kernel_rfl) (by kernel_rfl) ?_ (fun a w hF hS => ?_)
  · exact obs_nil
  refine reg [] [] [4] [pl 4 (.bool ((((decide ((1 : Int) ≤ w1)) && (decide (w1 ≤ 8))) && (decide ((1 : Int) ≤ h1))) && (decide (h1 ≤ 8))))] hF hS Fol (by kernel_rfl) (by kernel_rfl) (by kernel_rfl) ?_ (fun a w hF hS => ?_)
  · exact obs_nil
  refine wpIn_ret ?_
  have hm : some ((((decide ((1 : Int) ≤ w1)) && (decide (w1 ≤ 8))) && (decide ((1 : Int) ≤ h1))) && (decide (h1 ≤ 8))) = some r := hm
  obtain rfl := Option.some.inj hm
  exact retV (rs := [.tmp 4]) (vs := [.bool ((((decide ((1 : Int) ≤ w1)) && (decide (w1 ≤ 8))) && (decide ((1 : Int) ≤ h1))) && (decide (h1 ≤ 8)))]) hF rfl (rv_t (by kernel_rfl) <| rv_nil) rfl ⟨rfl, hS⟩

noncomputable def gameroomref_within_m  (n1 : Int) (low1 : Int) (high1 : Int) : Option Bool :=
  some ((decide (low1 ≤ n1)) && (decide (n1 ≤ high1)))

set_option maxRecDepth 100000 in
set_option maxHeartbeats 4000000 in
theorem gameroomref_within_w {n1 : Int} {low1 : Int} {high1 : Int} {r : Bool} {w0 w : World} {B : Nat} {fs : List HP} (hm : gameroomref_within_m n1 low1 high1 = some r) (hS : Sep w0 B w (fs)) :
    Calls Tryd.prog 32 #[.int .i64 n1, .int .i64 low1, .int .i64 high1] w fun e w' => e = .returned (.bool r) ∧ Sep w0 B w' (fs) := by
  unfold gameroomref_within_m at hm
  replace hm := start_b hm
  refine enter (l := [.int .i64 n1, .int .i64 low1, .int .i64 high1]) (n := 15) Tryd.func32 rfl rfl (by simp) (fun a hF => ?_)
  refine reg [] [] [0, 1, 2] [pl 0 (.int .i64 n1), pl 1 (.int .i64 low1), pl 2 (.int .i64 high1)] hF hS Fol (by kernel_rfl) (by kernel_rfl) (by kernel_rfl) ?_ (fun a w hF hS => ?_)
  · exact obs_nil
  refine reg [] [] [6] [pl 6 (.bool ((decide (low1 ≤ n1)) && (decide (n1 ≤ high1))))] hF hS Fol (by kernel_rfl) (by kernel_rfl) (by kernel_rfl) ?_ (fun a w hF hS => ?_)
  · exact obs_nil
  refine wpIn_ret ?_
  have hm : some ((decide (low1 ≤ n1)) && (decide (n1 ≤ high1))) = some r := hm
  obtain rfl := Option.some.inj hm
  exact retV (rs := [.tmp 6]) (vs := [.bool ((decide (low1 ≤ n1)) && (decide (n1 ≤ high1)))]) hF rfl (rv_t (by kernel_rfl) <| rv_nil) rfl ⟨rfl, hS⟩

noncomputable def gameroomref_at_J3  (i1 : Int) : Option (St Int (Fl Unit Int)) :=
  some (.next (w64 (i1 + 1)))

noncomputable def gameroomref_at_J2  (l1 : List Int) (n2 : Int) (i1 : Int) : Option (St Int (Fl Unit Int)) :=
  asrt (0 ≤ i1 ∧ i1 < (l1.length : Int)) <| if ((geti l1 i1) == n2) then (some (.done (.ret i1))) else ((gameroomref_at_J3 i1))

noncomputable def gameroomref_at_J1  : Option Int :=
  some (-1)

noncomputable def gameroomref_at_K1  : (Fl Unit Int) → Option Int :=
  fun (x : (Fl Unit Int)) => match x with | .go _ => gameroomref_at_J1 | .ret x => some x

noncomputable def gameroomref_at_L1  (l1 : List Int) (n2 : Int) : Int → Option (St Int (Fl Unit Int)) :=
  fun (x : Int) => match x with | i1 => if (decide (i1 < (l1.length : Int))) then ((gameroomref_at_J2 l1 n2 i1)) else (some (.done (.go ())))

noncomputable def gameroomref_at_m  (l1 : List Int) (n2 : Int) : Option Int :=
  (loop (gameroomref_at_L1 l1 n2) 0).bind gameroomref_at_K1

set_option maxRecDepth 100000 in
set_option maxHeartbeats 4000000 in
theorem gameroomref_at_w {A1 : Option Addr} {c1 : Nat} {n1 : Nat} {l1 : List Int} {n2 : Int} {r : Int} {w0 w : World} {B : Nat} {fs : List HP} (hm : gameroomref_at_m l1 n2 = some r) (hS : Sep w0 B w (fs)) (hr_l1 : RdF w0 B fs A1 (vI l1)) (_hc_l1 : l1.length ≤ c1) (_hn_l1 : n1 = l1.length) :
    Calls Tryd.prog 33 #[.slice A1 n1 c1, .int .i64 n2] w fun e w' => e = .returned (.int .i64 r) ∧ Sep w0 B w' (fs) := by
  obtain ⟨i3, hi3, hz3, hs3, hb3⟩ := info_parts Info3
  obtain rfl := _hn_l1
  unfold gameroomref_at_m at hm
  replace hm := start_b hm
  refine enter (l := [.slice A1 l1.length c1, .int .i64 n2]) (n := 19) Tryd.func33 rfl rfl (by simp) (fun a hF => ?_)
  refine reg [] [] [0, 1] [pl 0 (.slice A1 l1.length c1), pl 1 (.int .i64 n2)] hF hS Fol (by kernel_rfl) (by kernel_rfl) (by kernel_rfl) ?_ (fun a w hF hS => ?_)
  · exact obs_nil
  refine seq_cut (fun a w => Fr 19 [] a ∧ Sep w0 B w (fs) ∧ (gameroomref_at_J1).bind some = some r) ?_ ?_
  · rintro a w ⟨hF, hS, hm⟩
    unfold gameroomref_at_J1 at hm
    refine reg [] [] [4] [pl 4 (.int .i64 (-1))] hF hS Fol (by kernel_rfl) (by kernel_rfl) (by kernel_rfl) ?_ (fun a w hF hS => ?_)
    · exact obs_nil
    refine wpIn_ret ?_
    have hm : some (-1) = some r := hm
    obtain rfl := Option.some.inj hm
    exact retV (rs := [.tmp 4]) (vs := [.int .i64 (-1)]) hF rfl (rv_t (by kernel_rfl) <| rv_nil) rfl ⟨rfl, hS⟩
  · refine reg [] [] [0, 1, 5] [pl 0 (.slice A1 l1.length c1), pl 1 (.int .i64 n2), pl 5 (.int .i64 0)] hF hS Fol (by kernel_rfl) (by kernel_rfl) (by kernel_rfl) ?_ (fun a w hF hS => ?_)
    · exact obs_nil
    refine wpIn_block ?_
    refine wp_loop_model (S := Int) (R := (Fl Unit Int)) (gameroomref_at_L1 l1 n2) (fun x => (gameroomref_at_K1 x).bind some) r (fun (x : Int) a w => Fr 19 [pl 0 (.slice A1 l1.length c1), pl 1 (.int .i64 n2), pl 5 (.int .i64 x)] a ∧ Sep w0 B w (fs)) (assoc_b hm) ⟨hF.weak [0, 1, 5] (by kernel_rfl), hS⟩ ?_
    clear hF hS hm
    rintro nn1 i1 a w ⟨hF, hS⟩ hm
    generalize hφ1 : stK (gameroomref_at_L1 l1 n2) nn1 (fun x => (gameroomref_at_K1 x).bind some) = φ1 at hm
    unfold gameroomref_at_L1 at hm
    dsimp only at hm
    refine seq_cut (fun a w => Fr 19 [pl 0 (.slice A1 l1.length c1), pl 1 (.int .i64 n2), pl 5 (.int .i64 i1)] a ∧ Sep w0 B w (fs) ∧ ((gameroomref_at_J2 l1 n2 i1)).bind φ1 = some r) ?_ ?_
    · rintro a w ⟨hF, hS, hm⟩
      unfold gameroomref_at_J2 at hm
      refine seq_cut (fun a w => Fr 19 [pl 0 (.slice A1 l1.length c1), pl 1 (.int .i64 n2), pl 5 (.int .i64 i1)] a ∧ Sep w0 B w (fs) ∧ ((gameroomref_at_J3 i1)).bind φ1 = some r) ?_ ?_
      · rintro a w ⟨hF, hS, hm⟩
        unfold gameroomref_at_J3 at hm
        refine reg1 [] [] [0, 1, 5] [pl 0 (.slice A1 l1.length c1), pl 1 (.int .i64 n2), pl 5 (.int .i64 (w64 (i1 + 1)))] hF hS Fol (by kernel_rfl) (by kernel_rfl) (by kernel_rfl) ?_ (fun a w hF hS => ?_)
        · exact obs_nil
        refine then_n ?_
        rw [← hφ1] at hm
        exact ⟨(w64 (i1 + 1)), ⟨hF.weak [0, 1, 5] (by kernel_rfl), hS⟩, hm⟩
      · refine wpIn_block ?_
        obtain ⟨hp1, hm⟩ := asrt_b hm
        refine reg [⟨true, [], vS (Instr.indexAt 22 (.slice A1 l1.length c1) (.int .i64 i1)), .pointer (some (sAddr A1 i1))⟩, ⟨false, [], vS (Instr.loadAt 3 (.pointer (some (sAddr A1 i1)))), .int .i64 (geti l1 i1)⟩] [none, none, some (.pointer (some (sAddr A1 i1))), some (.int .i64 (geti l1 i1)), none, none] [0, 1, 5, 17] [pl 0 (.slice A1 l1.length c1), pl 1 (.int .i64 n2), pl 5 (.int .i64 i1), pl 17 (.bool ((geti l1 i1) == n2))] hF hS Fol (by kernel_rfl) (by kernel_rfl) (by kernel_rfl) ?_ (fun a w hF hS => ?_)
        · exact obs_cons (ob_ix1 (f := (Value.int .i64)) (m := l1) Und22 hi3 hs3 (hr_l1 _ (hS.dropN 0)) rfl (fun _ => hp1)) <| obs_cons (ob_get1 (n := l1.length) (m := l1) (Value.int .i64) (0 : Int) Agg3 (fun _ hS => ⟨_, (hr_l1 _ (hS.dropN 0))⟩) (fun _ hS => rfl) (fun _ => hp1)) <| obs_nil
        refine cond_ev (t := 17) (b := ((geti l1 i1) == n2)) hF (by kernel_rfl) (fun hb => ?_) (fun hb => ?_)
        · replace hm := if_t hm hb
          refine reg [] [] [4] [pl 4 (.int .i64 i1)] hF hS Fol (by kernel_rfl) (by kernel_rfl) (by kernel_rfl) ?_ (fun a w hF hS => ?_)
          · exact obs_nil
          refine wpIn_ret ?_
          refine block_r (then_r (then_r (block_r (then_r ?_))))
          rw [← hφ1] at hm
          replace hm := done_b hm
          unfold gameroomref_at_K1 at hm
          try dsimp only at hm
          have hm : some i1 = some r := hm
          obtain rfl := Option.some.inj hm
          exact retV (rs := [.tmp 4]) (vs := [.int .i64 i1]) hF rfl (rv_t (by kernel_rfl) <| rv_nil) rfl ⟨rfl, hS⟩
        · replace hm := if_f hm hb
          refine wpIn_skip ?_
          refine block_n ?_
          refine then_n ?_
          exact ⟨hF.weak [0, 1, 5] (by kernel_rfl), hS, hm⟩
    · refine reg [] [] [0, 1, 5, 9] [pl 0 (.slice A1 l1.length c1), pl 1 (.int .i64 n2), pl 5 (.int .i64 i1), pl 9 (.bool (decide (i1 < (l1.length : Int))))] hF hS Fol (by kernel_rfl) (by kernel_rfl) (by kernel_rfl) ?_ (fun a w hF hS => ?_)
      · exact obs_nil
      refine cond_ev (t := 9) (b := decide (i1 < (l1.length : Int))) hF (by kernel_rfl) (fun hb => ?_) (fun hb => ?_)
      · replace hm := if_t hm hb
        refine wpIn_skip ?_
        refine then_n ?_
        exact ⟨hF.weak [0, 1, 5] (by kernel_rfl), hS, hm⟩
      · replace hm := if_f hm hb
        refine wpIn_exit ?_
        refine then_e (then_e (block_e (then_n ?_)))
        rw [← hφ1] at hm
        replace hm := done_b hm
        unfold gameroomref_at_K1 at hm
        try dsimp only at hm
        have hm : (gameroomref_at_J1).bind some = some r := hm
        exact ⟨hF.weak [] (by kernel_rfl), hS, hm⟩

noncomputable def gameroomref_size_J1  (n1 : Int) : Option Int :=
  some n1

noncomputable def gameroomref_size_m  (n1 : Int) : Option Int :=
  if (decide (n1 < 0)) then (some (w64 (0 - n1))) else ((gameroomref_size_J1 n1))

set_option maxRecDepth 100000 in
set_option maxHeartbeats 4000000 in
theorem gameroomref_size_w {n1 : Int} {r : Int} {w0 w : World} {B : Nat} {fs : List HP} (hm : gameroomref_size_m n1 = some r) (hS : Sep w0 B w (fs)) :
    Calls Tryd.prog 48 #[.int .i64 n1] w fun e w' => e = .returned (.int .i64 r) ∧ Sep w0 B w' (fs) := by
  unfold gameroomref_size_m at hm
  replace hm := start_b hm
  refine enter (l := [.int .i64 n1]) (n := 8) Tryd.func48 rfl rfl (by simp) (fun a hF => ?_)
  refine reg [] [] [0] [pl 0 (.int .i64 n1)] hF hS Fol (by kernel_rfl) (by kernel_rfl) (by kernel_rfl) ?_ (fun a w hF hS => ?_)
  · exact obs_nil
  refine seq_cut (fun a w => Fr 8 [pl 0 (.int .i64 n1)] a ∧ Sep w0 B w (fs) ∧ ((gameroomref_size_J1 n1)).bind some = some r) ?_ ?_
  · rintro a w ⟨hF, hS, hm⟩
    unfold gameroomref_size_J1 at hm
    refine reg [] [] [2] [pl 2 (.int .i64 n1)] hF hS Fol (by kernel_rfl) (by kernel_rfl) (by kernel_rfl) ?_ (fun a w hF hS => ?_)
    · exact obs_nil
    refine wpIn_ret ?_
    have hm : some n1 = some r := hm
    obtain rfl := Option.some.inj hm
    exact retV (rs := [.tmp 2]) (vs := [.int .i64 n1]) hF rfl (rv_t (by kernel_rfl) <| rv_nil) rfl ⟨rfl, hS⟩
  · refine reg [] [] [0, 4] [pl 0 (.int .i64 n1), pl 4 (.bool (decide (n1 < 0)))] hF hS Fol (by kernel_rfl) (by kernel_rfl) (by kernel_rfl) ?_ (fun a w hF hS => ?_)
    · exact obs_nil
    refine cond_ev (t := 4) (b := decide (n1 < 0)) hF (by kernel_rfl) (fun hb => ?_) (fun hb => ?_)
    · replace hm := if_t hm hb
      refine reg [] [] [2] [pl 2 (.int .i64 (w64 (0 - n1)))] hF hS Fol (by kernel_rfl) (by kernel_rfl) (by kernel_rfl) ?_ (fun a w hF hS => ?_)
      · exact obs_nil
      refine wpIn_ret ?_
      refine then_r ?_
      have hm : some (w64 (0 - n1)) = some r := hm
      obtain rfl := Option.some.inj hm
      exact retV (rs := [.tmp 2]) (vs := [.int .i64 (w64 (0 - n1))]) hF rfl (rv_t (by kernel_rfl) <| rv_nil) rfl ⟨rfl, hS⟩
    · replace hm := if_f hm hb
      refine wpIn_skip ?_
      refine then_n ?_
      exact ⟨hF.weak [0] (by kernel_rfl), hS, hm⟩

noncomputable def gameroomref_KnightStep_m  (w1 : Int) (a1 : Int) (b1 : Int) : Option Bool :=
  asrt (w1 ≠ (0 : Int)) <| asrt (w1 ≠ (0 : Int)) <| asrt (w1 ≠ (0 : Int)) <| asrt (w1 ≠ (0 : Int)) <| (gameroomref_size_m (w64 ((w64 ((Int.tmod a1 w1) - (Int.tmod b1 w1))) * (w64 ((w64 (Int.tdiv a1 w1)) - (w64 (Int.tdiv b1 w1))))))).bind fun r1 => some (r1 == 2)

set_option maxRecDepth 100000 in
set_option maxHeartbeats 4000000 in
theorem gameroomref_KnightStep_w {w1 : Int} {a1 : Int} {b1 : Int} {r : Bool} {w0 w : World} {B : Nat} {fs : List HP} (hm : gameroomref_KnightStep_m w1 a1 b1 = some r) (hS : Sep w0 B w (fs)) :
    Calls Tryd.prog 34 #[.int .i64 w1, .int .i64 a1, .int .i64 b1] w fun e w' => e = .returned (.bool r) ∧ Sep w0 B w' (fs) := by
  unfold gameroomref_KnightStep_m at hm
  replace hm := start_b hm
  refine enter (l := [.int .i64 w1, .int .i64 a1, .int .i64 b1]) (n := 24) Tryd.func34 rfl rfl (by simp) (fun a hF => ?_)
  refine reg [] [] [0, 1, 2] [pl 0 (.int .i64 w1), pl 1 (.int .i64 a1), pl 2 (.int .i64 b1)] hF hS Fol (by kernel_rfl) (by kernel_rfl) (by kernel_rfl) ?_ (fun a w hF hS => ?_)
  · exact obs_nil
  obtain ⟨hp1, hm⟩ := asrt_b hm
  obtain ⟨hp2, hm⟩ := asrt_b hm
  obtain ⟨hp3, hm⟩ := asrt_b hm
  obtain ⟨hp4, hm⟩ := asrt_b hm
  obtain ⟨r1, hr1, hm⟩ := call_b hm
  refine reg [⟨true, [], vS (Op.intDiv .rem .i64 a1 w1), .int .i64 (Int.tmod a1 w1)⟩, ⟨true, [], vS (Op.intDiv .rem .i64 b1 w1), .int .i64 (Int.tmod b1 w1)⟩, ⟨true, [], vS (Op.intDiv .quo .i64 a1 w1), .int .i64 (w64 (Int.tdiv a1 w1))⟩, ⟨true, [], vS (Op.intDiv .quo .i64 b1 w1), .int .i64 (w64 (Int.tdiv b1 w1))⟩, ⟨false, [], callFunc 48 #[.int .i64 (w64 ((w64 ((Int.tmod a1 w1) - (Int.tmod b1 w1))) * (w64 ((w64 (Int.tdiv a1 w1)) - (w64 (Int.tdiv b1 w1))))))], .int .i64 r1⟩] [none, none, some (.int .i64 (Int.tmod a1 w1)), none, none, some (.int .i64 (Int.tmod b1 w1)), none, none, none, some (.int .i64 (w64 (Int.tdiv a1 w1))), none, none, some (.int .i64 (w64 (Int.tdiv b1 w1))), none, none, some (.int .i64 r1), none, none] [6] [pl 6 (.bool (r1 == 2))] hF hS Fol (by kernel_rfl) (by kernel_rfl) (by kernel_rfl) ?_ (fun a w hF hS => ?_)
  · exact obs_cons (ob_rem rfl (fun _ => hp1)) <| obs_cons (ob_rem rfl (fun _ => hp2)) <| obs_cons (ob_quo rfl (fun _ => hp3)) <| obs_cons (ob_quo rfl (fun _ => hp4)) <| obs_cons (ob_call Tryd.func48 (by kernel_rfl) rfl (fun _ _ hS => gameroomref_size_w hr1 hS )) <| obs_nil
  refine wpIn_ret ?_
  have hm : some (r1 == 2) = some r := hm
  obtain rfl := Option.some.inj hm
  exact retV (rs := [.tmp 6]) (vs := [.bool (r1 == 2)]) hF rfl (rv_t (by kernel_rfl) <| rv_nil) rfl ⟨rfl, hS⟩

noncomputable def gameroomref_KnightIs_J4  (i1 : Int) : Option (St Int (Fl Unit Int)) :=
  some (.next (w64 (i1 + 1)))

noncomputable def gameroomref_KnightIs_J3  (w1 : Int) (h1 : Int) (l1 : List Int) (i1 : Int) : Option (St Int (Fl Unit Int)) :=
  asrt (0 ≤ i1 ∧ i1 < (l1.length : Int)) <| (gameroomref_within_m (geti l1 i1) 0 (w64 ((w64 (w1 * h1)) - 1))).bind fun r1 => asrt ((!r1) = false → 0 ≤ (0 : Int) ∧ (0 : Int) ≤ i1 ∧ i1 ≤ (l1.length : Int)) <| asrt ((!r1) = false → 0 ≤ i1 ∧ i1 < (l1.length : Int)) <| ((if (!(!r1)) then gameroomref_at_m (cut l1 (0 : Int) i1) (geti l1 i1) else some 0)).bind fun r2 => if ((!r1) || (decide ((0 : Int) ≤ r2))) then (some (.done (.ret 0))) else ((gameroomref_KnightIs_J4 i1))

noncomputable def gameroomref_KnightIs_J7  (i2 : Int) : Option (St Int (Fl Unit Int)) :=
  some (.next (w64 (i2 + 1)))

noncomputable def gameroomref_KnightIs_J6  (w1 : Int) (l1 : List Int) (i2 : Int) : Option (St Int (Fl Unit Int)) :=
  asrt (0 ≤ (w64 (i2 - 1)) ∧ (w64 (i2 - 1)) < (l1.length : Int)) <| asrt (0 ≤ i2 ∧ i2 < (l1.length : Int)) <| (gameroomref_KnightStep_m w1 (geti l1 (w64 (i2 - 1))) (geti l1 i2)).bind fun r3 => if (!r3) then (some (.done (.ret 0))) else ((gameroomref_KnightIs_J7 i2))

noncomputable def gameroomref_KnightIs_L2  (w1 : Int) (l1 : List Int) : Int → Option (St Int (Fl Unit Int)) :=
  fun (x : Int) => match x with | i2 => if (decide (i2 < (l1.length : Int))) then ((gameroomref_KnightIs_J6 w1 l1 i2)) else (some (.done (.go ())))

noncomputable def gameroomref_KnightIs_J9  : Option Int :=
  some 2

noncomputable def gameroomref_KnightIs_J8  (w1 : Int) (l1 : List Int) : Option Int :=
  asrt (0 ≤ (0 : Int) ∧ (0 : Int) < (l1.length : Int)) <| asrt (0 ≤ (w64 ((l1.length : Int) - 1)) ∧ (w64 ((l1.length : Int) - 1)) < (l1.length : Int)) <| (gameroomref_KnightStep_m w1 (geti l1 0) (geti l1 (w64 ((l1.length : Int) - 1)))).bind fun r4 => if r4 then (some 3) else (gameroomref_KnightIs_J9)

noncomputable def gameroomref_KnightIs_J5  (w1 : Int) (h1 : Int) (l1 : List Int) : Option Int :=
  if (decide ((l1.length : Int) < (w64 (w1 * h1)))) then (some 1) else ((gameroomref_KnightIs_J8 w1 l1))

noncomputable def gameroomref_KnightIs_K2  (w1 : Int) (h1 : Int) (l1 : List Int) : (Fl Unit Int) → Option Int :=
  fun (x : (Fl Unit Int)) => match x with | .go _ => (gameroomref_KnightIs_J5 w1 h1 l1) | .ret x => some x

noncomputable def gameroomref_KnightIs_J2  (w1 : Int) (h1 : Int) (l1 : List Int) : Option Int :=
  (loop (gameroomref_KnightIs_L2 w1 l1) 1).bind (gameroomref_KnightIs_K2 w1 h1 l1)

noncomputable def gameroomref_KnightIs_K1  (w1 : Int) (h1 : Int) (l1 : List Int) : (Fl Unit Int) → Option Int :=
  fun (x : (Fl Unit Int)) => match x with | .go _ => (gameroomref_KnightIs_J2 w1 h1 l1) | .ret x => some x

noncomputable def gameroomref_KnightIs_L1  (w1 : Int) (h1 : Int) (l1 : List Int) : Int → Option (St Int (Fl Unit Int)) :=
  fun (x : Int) => match x with | i1 => if (decide (i1 < (l1.length : Int))) then ((gameroomref_KnightIs_J3 w1 h1 l1 i1)) else (some (.done (.go ())))

noncomputable def gameroomref_KnightIs_J1  (w1 : Int) (h1 : Int) (l1 : List Int) : Option Int :=
  (loop (gameroomref_KnightIs_L1 w1 h1 l1) 0).bind (gameroomref_KnightIs_K1 w1 h1 l1)

noncomputable def gameroomref_KnightIs_m  (w1 : Int) (h1 : Int) (l1 : List Int) : Option Int :=
  if ((l1.length : Int) == 0) then (some 0) else ((gameroomref_KnightIs_J1 w1 h1 l1))

set_option maxRecDepth 100000 in
set_option maxHeartbeats 4000000 in
theorem gameroomref_KnightIs_w {w1 : Int} {h1 : Int} {A1 : Option Addr} {c1 : Nat} {n1 : Nat} {l1 : List Int} {r : Int} {w0 w : World} {B : Nat} {fs : List HP} (hm : gameroomref_KnightIs_m w1 h1 l1 = some r) (hS : Sep w0 B w (fs)) (hr_l1 : RdF w0 B fs A1 (vI l1)) (_hc_l1 : l1.length ≤ c1) (_hn_l1 : n1 = l1.length) :
    Calls Tryd.prog 11 #[.int .i64 w1, .int .i64 h1, .slice A1 n1 c1] w fun e w' => e = .returned (.int .i64 r) ∧ Sep w0 B w' (fs) := by
  obtain ⟨i3, hi3, hz3, hs3, hb3⟩ := info_parts Info3
  obtain rfl := _hn_l1
  unfold gameroomref_KnightIs_m at hm
  replace hm := start_b hm
  refine enter (l := [.int .i64 w1, .int .i64 h1, .slice A1 l1.length c1]) (n := 74) Tryd.func11 rfl rfl (by simp) (fun a hF => ?_)
  refine reg [] [] [0, 1, 2] [pl 0 (.int .i64 w1), pl 1 (.int .i64 h1), pl 2 (.slice A1 l1.length c1)] hF hS Fol (by kernel_rfl) (by kernel_rfl) (by kernel_rfl) ?_ (fun a w hF hS => ?_)
  · exact obs_nil
  refine seq_cut (fun a w => Fr 74 [pl 0 (.int .i64 w1), pl 1 (.int .i64 h1), pl 2 (.slice A1 l1.length c1)] a ∧ Sep w0 B w (fs) ∧ ((gameroomref_KnightIs_J1 w1 h1 l1)).bind some = some r) ?_ ?_
  · rintro a w ⟨hF, hS, hm⟩
    unfold gameroomref_KnightIs_J1 at hm
    refine seq_cut (fun a w => Fr 74 [pl 0 (.int .i64 w1), pl 1 (.int .i64 h1), pl 2 (.slice A1 l1.length c1)] a ∧ Sep w0 B w (fs) ∧ ((gameroomref_KnightIs_J2 w1 h1 l1)).bind some = some r) ?_ ?_
    · rintro a w ⟨hF, hS, hm⟩
      unfold gameroomref_KnightIs_J2 at hm
      refine seq_cut (fun a w => Fr 74 [pl 0 (.int .i64 w1), pl 1 (.int .i64 h1), pl 2 (.slice A1 l1.length c1)] a ∧ Sep w0 B w (fs) ∧ ((gameroomref_KnightIs_J5 w1 h1 l1)).bind some = some r) ?_ ?_
      · rintro a w ⟨hF, hS, hm⟩
        unfold gameroomref_KnightIs_J5 at hm
        refine seq_cut (fun a w => Fr 74 [pl 0 (.int .i64 w1), pl 2 (.slice A1 l1.length c1)] a ∧ Sep w0 B w (fs) ∧ ((gameroomref_KnightIs_J8 w1 l1)).bind some = some r) ?_ ?_
        · rintro a w ⟨hF, hS, hm⟩
          unfold gameroomref_KnightIs_J8 at hm
          refine seq_cut (fun a w => Fr 74 [] a ∧ Sep w0 B w (fs) ∧ (gameroomref_KnightIs_J9).bind some = some r) ?_ ?_
          · rintro a w ⟨hF, hS, hm⟩
            unfold gameroomref_KnightIs_J9 at hm
            refine reg [] [] [6] [pl 6 (.int .i64 2)] hF hS Fol (by kernel_rfl) (by kernel_rfl) (by kernel_rfl) ?_ (fun a w hF hS => ?_)
            · exact obs_nil
            refine wpIn_ret ?_
            have hm : some 2 = some r := hm
            obtain rfl := Option.some.inj hm
            exact retV (rs := [.tmp 6]) (vs := [.int .i64 2]) hF rfl (rv_t (by kernel_rfl) <| rv_nil) rfl ⟨rfl, hS⟩
          · obtain ⟨hp6, hm⟩ := asrt_b hm
            obtain ⟨hp7, hm⟩ := asrt_b hm
            obtain ⟨r4, hr4, hm⟩ := call_b hm
            refine reg [⟨true, [], vS (Instr.indexAt 22 (.slice A1 l1.length c1) (.int .i64 0)), .pointer (some (sAddr A1 0))⟩, ⟨false, [], vS (Instr.loadAt 3 (.pointer (some (sAddr A1 0)))), .int .i64 (geti l1 0)⟩, ⟨true, [], vS (Instr.indexAt 22 (.slice A1 l1.length c1) (.int .i64 (w64 ((l1.length : Int) - 1)))), .pointer (some (sAddr A1 (w64 ((l1.length : Int) - 1))))⟩, ⟨false, [], vS (Instr.loadAt 3 (.pointer (some (sAddr A1 (w64 ((l1.length : Int) - 1)))))), .int .i64 (geti l1 (w64 ((l1.length : Int) - 1)))⟩, ⟨false, [], callFunc 34 #[.int .i64 w1, .int .i64 (geti l1 0), .int .i64 (geti l1 (w64 ((l1.length : Int) - 1)))], .bool r4⟩] [none, none, some (.pointer (some (sAddr A1 0))), some (.int .i64 (geti l1 0)), none, none, none, none, some (.pointer (some (sAddr A1 (w64 ((l1.length : Int) - 1))))), some (.int .i64 (geti l1 (w64 ((l1.length : Int) - 1)))), some (.bool r4)] [73] [pl 73 (.bool r4)] hF hS Fol (by kernel_rfl) (by kernel_rfl) (by kernel_rfl) ?_ (fun a w hF hS => ?_)
            · exact obs_cons (ob_ix1 (f := (Value.int .i64)) (m := l1) Und22 hi3 hs3 (hr_l1 _ (hS.dropN 0)) rfl (fun _ => hp6)) <| obs_cons (ob_get1 (n := l1.length) (m := l1) (Value.int .i64) (0 : Int) Agg3 (fun _ hS => ⟨_, (hr_l1 _ (hS.dropN 0))⟩) (fun _ hS => rfl) (fun _ => hp6)) <| obs_cons (ob_ix1 (f := (Value.int .i64)) (m := l1) Und22 hi3 hs3 (hr_l1 _ (hS.dropN 0)) rfl (fun _ => hp7)) <| obs_cons (ob_get1 (n := l1.length) (m := l1) (Value.int .i64) (0 : Int) Agg3 (fun _ hS => ⟨_, (hr_l1 _ (hS.dropN 0))⟩) (fun _ hS => rfl) (fun _ => hp7)) <| obs_cons (ob_call Tryd.func34 (by kernel_rfl) rfl (fun _ _ hS => gameroomref_KnightStep_w hr4 hS )) <| obs_nil
            refine cond_ev (t := 73) (b := r4) hF (by kernel_rfl) (fun hb => ?_) (fun hb => ?_)
            · replace hm := if_t hm hb
              refine reg [] [] [6] [pl 6 (.int .i64 3)] hF hS Fol (by kernel_rfl) (by kernel_rfl) (by kernel_rfl) ?_ (fun a w hF hS => ?_)
              · exact obs_nil
              refine wpIn_ret ?_
              refine then_r ?_
              have hm : some 3 = some r := hm
              obtain rfl := Option.some.inj hm
              exact retV (rs := [.tmp 6]) (vs := [.int .i64 3]) hF rfl (rv_t (by kernel_rfl) <| rv_nil) rfl ⟨rfl, hS⟩
            · replace hm := if_f hm hb
              refine wpIn_skip ?_
              refine then_n ?_
              exact ⟨hF.weak [] (by kernel_rfl), hS, hm⟩
        · refine reg [] [] [0, 2, 62] [pl 0 (.int .i64 w1), pl 2 (.slice A1 l1.length c1), pl 62 (.bool (decide ((l1.length : Int) < (w64 (w1 * h1)))))] hF hS Fol (by kernel_rfl) (by kernel_rfl) (by kernel_rfl) ?_ (fun a w hF hS => ?_)
          · exact obs_nil
          refine cond_ev (t := 62) (b := decide ((l1.length : Int) < (w64 (w1 * h1)))) hF (by kernel_rfl) (fun hb => ?_) (fun hb => ?_)
          · replace hm := if_t hm hb
            refine reg [] [] [6] [pl 6 (.int .i64 1)] hF hS Fol (by kernel_rfl) (by kernel_rfl) (by kernel_rfl) ?_ (fun a w hF hS => ?_)
            · exact obs_nil
            refine wpIn_ret ?_
            refine then_r ?_
            have hm : some 1 = some r := hm
            obtain rfl := Option.some.inj hm
            exact retV (rs := [.tmp 6]) (vs := [.int .i64 1]) hF rfl (rv_t (by kernel_rfl) <| rv_nil) rfl ⟨rfl, hS⟩
          · replace hm := if_f hm hb
            refine wpIn_skip ?_
            refine then_n ?_
            exact ⟨hF.weak [0, 2] (by kernel_rfl), hS, hm⟩
      · refine reg [] [] [0, 1, 2, 8] [pl 0 (.int .i64 w1), pl 1 (.int .i64 h1), pl 2 (.slice A1 l1.length c1), pl 8 (.int .i64 1)] hF hS Fol (by kernel_rfl) (by kernel_rfl) (by kernel_rfl) ?_ (fun a w hF hS => ?_)
        · exact obs_nil
        refine wpIn_block ?_
        refine wp_loop_model (S := Int) (R := (Fl Unit Int)) (gameroomref_KnightIs_L2 w1 l1) (fun x => ((gameroomref_KnightIs_K2 w1 h1 l1) x).bind some) r (fun (x : Int) a w => Fr 74 [pl 0 (.int .i64 w1), pl 1 (.int .i64 h1), pl 2 (.slice A1 l1.length c1), pl 8 (.int .i64 x)] a ∧ Sep w0 B w (fs)) (assoc_b hm) ⟨hF.weak [0, 1, 2, 8] (by kernel_rfl), hS⟩ ?_
        clear hF hS hm
        rintro nn2 i2 a w ⟨hF, hS⟩ hm
        generalize hφ2 : stK (gameroomref_KnightIs_L2 w1 l1) nn2 (fun x => ((gameroomref_KnightIs_K2 w1 h1 l1) x).bind some) = φ2 at hm
        unfold gameroomref_KnightIs_L2 at hm
        dsimp only at hm
        refine seq_cut (fun a w => Fr 74 [pl 0 (.int .i64 w1), pl 1 (.int .i64 h1), pl 2 (.slice A1 l1.length c1), pl 8 (.int .i64 i2)] a ∧ Sep w0 B w (fs) ∧ ((gameroomref_KnightIs_J6 w1 l1 i2)).bind φ2 = some r) ?_ ?_
        · rintro a w ⟨hF, hS, hm⟩
          unfold gameroomref_KnightIs_J6 at hm
          refine seq_cut (fun a w => Fr 74 [pl 0 (.int .i64 w1), pl 1 (.int .i64 h1), pl 2 (.slice A1 l1.length c1), pl 8 (.int .i64 i2)] a ∧ Sep w0 B w (fs) ∧ ((gameroomref_KnightIs_J7 i2)).bind φ2 = some r) ?_ ?_
          · rintro a w ⟨hF, hS, hm⟩
            unfold gameroomref_KnightIs_J7 at hm
            refine reg1 [] [] [0, 1, 2, 8] [pl 0 (.int .i64 w1), pl 1 (.int .i64 h1), pl 2 (.slice A1 l1.length c1), pl 8 (.int .i64 (w64 (i2 + 1)))] hF hS Fol (by kernel_rfl) (by kernel_rfl) (by kernel_rfl) ?_ (fun a w hF hS => ?_)
            · exact obs_nil
            refine then_n ?_
            rw [← hφ2] at hm
            exact ⟨(w64 (i2 + 1)), ⟨hF.weak [0, 1, 2, 8] (by kernel_rfl), hS⟩, hm⟩
          · refine wpIn_block ?_
            obtain ⟨hp4, hm⟩ := asrt_b hm
            obtain ⟨hp5, hm⟩ := asrt_b hm
            obtain ⟨r3, hr3, hm⟩ := call_b hm
            refine reg [⟨true, [], vS (Instr.indexAt 22 (.slice A1 l1.length c1) (.int .i64 (w64 (i2 - 1)))), .pointer (some (sAddr A1 (w64 (i2 - 1))))⟩, ⟨false, [], vS (Instr.loadAt 3 (.pointer (some (sAddr A1 (w64 (i2 - 1)))))), .int .i64 (geti l1 (w64 (i2 - 1)))⟩, ⟨true, [], vS (Instr.indexAt 22 (.slice A1 l1.length c1) (.int .i64 i2)), .pointer (some (sAddr A1 i2))⟩, ⟨false, [], vS (Instr.loadAt 3 (.pointer (some (sAddr A1 i2)))), .int .i64 (geti l1 i2)⟩, ⟨false, [], callFunc 34 #[.int .i64 w1, .int .i64 (geti l1 (w64 (i2 - 1))), .int .i64 (geti l1 i2)], .bool r3⟩] [none, none, none, none, some (.pointer (some (sAddr A1 (w64 (i2 - 1))))), some (.int .i64 (geti l1 (w64 (i2 - 1)))), none, none, some (.pointer (some (sAddr A1 i2))), some (.int .i64 (geti l1 i2)), some (.bool r3), none] [0, 1, 2, 8, 56] [pl 0 (.int .i64 w1), pl 1 (.int .i64 h1), pl 2 (.slice A1 l1.length c1), pl 8 (.int .i64 i2), pl 56 (.bool (!r3))] hF hS Fol (by kernel_rfl) (by kernel_rfl) (by kernel_rfl) ?_ (fun a w hF hS => ?_)
            · exact obs_cons (ob_ix1 (f := (Value.int .i64)) (m := l1) Und22 hi3 hs3 (hr_l1 _ (hS.dropN 0)) rfl (fun _ => hp4)) <| obs_cons (ob_get1 (n := l1.length) (m := l1) (Value.int .i64) (0 : Int) Agg3 (fun _ hS => ⟨_, (hr_l1 _ (hS.dropN 0))⟩) (fun _ hS => rfl) (fun _ => hp4)) <| obs_cons (ob_ix1 (f := (Value.int .i64)) (m := l1) Und22 hi3 hs3 (hr_l1 _ (hS.dropN 0)) rfl (fun _ => hp5)) <| obs_cons (ob_get1 (n := l1.length) (m := l1) (Value.int .i64) (0 : Int) Agg3 (fun _ hS => ⟨_, (hr_l1 _ (hS.dropN 0))⟩) (fun _ hS => rfl) (fun _ => hp5)) <| obs_cons (ob_call Tryd.func34 (by kernel_rfl) rfl (fun _ _ hS => gameroomref_KnightStep_w hr3 hS )) <| obs_nil
            refine cond_ev (t := 56) (b := !r3) hF (by kernel_rfl) (fun hb => ?_) (fun hb => ?_)
            · replace hm := if_t hm hb
              refine reg [] [] [6] [pl 6 (.int .i64 0)] hF hS Fol (by kernel_rfl) (by kernel_rfl) (by kernel_rfl) ?_ (fun a w hF hS => ?_)
              · exact obs_nil
              refine wpIn_ret ?_
              refine block_r (then_r (then_r (block_r (then_r ?_))))
              rw [← hφ2] at hm
              replace hm := done_b hm
              unfold gameroomref_KnightIs_K2 at hm
              try dsimp only at hm
              have hm : some 0 = some r := hm
              obtain rfl := Option.some.inj hm
              exact retV (rs := [.tmp 6]) (vs := [.int .i64 0]) hF rfl (rv_t (by kernel_rfl) <| rv_nil) rfl ⟨rfl, hS⟩
            · replace hm := if_f hm hb
              refine wpIn_skip ?_
              refine block_n ?_
              refine then_n ?_
              exact ⟨hF.weak [0, 1, 2, 8] (by kernel_rfl), hS, hm⟩
        · refine reg [] [] [0, 1, 2, 8, 42] [pl 0 (.int .i64 w1), pl 1 (.int .i64 h1), pl 2 (.slice A1 l1.length c1), pl 8 (.int .i64 i2), pl 42 (.bool (decide (i2 < (l1.length : Int))))] hF hS Fol (by kernel_rfl) (by kernel_rfl) (by kernel_rfl) ?_ (fun a w hF hS => ?_)
          · exact obs_nil
          refine cond_ev (t := 42) (b := decide (i2 < (l1.length : Int))) hF (by kernel_rfl) (fun hb => ?_) (fun hb => ?_)
          · replace hm := if_t hm hb
            refine wpIn_skip ?_
            refine then_n ?_
            exact ⟨hF.weak [0, 1, 2, 8] (by kernel_rfl), hS, hm⟩
          · replace hm := if_f hm hb
            refine wpIn_exit ?_
            refine then_e (then_e (block_e (then_n ?_)))
            rw [← hφ2] at hm
            replace hm := done_b hm
            unfold gameroomref_KnightIs_K2 at hm
            try dsimp only at hm
            have hm : ((gameroomref_KnightIs_J5 w1 h1 l1)).bind some = some r := hm
            exact ⟨hF.weak [0, 1, 2] (by kernel_rfl), hS, hm⟩
    · refine reg [] [] [0, 1, 2, 7] [pl 0 (.int .i64 w1), pl 1 (.int .i64 h1), pl 2 (.slice A1 l1.length c1), pl 7 (.int .i64 0)] hF hS Fol (by kernel_rfl) (by kernel_rfl) (by kernel_rfl) ?_ (fun a w hF hS => ?_)
      · exact obs_nil
      refine wpIn_block ?_
      refine wp_loop_model (S := Int) (R := (Fl Unit Int)) (gameroomref_KnightIs_L1 w1 h1 l1) (fun x => ((gameroomref_KnightIs_K1 w1 h1 l1) x).bind some) r (fun (x : Int) a w => Fr 74 [pl 0 (.int .i64 w1), pl 1 (.int .i64 h1), pl 2 (.slice A1 l1.length c1), pl 7 (.int .i64 x)] a ∧ Sep w0 B w (fs)) (assoc_b hm) ⟨hF.weak [0, 1, 2, 7] (by kernel_rfl), hS⟩ ?_
      clear hF hS hm
      rintro nn1 i1 a w ⟨hF, hS⟩ hm
      generalize hφ1 : stK (gameroomref_KnightIs_L1 w1 h1 l1) nn1 (fun x => ((gameroomref_KnightIs_K1 w1 h1 l1) x).bind some) = φ1 at hm
      unfold gameroomref_KnightIs_L1 at hm
      dsimp only at hm
      refine seq_cut (fun a w => Fr 74 [pl 0 (.int .i64 w1), pl 1 (.int .i64 h1), pl 2 (.slice A1 l1.length c1), pl 7 (.int .i64 i1)] a ∧ Sep w0 B w (fs) ∧ ((gameroomref_KnightIs_J3 w1 h1 l1 i1)).bind φ1 = some r) ?_ ?_
      · rintro a w ⟨hF, hS, hm⟩
        unfold gameroomref_KnightIs_J3 at hm
        refine seq_cut (fun a w => Fr 74 [pl 0 (.int .i64 w1), pl 1 (.int .i64 h1), pl 2 (.slice A1 l1.length c1), pl 7 (.int .i64 i1)] a ∧ Sep w0 B w (fs) ∧ ((gameroomref_KnightIs_J4 i1)).bind φ1 = some r) ?_ ?_
        · rintro a w ⟨hF, hS, hm⟩
          unfold gameroomref_KnightIs_J4 at hm
          refine reg1 [] [] [0, 1, 2, 7] [pl 0 (.int .i64 w1), pl 1 (.int .i64 h1), pl 2 (.slice A1 l1.length c1), pl 7 (.int .i64 (w64 (i1 + 1)))] hF hS Fol (by kernel_rfl) (by kernel_rfl) (by kernel_rfl) ?_ (fun a w hF hS => ?_)
          · exact obs_nil
          refine then_n ?_
          rw [← hφ1] at hm
          exact ⟨(w64 (i1 + 1)), ⟨hF.weak [0, 1, 2, 7] (by kernel_rfl), hS⟩, hm⟩
        · refine wpIn_block ?_
          obtain ⟨hp1, hm⟩ := asrt_b hm
          obtain ⟨r1, hr1, hm⟩ := call_b hm
          obtain ⟨hp2, hm⟩ := asrt_b hm
          obtain ⟨hp3, hm⟩ := asrt_b hm
          obtain ⟨r2, hr2, hm⟩ := call_b hm
          refine reg [⟨true, [], vS (Instr.indexAt 22 (.slice A1 l1.length c1) (.int .i64 i1)), .pointer (some (sAddr A1 i1))⟩, ⟨false, [], vS (Instr.loadAt 3 (.pointer (some (sAddr A1 i1)))), .int .i64 (geti l1 i1)⟩, ⟨false, [], callFunc 32 #[.int .i64 (geti l1 i1), .int .i64 0, .int .i64 (w64 ((w64 (w1 * h1)) - 1))], .bool r1⟩, ⟨true, [(!r1, false)], vS (Instr.sliceAt 22 (.slice A1 l1.length c1) none (some (.int .i64 i1)) none), .slice (cutAddr A1 c1 (0 : Int)) ((cut l1 (0 : Int) i1).length) (c1 - Int.toNat (0 : Int))⟩, ⟨true, [(!r1, false)], vS (Instr.indexAt 22 (.slice A1 l1.length c1) (.int .i64 i1)), .pointer (some (sAddr A1 i1))⟩, ⟨false, [(!r1, false)], vS (Instr.loadAt 3 (.pointer (some (sAddr A1 i1)))), .int .i64 (geti l1 i1)⟩, ⟨false, [(!r1, false)], callFunc 33 #[.slice (cutAddr A1 c1 (0 : Int)) ((cut l1 (0 : Int) i1).length) (c1 - Int.toNat (0 : Int)), .int .i64 (geti l1 i1)], .int .i64 r2⟩] [none, none, some (.pointer (some (sAddr A1 i1))), some (.int .i64 (geti l1 i1)), none, none, none, none, some (.bool r1), none, none, none, none, some (.slice (cutAddr A1 c1 (0 : Int)) ((cut l1 (0 : Int) i1).length) (c1 - Int.toNat (0 : Int))), none, none, some (.pointer (some (sAddr A1 i1))), some (.int .i64 (geti l1 i1)), some (.int .i64 r2), none, none] [0, 1, 2, 7, 38] [pl 0 (.int .i64 w1), pl 1 (.int .i64 h1), pl 2 (.slice A1 l1.length c1), pl 7 (.int .i64 i1), pl 38 (.bool ((!r1) || (decide ((0 : Int) ≤ r2))))] hF hS Fol (by kernel_rfl) (by kernel_rfl) (by kernel_rfl) ?_ (fun a w hF hS => ?_)
          · exact obs_cons (ob_ix1 (f := (Value.int .i64)) (m := l1) Und22 hi3 hs3 (hr_l1 _ (hS.dropN 0)) rfl (fun _ => hp1)) <| obs_cons (ob_get1 (n := l1.length) (m := l1) (Value.int .i64) (0 : Int) Agg3 (fun _ hS => ⟨_, (hr_l1 _ (hS.dropN 0))⟩) (fun _ hS => rfl) (fun _ => hp1)) <| obs_cons (ob_call Tryd.func32 (by kernel_rfl) rfl (fun _ _ hS => gameroomref_within_w hr1 hS )) <| obs_cons (ob_cutn (l := l1) (k := .i64) (k' := .i64) Und22 hi3 hs3 rfl (.inr ⟨rfl, rfl⟩) (.inl rfl) (fun hy => hp2 (hy (!r1, false) (by simp))) _hc_l1) <| obs_cons (ob_ix1 (f := (Value.int .i64)) (m := l1) Und22 hi3 hs3 (hr_l1 _ (hS.dropN 0)) rfl (fun hy => hp3 (hy (!r1, false) (by simp)))) <| obs_cons (ob_get1 (n := l1.length) (m := l1) (Value.int .i64) (0 : Int) Agg3 (fun _ hS => ⟨_, (hr_l1 _ (hS.dropN 0))⟩) (fun _ hS => rfl) (fun hy => hp3 (hy (!r1, false) (by simp)))) <| obs_cons (ob_call Tryd.func33 (by kernel_rfl) rfl (fun hy _ hS => gameroomref_at_w (ite_some hr2 (by rw [show (!r1) = false from hy (!r1, false) (by simp)]; try rfl)) hS (fun _ hS => (Rd.cutF (hr_l1 _ (hS.dropN 0)) (hp2 (hy (!r1, false) (by simp))) _hc_l1)) (cap_cut (hp2 (hy (!r1, false) (by simp))) _hc_l1) rfl)) <| obs_nil
          refine cond_ev (t := 38) (b := (!r1) || (decide ((0 : Int) ≤ r2))) hF (by kernel_rfl) (fun hb => ?_) (fun hb => ?_)
          · replace hm := if_t hm hb
            refine reg [] [] [6] [pl 6 (.int .i64 0)] hF hS Fol (by kernel_rfl) (by kernel_rfl) (by kernel_rfl) ?_ (fun a w hF hS => ?_)
            · exact obs_nil
            refine wpIn_ret ?_
            refine block_r (then_r (then_r (block_r (then_r ?_))))
            rw [← hφ1] at hm
            replace hm := done_b hm
            unfold gameroomref_KnightIs_K1 at hm
            try dsimp only at hm
            have hm : some 0 = some r := hm
            obtain rfl := Option.some.inj hm
            exact retV (rs := [.tmp 6]) (vs := [.int .i64 0]) hF rfl (rv_t (by kernel_rfl) <| rv_nil) rfl ⟨rfl, hS⟩
          · replace hm := if_f hm hb
            refine wpIn_skip ?_
            refine block_n ?_
            refine then_n ?_
            exact ⟨hF.weak [0, 1, 2, 7] (by kernel_rfl), hS, hm⟩
      · refine reg [] [] [0, 1, 2, 7, 15] [pl 0 (.int .i64 w1), pl 1 (.int .i64 h1), pl 2 (.slice A1 l1.length c1), pl 7 (.int .i64 i1), pl 15 (.bool (decide (i1 < (l1.length : Int))))] hF hS Fol (by kernel_rfl) (by kernel_rfl) (by kernel_rfl) ?_ (fun a w hF hS => ?_)
        · exact obs_nil
        refine cond_ev (t := 15) (b := decide (i1 < (l1.length : Int))) hF (by kernel_rfl) (fun hb => ?_) (fun hb => ?_)
        · replace hm := if_t hm hb
          refine wpIn_skip ?_
          refine then_n ?_
          exact ⟨hF.weak [0, 1, 2, 7] (by kernel_rfl), hS, hm⟩
        · replace hm := if_f hm hb
          refine wpIn_exit ?_
          refine then_e (then_e (block_e (then_n ?_)))
          rw [← hφ1] at hm
          replace hm := done_b hm
          unfold gameroomref_KnightIs_K1 at hm
          try dsimp only at hm
          have hm : ((gameroomref_KnightIs_J2 w1 h1 l1)).bind some = some r := hm
          exact ⟨hF.weak [0, 1, 2] (by kernel_rfl), hS, hm⟩
  · refine reg [] [] [0, 1, 2, 11] [pl 0 (.int .i64 w1), pl 1 (.int .i64 h1), pl 2 (.slice A1 l1.length c1), pl 11 (.bool ((l1.length : Int) == 0))] hF hS Fol (by kernel_rfl) (by kernel_rfl) (by kernel_rfl) ?_ (fun a w hF hS => ?_)
    · exact obs_nil
    refine cond_ev (t := 11) (b := ((l1.length : Int) == 0)) hF (by kernel_rfl) (fun hb => ?_) (fun hb => ?_)
    · replace hm := if_t hm hb
      refine reg [] [] [6] [pl 6 (.int .i64 0)] hF hS Fol (by kernel_rfl) (by kernel_rfl) (by kernel_rfl) ?_ (fun a w hF hS => ?_)
      · exact obs_nil
      refine wpIn_ret ?_
      refine then_r ?_
      have hm : some 0 = some r := hm
      obtain rfl := Option.some.inj hm
      exact retV (rs := [.tmp 6]) (vs := [.int .i64 0]) hF rfl (rv_t (by kernel_rfl) <| rv_nil) rfl ⟨rfl, hS⟩
    · replace hm := if_f hm hb
      refine wpIn_skip ?_
      refine then_n ?_
      exact ⟨hF.weak [0, 1, 2] (by kernel_rfl), hS, hm⟩

noncomputable def gameroomref_KnightNext_J3  (i1 : Int) (l3 : List Int) : Option (St (List Int × Int) (List Int)) :=
  some (.next (l3, (w64 (i1 + 1))))

noncomputable def gameroomref_KnightNext_J2  (w1 : Int) (place1 : Int) (l1 : List Int) (i1 : Int) : Option (St (List Int × Int) (List Int)) :=
  (gameroomref_KnightStep_m w1 place1 i1).bind fun r1 => if r1 then (asrt ((l1.length : Int) + 1 ≤ bigN) <| (gameroomref_KnightNext_J3 i1) (l1 ++ ([i1] : List Int))) else ((gameroomref_KnightNext_J3 i1) l1)

noncomputable def gameroomref_KnightNext_J1  (l2 : List Int) : Option (List Int) :=
  some l2

noncomputable def gameroomref_KnightNext_K1  : (List Int) → Option (List Int) :=
  fun (x : (List Int)) => match x with | l2 => gameroomref_KnightNext_J1 l2

noncomputable def gameroomref_KnightNext_L1  (w1 : Int) (h1 : Int) (place1 : Int) : (List Int × Int) → Option (St (List Int × Int) (List Int)) :=
  fun (x : (List Int × Int)) => match x with | (l1, i1) => if (decide (i1 < (w64 (w1 * h1)))) then ((gameroomref_KnightNext_J2 w1 place1 l1 i1)) else (some (.done l1))

noncomputable def gameroomref_KnightNext_m  (w1 : Int) (h1 : Int) (place1 : Int) : Option (List Int) :=
  (loop (gameroomref_KnightNext_L1 w1 h1 place1) (([] : List Int), 0)).bind gameroomref_KnightNext_K1

set_option maxRecDepth 100000 in
set_option maxHeartbeats 4000000 in
theorem gameroomref_KnightNext_w {w1 : Int} {h1 : Int} {place1 : Int} {r : (List Int)} {w0 w : World} {B : Nat} {fs : List HP} (hm : gameroomref_KnightNext_m w1 h1 place1 = some r) (hS : Sep w0 B w (fs)) :
    Calls Tryd.prog 13 #[.int .i64 w1, .int .i64 h1, .int .i64 place1] w fun e w' => ∃ v, e = .returned v ∧ ∃ (A5 : Option Addr) (c5 : Nat), v = .slice A5 r.length c5 ∧ Sep w0 B w' (own 3 (.slice A5 r.length c5) (vI r) :: fs) := by
  obtain ⟨i3, hi3, hz3, hs3, hb3⟩ := info_parts Info3
  unfold gameroomref_KnightNext_m at hm
  replace hm := start_b hm
  refine enter (l := [.int .i64 w1, .int .i64 h1, .int .i64 place1]) (n := 25) Tryd.func13 rfl rfl (by simp) (fun a hF => ?_)
  refine reg [] [] [0, 1, 2] [pl 0 (.int .i64 w1), pl 1 (.int .i64 h1), pl 2 (.int .i64 place1)] hF hS Fol (by kernel_rfl) (by kernel_rfl) (by kernel_rfl) ?_ (fun a w hF hS => ?_)
  · exact obs_nil
  refine reg [] [] [0, 1, 2, 7] [pl 0 (.int .i64 w1), pl 1 (.int .i64 h1), pl 2 (.int .i64 place1), pl 7 (.slice none 0 0)] hF hS Fol (by kernel_rfl) (by kernel_rfl) (by kernel_rfl) ?_ (fun a w hF hS => ?_)
  · exact obs_nil
  refine seq_cut (fun a w => ∃ (l2 : List Int) (A2 : Option Addr) (c2 : Nat), Fr 25 [pl 7 (.slice A2 l2.length c2)] a ∧ Sep w0 B w (own 3 (.slice A2 l2.length c2) (vI l2) :: fs) ∧ (gameroomref_KnightNext_J1 l2).bind some = some r) ?_ ?_
  · rintro a w ⟨l2, A2, c2, hF, hS, hm⟩
    unfold gameroomref_KnightNext_J1 at hm
    refine reg [] [] [6] [pl 6 (.slice A2 l2.length c2)] hF hS Fol (by kernel_rfl) (by kernel_rfl) (by kernel_rfl) ?_ (fun a w hF hS => ?_)
    · exact obs_nil
    refine wpIn_ret ?_
    have hm : some l2 = some r := hm
    obtain rfl := Option.some.inj hm
    exact retV (rs := [.tmp 6]) (vs := [.slice A2 l2.length c2]) hF rfl (rv_t (by kernel_rfl) <| rv_nil) rfl ⟨_, rfl, A2, c2, rfl, hS⟩
  · refine reg [] [] [0, 1, 2, 7, 8] [pl 0 (.int .i64 w1), pl 1 (.int .i64 h1), pl 2 (.int .i64 place1), pl 7 (.slice none 0 0), pl 8 (.int .i64 0)] hF hS Fol (by kernel_rfl) (by kernel_rfl) (by kernel_rfl) ?_ (fun a w hF hS => ?_)
    · exact obs_nil
    refine wpIn_block ?_
    have hS : Sep w0 B w (own 3 (.slice none 0 0) (vI ([] : List Int)) :: fs) := hS.nil 3
    have hl1 := (hS.at_ 0 rfl).len1
    have hS := (hS.at_ 0 rfl).reN hl1
    have hS : Sep w0 B w (own 3 (.slice none (([] : List Int).length) 0) (vI ([] : List Int)) :: fs) := hS
    have hF := hF.cast (t := 7) (v := .slice none 0 0) (v' := .slice none (([] : List Int).length) 0) rfl rfl (congrArg (fun k => Value.slice none k 0) hl1)
    refine wp_loop_model (S := (List Int × Int)) (R := (List Int)) (gameroomref_KnightNext_L1 w1 h1 place1) (fun x => (gameroomref_KnightNext_K1 x).bind some) r (fun (x : (List Int × Int)) a w => ∃ (A1 : Option Addr) (c1 : Nat), Fr 25 [pl 0 (.int .i64 w1), pl 1 (.int .i64 h1), pl 2 (.int .i64 place1), pl 7 (.slice A1 x.1.length c1), pl 8 (.int .i64 x.2)] a ∧ Sep w0 B w (own 3 (.slice A1 x.1.length c1) (vI x.1) :: fs)) (assoc_b hm) ⟨none, 0, hF.weak [0, 1, 2, 7, 8] (by kernel_rfl), hS⟩ ?_
    clear hF hS hm
    rintro nn1 ⟨l1, i1⟩ a w ⟨A1, c1, hF, hS⟩ hm
    generalize hφ1 : stK (gameroomref_KnightNext_L1 w1 h1 place1) nn1 (fun x => (gameroomref_KnightNext_K1 x).bind some) = φ1 at hm
    unfold gameroomref_KnightNext_L1 at hm
    dsimp only at hF hS hm
    refine seq_cut (fun a w => Fr 25 [pl 0 (.int .i64 w1), pl 1 (.int .i64 h1), pl 2 (.int .i64 place1), pl 7 (.slice A1 l1.length c1), pl 8 (.int .i64 i1)] a ∧ Sep w0 B w (own 3 (.slice A1 l1.length c1) (vI l1) :: fs) ∧ ((gameroomref_KnightNext_J2 w1 place1 l1 i1)).bind φ1 = some r) ?_ ?_
    · rintro a w ⟨hF, hS, hm⟩
      unfold gameroomref_KnightNext_J2 at hm
      refine seq_cut (fun a w => ∃ (l3 : List Int) (A4 : Option Addr) (c4 : Nat), Fr 25 [pl 0 (.int .i64 w1), pl 1 (.int .i64 h1), pl 2 (.int .i64 place1), pl 7 (.slice A4 l3.length c4), pl 8 (.int .i64 i1)] a ∧ Sep w0 B w (own 3 (.slice A4 l3.length c4) (vI l3) :: fs) ∧ ((gameroomref_KnightNext_J3 i1) l3).bind φ1 = some r) ?_ ?_
      · rintro a w ⟨l3, A4, c4, hF, hS, hm⟩
        unfold gameroomref_KnightNext_J3 at hm
        refine reg1 [] [] [0, 1, 2, 7, 8] [pl 0 (.int .i64 w1), pl 1 (.int .i64 h1), pl 2 (.int .i64 place1), pl 7 (.slice A4 l3.length c4), pl 8 (.int .i64 (w64 (i1 + 1)))] hF hS Fol (by kernel_rfl) (by kernel_rfl) (by kernel_rfl) ?_ (fun a w hF hS => ?_)
        · exact obs_nil
        refine then_n ?_
        rw [← hφ1] at hm
        exact ⟨(l3, (w64 (i1 + 1))), ⟨A4, c4, hF.weak [0, 1, 2, 7, 8] (by kernel_rfl), hS⟩, hm⟩
      · refine wpIn_block ?_
        obtain ⟨r1, hr1, hm⟩ := call_b hm
        refine reg [⟨false, [], callFunc 34 #[.int .i64 w1, .int .i64 place1, .int .i64 i1], .bool r1⟩] [none, none, none, some (.bool r1)] [0, 1, 2, 7, 8, 19] [pl 0 (.int .i64 w1), pl 1 (.int .i64 h1), pl 2 (.int .i64 place1), pl 7 (.slice A1 l1.length c1), pl 8 (.int .i64 i1), pl 19 (.bool r1)] hF hS Fol (by kernel_rfl) (by kernel_rfl) (by kernel_rfl) ?_ (fun a w hF hS => ?_)
        · exact obs_cons (ob_call Tryd.func34 (by kernel_rfl) rfl (fun _ _ hS => gameroomref_KnightStep_w hr1 hS )) <| obs_nil
        refine cond_ev (t := 19) (b := r1) hF (by kernel_rfl) (fun hb => ?_) (fun hb => ?_)
        · replace hm := if_t hm hb
          refine oneR ?_
          obtain ⟨hp1, hm⟩ := asrt_b hm
          refine at_run 2 [] [] [0, 1, 2, 8, 20, 21] [pl 0 (.int .i64 w1), pl 1 (.int .i64 h1), pl 2 (.int .i64 place1), pl 8 (.int .i64 i1), pl 20 (.slice A1 l1.length c1), pl 21 (.int .i64 i1)] hF hS (by kernel_rfl) (by kernel_rfl) ?_ (fun a w hF hS => ?_)
          · exact obs_nil
          refine at_do (d := 22) (s := vS (Instr.buildSlice 22 1 #[(0, .int .i64 i1)])) (v := .slice (some ⟨w.heap.size, 0, none⟩) 1 1) (w' := w.alloc (.cells #[.int .i64 i1] 3)) hF (by kernel_rfl) (by kernel_rfl) (by kernel_rfl) (fun a hF => ?_)
          have hS : Sep w0 B (w.alloc (.cells #[.int .i64 i1] 3)) (own 3 (.slice (some (⟨w.heap.size, 0, none⟩ : Addr)) 1 1) (vI ([i1] : List Int)) :: (own 3 (.slice A1 l1.length c1) (vI l1) :: fs)) := hS.lit 3 #[.int .i64 i1] 1 rfl (by omega)
          generalize (some (⟨w.heap.size, 0, none⟩ : Addr)) = g1 at hF hS
          generalize w.alloc (.cells #[.int .i64 i1] 3) = w at hS ⊢
          obtain ⟨A3, c3, w, hrun, hS⟩ := run_app1 (P := Tryd.prog) (t := 22) (m := l1) (ys := ([i1] : List Int)) (A2 := g1) (m2 := 1) (c2 := 1) (Value.int .i64) (0 : Int) (hS.at_ 1 rfl) (hS.at_ 0 rfl).rd ((hS.at_ 0 rfl).len1) 22 Und22 hi3 hz3 hs3 (by omega) rfl (fun _ => rfl) hp1
          have hS : Sep w0 B w (own 3 (.slice g1 1 1) (vI ([i1] : List Int)) :: own 3 (.slice A3 ((l1 ++ ([i1] : List Int)).length) c3) (vI (l1 ++ ([i1] : List Int))) :: fs) := hS
          refine at_do (d := 23) hF (by kernel_rfl) (by kernel_rfl) hrun (fun a hF => ?_)
          refine at_run 1 [] [] [0, 1, 2, 7, 8] [pl 0 (.int .i64 w1), pl 1 (.int .i64 h1), pl 2 (.int .i64 place1), pl 7 (.slice A3 ((l1 ++ ([i1] : List Int)).length) c3), pl 8 (.int .i64 i1)] hF hS (by kernel_rfl) (by kernel_rfl) ?_ (fun a w hF hS => ?_)
          · exact obs_nil
          refine at_end [0, 1, 2, 7, 8] [pl 0 (.int .i64 w1), pl 1 (.int .i64 h1), pl 2 (.int .i64 place1), pl 7 (.slice A3 ((l1 ++ ([i1] : List Int)).length) c3), pl 8 (.int .i64 i1)] hF rfl (by kernel_rfl) (fun hF => ?_)
          refine block_n ?_
          refine then_n ?_
          have hS := hS.pickN 2 [1] (by decide)
          exact ⟨(l1 ++ ([i1] : List Int)), A3, c3, hF.weak [0, 1, 2, 7, 8] (by kernel_rfl), hS, hm⟩
        · replace hm := if_f hm hb
          refine wpIn_skip ?_
          refine block_n ?_
          refine then_n ?_
          exact ⟨l1, A1, c1, hF.weak [0, 1, 2, 7, 8] (by kernel_rfl), hS, hm⟩
    · refine reg [] [] [0, 1, 2, 7, 8, 13] [pl 0 (.int .i64 w1), pl 1 (.int .i64 h1), pl 2 (.int .i64 place1), pl 7 (.slice A1 l1.length c1), pl 8 (.int .i64 i1), pl 13 (.bool (decide (i1 < (w64 (w1 * h1)))))] hF hS Fol (by kernel_rfl) (by kernel_rfl) (by kernel_rfl) ?_ (fun a w hF hS => ?_)
      · exact obs_nil
      refine cond_ev (t := 13) (b := decide (i1 < (w64 (w1 * h1)))) hF (by kernel_rfl) (fun hb => ?_) (fun hb => ?_)
      · replace hm := if_t hm hb
        refine wpIn_skip ?_
        refine then_n ?_
        exact ⟨hF.weak [0, 1, 2, 7, 8] (by kernel_rfl), hS, hm⟩
      · replace hm := if_f hm hb
        refine wpIn_exit ?_
        refine then_e (then_e (block_e (then_n ?_)))
        rw [← hφ1] at hm
        replace hm := done_b hm
        unfold gameroomref_KnightNext_K1 at hm
        try dsimp only at hm
        have hm : (gameroomref_KnightNext_J1 l1).bind some = some r := hm
        exact ⟨l1, A1, c1, hF.weak [7] (by kernel_rfl), hS, hm⟩

noncomputable def gameroomlaw_sameInts_J4  (i1 : Int) : Option (St Int (Fl Unit Bool)) :=
  some (.next (w64 (i1 + 1)))

noncomputable def gameroomlaw_sameInts_J3  (a1 : List Int) (b1 : List Int) (i1 : Int) : Option (St Int (Fl Unit Bool)) :=
  asrt (0 ≤ i1 ∧ i1 < (a1.length : Int)) <| asrt (0 ≤ i1 ∧ i1 < (b1.length : Int)) <| if ((geti a1 i1) != (geti b1 i1)) then (some (.done (.ret false))) else ((gameroomlaw_sameInts_J4 i1))

noncomputable def gameroomlaw_sameInts_J2  : Option Bool :=
  some true

noncomputable def gameroomlaw_sameInts_K1  : (Fl Unit Bool) → Option Bool :=
  fun (x : (Fl Unit Bool)) => match x with | .go _ => gameroomlaw_sameInts_J2 | .ret x => some x

noncomputable def gameroomlaw_sameInts_L1  (a1 : List Int) (b1 : List Int) : Int → Option (St Int (Fl Unit Bool)) :=
  fun (x : Int) => match x with | i1 => if (decide (i1 < (a1.length : Int))) then ((gameroomlaw_sameInts_J3 a1 b1 i1)) else (some (.done (.go ())))

noncomputable def gameroomlaw_sameInts_J1  (a1 : List Int) (b1 : List Int) : Option Bool :=
  (loop (gameroomlaw_sameInts_L1 a1 b1) 0).bind gameroomlaw_sameInts_K1

noncomputable def gameroomlaw_sameInts_m  (a1 : List Int) (b1 : List Int) : Option Bool :=
  if ((a1.length : Int) != (b1.length : Int)) then (some false) else ((gameroomlaw_sameInts_J1 a1 b1))

set_option maxRecDepth 100000 in
set_option maxHeartbeats 4000000 in
theorem gameroomlaw_sameInts_w {A1 : Option Addr} {c1 : Nat} {n1 : Nat} {a1 : List Int} {A2 : Option Addr} {c2 : Nat} {n2 : Nat} {b1 : List Int} {r : Bool} {w0 w : World} {B : Nat} {fs : List HP} (hm : gameroomlaw_sameInts_m a1 b1 = some r) (hS : Sep w0 B w (fs)) (hr_a1 : RdF w0 B fs A1 (vI a1)) (_hc_a1 : a1.length ≤ c1) (_hn_a1 : n1 = a1.length) (hr_b1 : RdF w0 B fs A2 (vI b1)) (_hc_b1 : b1.length ≤ c2) (_hn_b1 : n2 = b1.length) :
    Calls Tryd.prog 12 #[.slice A1 n1 c1, .slice A2 n2 c2] w fun e w' => e = .returned (.bool r) ∧ Sep w0 B w' (fs) := by
  obtain ⟨i3, hi3, hz3, hs3, hb3⟩ := info_parts Info3
  obtain rfl := _hn_a1
  obtain rfl := _hn_b1
  unfold gameroomlaw_sameInts_m at hm
  replace hm := start_b hm
  refine enter (l := [.slice A1 a1.length c1, .slice A2 b1.length c2]) (n := 26) Tryd.func12 rfl rfl (by simp) (fun a hF => ?_)
  refine reg [] [] [0, 1] [pl 0 (.slice A1 a1.length c1), pl 1 (.slice A2 b1.length c2)] hF hS Fol (by kernel_rfl) (by kernel_rfl) (by kernel_rfl) ?_ (fun a w hF hS => ?_)
  · exact obs_nil
  refine seq_cut (fun a w => Fr 26 [pl 0 (.slice A1 a1.length c1), pl 1 (.slice A2 b1.length c2)] a ∧ Sep w0 B w (fs) ∧ ((gameroomlaw_sameInts_J1 a1 b1)).bind some = some r) ?_ ?_
  · rintro a w ⟨hF, hS, hm⟩
    unfold gameroomlaw_sameInts_J1 at hm
    refine seq_cut (fun a w => Fr 26 [] a ∧ Sep w0 B w (fs) ∧ (gameroomlaw_sameInts_J2).bind some = some r) ?_ ?_
    · rintro a w ⟨hF, hS, hm⟩
      unfold gameroomlaw_sameInts_J2 at hm
      refine reg [] [] [4] [pl 4 (.bool true)] hF hS Fol (by kernel_rfl) (by kernel_rfl) (by kernel_rfl) ?_ (fun a w hF hS => ?_)
      · exact obs_nil
      refine wpIn_ret ?_
      have hm : some true = some r := hm
      obtain rfl := Option.some.inj hm
      exact retV (rs := [.tmp 4]) (vs := [.bool true]) hF rfl (rv_t (by kernel_rfl) <| rv_nil) rfl ⟨rfl, hS⟩
    · refine reg [] [] [0, 1, 5] [pl 0 (.slice A1 a1.length c1), pl 1 (.slice A2 b1.length c2), pl 5 (.int .i64 0)] hF hS Fol (by kernel_rfl) (by kernel_rfl) (by kernel_rfl) ?_ (fun a w hF hS => ?_)
      · exact obs_nil
      refine wpIn_block ?_
      refine wp_loop_model (S := Int) (R := (Fl Unit Bool)) (gameroomlaw_sameInts_L1 a1 b1) (fun x => (gameroomlaw_sameInts_K1 x).bind some) r (fun (x : Int) a w => Fr 26 [pl 0 (.slice A1 a1.length c1), pl 1 (.slice A2 b1.length c2), pl 5 (.int .i64 x)] a ∧ Sep w0 B w (fs)) (assoc_b hm) ⟨hF.weak [0, 1, 5] (by kernel_rfl), hS⟩ ?_
      clear hF hS hm
      rintro nn1 i1 a w ⟨hF, hS⟩ hm
      generalize hφ1 : stK (gameroomlaw_sameInts_L1 a1 b1) nn1 (fun x => (gameroomlaw_sameInts_K1 x).bind some) = φ1 at hm
      unfold gameroomlaw_sameInts_L1 at hm
      dsimp only at hm
      refine seq_cut (fun a w => Fr 26 [pl 0 (.slice A1 a1.length c1), pl 1 (.slice A2 b1.length c2), pl 5 (.int .i64 i1)] a ∧ Sep w0 B w (fs) ∧ ((gameroomlaw_sameInts_J3 a1 b1 i1)).bind φ1 = some r) ?_ ?_
      · rintro a w ⟨hF, hS, hm⟩
        unfold gameroomlaw_sameInts_J3 at hm
        refine seq_cut (fun a w => Fr 26 [pl 0 (.slice A1 a1.length c1), pl 1 (.slice A2 b1.length c2), pl 5 (.int .i64 i1)] a ∧ Sep w0 B w (fs) ∧ ((gameroomlaw_sameInts_J4 i1)).bind φ1 = some r) ?_ ?_
        · rintro a w ⟨hF, hS, hm⟩
          unfold gameroomlaw_sameInts_J4 at hm
          refine reg1 [] [] [0, 1, 5] [pl 0 (.slice A1 a1.length c1), pl 1 (.slice A2 b1.length c2), pl 5 (.int .i64 (w64 (i1 + 1)))] hF hS Fol (by kernel_rfl) (by kernel_rfl) (by kernel_rfl) ?_ (fun a w hF hS => ?_)
          · exact obs_nil
          refine then_n ?_
          rw [← hφ1] at hm
          exact ⟨(w64 (i1 + 1)), ⟨hF.weak [0, 1, 5] (by kernel_rfl), hS⟩, hm⟩
        · refine wpIn_block ?_
          obtain ⟨hp1, hm⟩ := asrt_b hm
          obtain ⟨hp2, hm⟩ := asrt_b hm
          refine reg [⟨true, [], vS (Instr.indexAt 22 (.slice A1 a1.length c1) (.int .i64 i1)), .pointer (some (sAddr A1 i1))⟩, ⟨false, [], vS (Instr.loadAt 3 (.pointer (some (sAddr A1 i1)))), .int .i64 (geti a1 i1)⟩, ⟨true, [], vS (Instr.indexAt 22 (.slice A2 b1.length c2) (.int .i64 i1)), .pointer (some (sAddr A2 i1))⟩, ⟨false, [], vS (Instr.loadAt 3 (.pointer (some (sAddr A2 i1)))), .int .i64 (geti b1 i1)⟩] [none, none, some (.pointer (some (sAddr A1 i1))), some (.int .i64 (geti a1 i1)), none, none, some (.pointer (some (sAddr A2 i1))), some (.int .i64 (geti b1 i1)), none] [0, 1, 5, 25] [pl 0 (.slice A1 a1.length c1), pl 1 (.slice A2 b1.length c2), pl 5 (.int .i64 i1), pl 25 (.bool ((geti a1 i1) != (geti b1 i1)))] hF hS Fol (by kernel_rfl) (by kernel_rfl) (by kernel_rfl) ?_ (fun a w hF hS => ?_)
          · exact obs_cons (ob_ix1 (f := (Value.int .i64)) (m := a1) Und22 hi3 hs3 (hr_a1 _ (hS.dropN 0)) rfl (fun _ => hp1)) <| obs_cons (ob_get1 (n := a1.length) (m := a1) (Value.int .i64) (0 : Int) Agg3 (fun _ hS => ⟨_, (hr_a1 _ (hS.dropN 0))⟩) (fun _ hS => rfl) (fun _ => hp1)) <| obs_cons (ob_ix1 (f := (Value.int .i64)) (m := b1) Und22 hi3 hs3 (hr_b1 _ (hS.dropN 0)) rfl (fun _ => hp2)) <| obs_cons (ob_get1 (n := b1.length) (m := b1) (Value.int .i64) (0 : Int) Agg3 (fun _ hS => ⟨_, (hr_b1 _ (hS.dropN 0))⟩) (fun _ hS => rfl) (fun _ => hp2)) <| obs_nil
          refine cond_ev (t := 25) (b := ((geti a1 i1) != (geti b1 i1))) hF (by kernel_rfl) (fun hb => ?_) (fun hb => ?_)
          · replace hm := if_t hm hb
            refine reg [] [] [4] [pl 4 (.bool false)] hF hS Fol (by kernel_rfl) (by kernel_rfl) (by kernel_rfl) ?_ (fun a w hF hS => ?_)
            · exact obs_nil
            refine wpIn_ret ?_
            refine block_r (then_r (then_r (block_r (then_r ?_))))
            rw [← hφ1] at hm
            replace hm := done_b hm
            unfold gameroomlaw_sameInts_K1 at hm
            try dsimp only at hm
            have hm : some false = some r := hm
            obtain rfl := Option.some.inj hm
            exact retV (rs := [.tmp 4]) (vs := [.bool false]) hF rfl (rv_t (by kernel_rfl) <| rv_nil) rfl ⟨rfl, hS⟩
          · replace hm := if_f hm hb
            refine wpIn_skip ?_
            refine block_n ?_
            refine then_n ?_
            exact ⟨hF.weak [0, 1, 5] (by kernel_rfl), hS, hm⟩
      · refine reg [] [] [0, 1, 5, 14] [pl 0 (.slice A1 a1.length c1), pl 1 (.slice A2 b1.length c2), pl 5 (.int .i64 i1), pl 14 (.bool (decide (i1 < (a1.length : Int))))] hF hS Fol (by kernel_rfl) (by kernel_rfl) (by kernel_rfl) ?_ (fun a w hF hS => ?_)
        · exact obs_nil
        refine cond_ev (t := 14) (b := decide (i1 < (a1.length : Int))) hF (by kernel_rfl) (fun hb => ?_) (fun hb => ?_)
        · replace hm := if_t hm hb
          refine wpIn_skip ?_
          refine then_n ?_
          exact ⟨hF.weak [0, 1, 5] (by kernel_rfl), hS, hm⟩
        · replace hm := if_f hm hb
          refine wpIn_exit ?_
          refine then_e (then_e (block_e (then_n ?_)))
          rw [← hφ1] at hm
          replace hm := done_b hm
          unfold gameroomlaw_sameInts_K1 at hm
          try dsimp only at hm
          have hm : (gameroomlaw_sameInts_J2).bind some = some r := hm
          exact ⟨hF.weak [] (by kernel_rfl), hS, hm⟩
  · refine reg [] [] [0, 1, 10] [pl 0 (.slice A1 a1.length c1), pl 1 (.slice A2 b1.length c2), pl 10 (.bool ((a1.length : Int) != (b1.length : Int)))] hF hS Fol (by kernel_rfl) (by kernel_rfl) (by kernel_rfl) ?_ (fun a w hF hS => ?_)
    · exact obs_nil
    refine cond_ev (t := 10) (b := ((a1.length : Int) != (b1.length : Int))) hF (by kernel_rfl) (fun hb => ?_) (fun hb => ?_)
    · replace hm := if_t hm hb
      refine reg [] [] [4] [pl 4 (.bool false)] hF hS Fol (by kernel_rfl) (by kernel_rfl) (by kernel_rfl) ?_ (fun a w hF hS => ?_)
      · exact obs_nil
      refine wpIn_ret ?_
      refine then_r ?_
      have hm : some false = some r := hm
      obtain rfl := Option.some.inj hm
      exact retV (rs := [.tmp 4]) (vs := [.bool false]) hF rfl (rv_t (by kernel_rfl) <| rv_nil) rfl ⟨rfl, hS⟩
    · replace hm := if_f hm hb
      refine wpIn_skip ?_
      refine then_n ?_
      exact ⟨hF.weak [0, 1] (by kernel_rfl), hS, hm⟩

noncomputable def gameroomref_KnightFar_J3  (far1 : List Int) (i1 : Int) : Option (St (List Int × Int) (List Int)) :=
  some (.next ((far1.set (Int.toNat i1) (-1)), (w64 (i1 + 1))))

noncomputable def gameroomref_KnightFar_J2  (w1 : Int) (h1 : Int) (far1 : List Int) (i1 : Int) : Option (St (List Int × Int) (List Int)) :=
  asrt (0 ≤ i1 ∧ i1 < (((Int.toNat (w64 (w1 * h1))) : Nat) : Int)) <| (gameroomref_KnightFar_J3 far1 i1)

noncomputable def gameroomref_KnightFar_J10  (b1 : Int) (far9 : List Int) : Option (St (List Int × Int) (List Int)) :=
  some (.next (far9, (w64 (b1 + 1))))

noncomputable def gameroomref_KnightFar_J9  (w1 : Int) (h1 : Int) (d1 : Int) (a1 : Int) (far7 : List Int) (b1 : Int) : Option (St (List Int × Int) (List Int)) :=
  asrt (0 ≤ a1 ∧ a1 < (((Int.toNat (w64 (w1 * h1))) : Nat) : Int)) <| asrt (((geti far7 a1) == d1) = true → 0 ≤ b1 ∧ b1 < (((Int.toNat (w64 (w1 * h1))) : Nat) : Int)) <| ((if (((geti far7 a1) == d1) && (decide ((geti far7 b1) < 0))) then gameroomref_KnightStep_m w1 a1 b1 else some false)).bind fun r1 => if ((((geti far7 a1) == d1) && (decide ((geti far7 b1) < 0))) && r1) then (asrt (0 ≤ b1 ∧ b1 < (((Int.toNat (w64 (w1 * h1))) : Nat) : Int)) <| (gameroomref_KnightFar_J10 b1) (far7.set (Int.toNat b1) (w64 (d1 + 1)))) else ((gameroomref_KnightFar_J10 b1) far7)

noncomputable def gameroomref_KnightFar_L4  (w1 : Int) (h1 : Int) (d1 : Int) (a1 : Int) : (List Int × Int) → Option (St (List Int × Int) (List Int)) :=
  fun (x : (List Int × Int)) => match x with | (far7, b1) => if (decide (b1 < (w64 (w1 * h1)))) then ((gameroomref_KnightFar_J9 w1 h1 d1 a1 far7 b1)) else (some (.done far7))

noncomputable def gameroomref_KnightFar_J8  (a1 : Int) (far8 : List Int) : Option (St (List Int × Int) (List Int)) :=
  some (.next (far8, (w64 (a1 + 1))))

noncomputable def gameroomref_KnightFar_K4  (a1 : Int) : (List Int) → Option (St (List Int × Int) (List Int)) :=
  fun (x : (List Int)) => match x with | far8 => (gameroomref_KnightFar_J8 a1) far8

noncomputable def gameroomref_KnightFar_J7  (w1 : Int) (h1 : Int) (d1 : Int) (far5 : List Int) (a1 : Int) : Option (St (List Int × Int) (List Int)) :=
  (loop (gameroomref_KnightFar_L4 w1 h1 d1 a1) (far5, 0)).bind (gameroomref_KnightFar_K4 a1)

noncomputable def gameroomref_KnightFar_L3  (w1 : Int) (h1 : Int) (d1 : Int) : (List Int × Int) → Option (St (List Int × Int) (List Int)) :=
  fun (x : (List Int × Int)) => match x with | (far5, a1) => if (decide (a1 < (w64 (w1 * h1)))) then ((gameroomref_KnightFar_J7 w1 h1 d1 far5 a1)) else (some (.done far5))

noncomputable def gameroomref_KnightFar_J6  (d1 : Int) (far6 : List Int) : Option (St (List Int × Int) (List Int)) :=
  some (.next (far6, (w64 (d1 + 1))))

noncomputable def gameroomref_KnightFar_K3  (d1 : Int) : (List Int) → Option (St (List Int × Int) (List Int)) :=
  fun (x : (List Int)) => match x with | far6 => (gameroomref_KnightFar_J6 d1) far6

noncomputable def gameroomref_KnightFar_J5  (w1 : Int) (h1 : Int) (far3 : List Int) (d1 : Int) : Option (St (List Int × Int) (List Int)) :=
  (loop (gameroomref_KnightFar_L3 w1 h1 d1) (far3, 0)).bind (gameroomref_KnightFar_K3 d1)

noncomputable def gameroomref_KnightFar_L2  (w1 : Int) (h1 : Int) : (List Int × Int) → Option (St (List Int × Int) (List Int)) :=
  fun (x : (List Int × Int)) => match x with | (far3, d1) => if (decide (d1 < (w64 (w1 * h1)))) then ((gameroomref_KnightFar_J5 w1 h1 far3 d1)) else (some (.done far3))

noncomputable def gameroomref_KnightFar_J4  (far4 : List Int) : Option (List Int) :=
  some far4

noncomputable def gameroomref_KnightFar_K2  : (List Int) → Option (List Int) :=
  fun (x : (List Int)) => match x with | far4 => gameroomref_KnightFar_J4 far4

noncomputable def gameroomref_KnightFar_J1  (w1 : Int) (h1 : Int) (from1 : Int) (far2 : List Int) : Option (List Int) :=
  asrt (0 ≤ from1 ∧ from1 < (((Int.toNat (w64 (w1 * h1))) : Nat) : Int)) <| (loop (gameroomref_KnightFar_L2 w1 h1) ((far2.set (Int.toNat from1) 0), 0)).bind gameroomref_KnightFar_K2

noncomputable def gameroomref_KnightFar_K1  (w1 : Int) (h1 : Int) (from1 : Int) : (List Int) → Option (List Int) :=
  fun (x : (List Int)) => match x with | far2 => (gameroomref_KnightFar_J1 w1 h1 from1) far2

noncomputable def gameroomref_KnightFar_L1  (w1 : Int) (h1 : Int) : (List Int × Int) → Option (St (List Int × Int) (List Int)) :=
  fun (x : (List Int × Int)) => match x with | (far1, i1) => if (decide (i1 < (w64 (w1 * h1)))) then ((gameroomref_KnightFar_J2 w1 h1 far1 i1)) else (some (.done far1))

noncomputable def gameroomref_KnightFar_m  (w1 : Int) (h1 : Int) (from1 : Int) : Option (List Int) :=
  asrt ((0 : Int) ≤ (w64 (w1 * h1)) ∧ (w64 (w1 * h1)) ≤ bigN) <| (loop (gameroomref_KnightFar_L1 w1 h1) ((List.replicate (Int.toNat (w64 (w1 * h1))) (0 : Int)), 0)).bind (gameroomref_KnightFar_K1 w1 h1 from1)

set_option maxRecDepth 100000 in
set_option maxHeartbeats 4000000 in
theorem gameroomref_KnightFar_w {w1 : Int} {h1 : Int} {from1 : Int} {r : (List Int)} {w0 w : World} {B : Nat} {fs : List HP} (hm : gameroomref_KnightFar_m w1 h1 from1 = some r) (hS : Sep w0 B w (fs)) :
    Calls Tryd.prog 14 #[.int .i64 w1, .int .i64 h1, .int .i64 from1] w fun e w' => ∃ v, e = .returned v ∧ ∃ (A2 : Option Addr) (c2 : Nat), v = .slice A2 r.length c2 ∧ Sep w0 B w' (own 3 (.slice A2 r.length c2) (vI r) :: fs) := by
  obtain ⟨i3, hi3, hz3, hs3, hb3⟩ := info_parts Info3
  unfold gameroomref_KnightFar_m at hm
  replace hm := start_b hm
  refine enter (l := [.int .i64 w1, .int .i64 h1, .int .i64 from1]) (n := 75) Tryd.func14 rfl rfl (by simp) (fun a hF => ?_)
  refine reg [] [] [0, 1, 2] [pl 0 (.int .i64 w1), pl 1 (.int .i64 h1), pl 2 (.int .i64 from1)] hF hS Fol (by kernel_rfl) (by kernel_rfl) (by kernel_rfl) ?_ (fun a w hF hS => ?_)
  · exact obs_nil
  refine seqR ?_
  obtain ⟨hp1, hm⟩ := asrt_b hm
  refine at_run 3 [] [] [0, 1, 2, 14] [pl 0 (.int .i64 w1), pl 1 (.int .i64 h1), pl 2 (.int .i64 from1), pl 14 (.int .i64 (w64 (w1 * h1)))] hF hS (by kernel_rfl) (by kernel_rfl) ?_ (fun a w hF hS => ?_)
  · exact obs_nil
  obtain ⟨A1, c1, w, hrun, hS⟩ := run_mk1 (P := Tryd.prog) (t := 22) (Value.int .i64) (0 : Int) hS .i64 .i64 Und22 hi3 hz3 hs3 (by omega) rfl hp1
  have hS : Sep w0 B w (own 3 (.slice A1 (Int.toNat (w64 (w1 * h1))) c1) (vI (List.replicate (Int.toNat (w64 (w1 * h1))) (0 : Int))) :: fs) := hS
  refine at_do (d := 15) hF (by kernel_rfl) (by kernel_rfl) hrun (fun a hF => ?_)
  refine at_run 1 [] [] [0, 1, 2, 7] [pl 0 (.int .i64 w1), pl 1 (.int .i64 h1), pl 2 (.int .i64 from1), pl 7 (.slice A1 (Int.toNat (w64 (w1 * h1))) c1)] hF hS (by kernel_rfl) (by kernel_rfl) ?_ (fun a w hF hS => ?_)
  · exact obs_nil
  refine at_end [0, 1, 2, 7] [pl 0 (.int .i64 w1), pl 1 (.int .i64 h1), pl 2 (.int .i64 from1), pl 7 (.slice A1 (Int.toNat (w64 (w1 * h1))) c1)] hF rfl (by kernel_rfl) (fun hF => ?_)
  refine then_n ?_
  refine seq_cut (fun a w => ∃ (far2 : List Int), Fr 75 [pl 0 (.int .i64 w1), pl 1 (.int .i64 h1), pl 2 (.int .i64 from1), pl 7 (.slice A1 (Int.toNat (w64 (w1 * h1))) c1)] a ∧ Sep w0 B w (own 3 (.slice A1 (Int.toNat (w64 (w1 * h1))) c1) (vI far2) :: fs) ∧ ((gameroomref_KnightFar_J1 w1 h1 from1) far2).bind some = some r) ?_ ?_
  · rintro a w ⟨far2, hF, hS, hm⟩
    unfold gameroomref_KnightFar_J1 at hm
    refine seqR ?_
    obtain ⟨hp3, hm⟩ := asrt_b hm
    refine at_run 3 [⟨true, [], vS (Instr.indexAt 22 (.slice A1 (Int.toNat (w64 (w1 * h1))) c1) (.int .i64 from1)), .pointer (some (sAddr A1 from1))⟩] [none, none, some (.pointer (some (sAddr A1 from1)))] [0, 1, 7, 28] [pl 0 (.int .i64 w1), pl 1 (.int .i64 h1), pl 7 (.slice A1 (Int.toNat (w64 (w1 * h1))) c1), pl 28 (.pointer (some (sAddr A1 from1)))] hF hS (by kernel_rfl) (by kernel_rfl) ?_ (fun a w hF hS => ?_)
    · exact obs_cons (ob_ix1 (f := (Value.int .i64)) (m := far2) Und22 hi3 hs3 (hS.at_ 0 rfl).rd ((hS.at_ 0 rfl).len1) (fun _ => hp3)) <| obs_nil
    obtain ⟨w, hrun, hS⟩ := run_set1 (P := Tryd.prog) (t := 3) (x := 0) (Value.int .i64) (hS.at_ 0 rfl) hi3 hs3 rfl rfl hp3
    refine at_skip hF (by kernel_rfl) hrun ?_
    have hS : Sep w0 B w (own 3 (.slice A1 (Int.toNat (w64 (w1 * h1))) c1) (vI (far2.set (Int.toNat from1) 0)) :: fs) := hS
    refine at_end [0, 1, 7] [pl 0 (.int .i64 w1), pl 1 (.int .i64 h1), pl 7 (.slice A1 (Int.toNat (w64 (w1 * h1))) c1)] hF rfl (by kernel_rfl) (fun hF => ?_)
    refine then_n ?_
    refine seq_cut (fun a w => ∃ (far4 : List Int), Fr 75 [pl 7 (.slice A1 (Int.toNat (w64 (w1 * h1))) c1)] a ∧ Sep w0 B w (own 3 (.slice A1 (Int.toNat (w64 (w1 * h1))) c1) (vI far4) :: fs) ∧ (gameroomref_KnightFar_J4 far4).bind some = some r) ?_ ?_
    · rintro a w ⟨far4, hF, hS, hm⟩
      unfold gameroomref_KnightFar_J4 at hm
      refine reg [] [] [6] [pl 6 (.slice A1 (Int.toNat (w64 (w1 * h1))) c1)] hF hS Fol (by kernel_rfl) (by kernel_rfl) (by kernel_rfl) ?_ (fun a w hF hS => ?_)
      · exact obs_nil
      refine wpIn_ret ?_
      have hl1 := (hS.at_ 0 rfl).len1
      have hS := (hS.at_ 0 rfl).reN hl1
      have hS : Sep w0 B w (own 3 (.slice A1 far4.length c1) (vI far4) :: fs) := hS
      have hF := hF.cast (t := 6) (v := .slice A1 (Int.toNat (w64 (w1 * h1))) c1) (v' := .slice A1 far4.length c1) rfl rfl (congrArg (fun k => Value.slice A1 k c1) hl1)
      have hm : some far4 = some r := hm
      obtain rfl := Option.some.inj hm
      exact retV (rs := [.tmp 6]) (vs := [.slice A1 far4.length c1]) hF rfl (rv_t (by kernel_rfl) <| rv_nil) rfl ⟨_, rfl, A1, c1, rfl, hS⟩
    · refine reg [] [] [0, 1, 7, 9] [pl 0 (.int .i64 w1), pl 1 (.int .i64 h1), pl 7 (.slice A1 (Int.toNat (w64 (w1 * h1))) c1), pl 9 (.int .i64 0)] hF hS Fol (by kernel_rfl) (by kernel_rfl) (by kernel_rfl) ?_ (fun a w hF hS => ?_)
      · exact obs_nil
      refine wpIn_block ?_
      refine wp_loop_model (S := (List Int × Int)) (R := (List Int)) (gameroomref_KnightFar_L2 w1 h1) (fun x => (gameroomref_KnightFar_K2 x).bind some) r (fun (x : (List Int × Int)) a w => Fr 75 [pl 0 (.int .i64 w1), pl 1 (.int .i64 h1), pl 7 (.slice A1 (Int.toNat (w64 (w1 * h1))) c1), pl 9 (.int .i64 x.2)] a ∧ Sep w0 B w (own 3 (.slice A1 (Int.toNat (w64 (w1 * h1))) c1) (vI x.1) :: fs)) (assoc_b hm) ⟨hF.weak [0, 1, 7, 9] (by kernel_rfl), hS⟩ ?_
      clear hF hS hm
      rintro nn2 ⟨far3, d1⟩ a w ⟨hF, hS⟩ hm
      generalize hφ2 : stK (gameroomref_KnightFar_L2 w1 h1) nn2 (fun x => (gameroomref_KnightFar_K2 x).bind some) = φ2 at hm
      unfold gameroomref_KnightFar_L2 at hm
      dsimp only at hF hS hm
      refine seq_cut (fun a w => Fr 75 [pl 0 (.int .i64 w1), pl 1 (.int .i64 h1), pl 7 (.slice A1 (Int.toNat (w64 (w1 * h1))) c1), pl 9 (.int .i64 d1)] a ∧ Sep w0 B w (own 3 (.slice A1 (Int.toNat (w64 (w1 * h1))) c1) (vI far3) :: fs) ∧ ((gameroomref_KnightFar_J5 w1 h1 far3 d1)).bind φ2 = some r) ?_ ?_
      · rintro a w ⟨hF, hS, hm⟩
        unfold gameroomref_KnightFar_J5 at hm
        refine seq_cut (fun a w => ∃ (far6 : List Int), Fr 75 [pl 0 (.int .i64 w1), pl 1 (.int .i64 h1), pl 7 (.slice A1 (Int.toNat (w64 (w1 * h1))) c1), pl 9 (.int .i64 d1)] a ∧ Sep w0 B w (own 3 (.slice A1 (Int.toNat (w64 (w1 * h1))) c1) (vI far6) :: fs) ∧ ((gameroomref_KnightFar_J6 d1) far6).bind φ2 = some r) ?_ ?_
        · rintro a w ⟨far6, hF, hS, hm⟩
          unfold gameroomref_KnightFar_J6 at hm
          refine reg1 [] [] [0, 1, 7, 9] [pl 0 (.int .i64 w1), pl 1 (.int .i64 h1), pl 7 (.slice A1 (Int.toNat (w64 (w1 * h1))) c1), pl 9 (.int .i64 (w64 (d1 + 1)))] hF hS Fol (by kernel_rfl) (by kernel_rfl) (by kernel_rfl) ?_ (fun a w hF hS => ?_)
          · exact obs_nil
          refine then_n ?_
          rw [← hφ2] at hm
          exact ⟨(far6, (w64 (d1 + 1))), ⟨hF.weak [0, 1, 7, 9] (by kernel_rfl), hS⟩, hm⟩
        · refine wpIn_block ?_
          refine reg [] [] [0, 1, 7, 9, 10] [pl 0 (.int .i64 w1), pl 1 (.int .i64 h1), pl 7 (.slice A1 (Int.toNat (w64 (w1 * h1))) c1), pl 9 (.int .i64 d1), pl 10 (.int .i64 0)] hF hS Fol (by kernel_rfl) (by kernel_rfl) (by kernel_rfl) ?_ (fun a w hF hS => ?_)
          · exact obs_nil
          refine wpIn_block ?_
          refine wp_loop_model (S := (List Int × Int)) (R := (List Int)) (gameroomref_KnightFar_L3 w1 h1 d1) (fun x => ((gameroomref_KnightFar_K3 d1) x).bind φ2) r (fun (x : (List Int × Int)) a w => Fr 75 [pl 0 (.int .i64 w1), pl 1 (.int .i64 h1), pl 7 (.slice A1 (Int.toNat (w64 (w1 * h1))) c1), pl 9 (.int .i64 d1), pl 10 (.int .i64 x.2)] a ∧ Sep w0 B w (own 3 (.slice A1 (Int.toNat (w64 (w1 * h1))) c1) (vI x.1) :: fs)) (assoc_b hm) ⟨hF.weak [0, 1, 7, 9, 10] (by kernel_rfl), hS⟩ ?_
          clear hF hS hm
          rintro nn3 ⟨far5, a1⟩ a w ⟨hF, hS⟩ hm
          generalize hφ3 : stK (gameroomref_KnightFar_L3 w1 h1 d1) nn3 (fun x => ((gameroomref_KnightFar_K3 d1) x).bind φ2) = φ3 at hm
          unfold gameroomref_KnightFar_L3 at hm
          dsimp only at hF hS hm
          refine seq_cut (fun a w => Fr 75 [pl 0 (.int .i64 w1), pl 1 (.int .i64 h1), pl 7 (.slice A1 (Int.toNat (w64 (w1 * h1))) c1), pl 9 (.int .i64 d1), pl 10 (.int .i64 a1)] a ∧ Sep w0 B w (own 3 (.slice A1 (Int.toNat (w64 (w1 * h1))) c1) (vI far5) :: fs) ∧ ((gameroomref_KnightFar_J7 w1 h1 d1 far5 a1)).bind φ3 = some r) ?_ ?_
          · rintro a w ⟨hF, hS, hm⟩
            unfold gameroomref_KnightFar_J7 at hm
            refine seq_cut (fun a w => ∃ (far8 : List Int), Fr 75 [pl 0 (.int .i64 w1), pl 1 (.int .i64 h1), pl 7 (.slice A1 (Int.toNat (w64 (w1 * h1))) c1), pl 9 (.int .i64 d1), pl 10 (.int .i64 a1)] a ∧ Sep w0 B w (own 3 (.slice A1 (Int.toNat (w64 (w1 * h1))) c1) (vI far8) :: fs) ∧ ((gameroomref_KnightFar_J8 a1) far8).bind φ3 = some r) ?_ ?_
            · rintro a w ⟨far8, hF, hS, hm⟩
              unfold gameroomref_KnightFar_J8 at hm
              refine reg1 [] [] [0, 1, 7, 9, 10] [pl 0 (.int .i64 w1), pl 1 (.int .i64 h1), pl 7 (.slice A1 (Int.toNat (w64 (w1 * h1))) c1), pl 9 (.int .i64 d1), pl 10 (.int .i64 (w64 (a1 + 1)))] hF hS Fol (by kernel_rfl) (by kernel_rfl) (by kernel_rfl) ?_ (fun a w hF hS => ?_)
              · exact obs_nil
              refine then_n ?_
              rw [← hφ3] at hm
              exact ⟨(far8, (w64 (a1 + 1))), ⟨hF.weak [0, 1, 7, 9, 10] (by kernel_rfl), hS⟩, hm⟩
            · refine wpIn_block ?_
              refine reg [] [] [0, 1, 7, 9, 10, 11] [pl 0 (.int .i64 w1), pl 1 (.int .i64 h1), pl 7 (.slice A1 (Int.toNat (w64 (w1 * h1))) c1), pl 9 (.int .i64 d1), pl 10 (.int .i64 a1), pl 11 (.int .i64 0)] hF hS Fol (by kernel_rfl) (by kernel_rfl) (by kernel_rfl) ?_ (fun a w hF hS => ?_)
              · exact obs_nil
              refine wpIn_block ?_
              refine wp_loop_model (S := (List Int × Int)) (R := (List Int)) (gameroomref_KnightFar_L4 w1 h1 d1 a1) (fun x => ((gameroomref_KnightFar_K4 a1) x).bind φ3) r (fun (x : (List Int × Int)) a w => Fr 75 [pl 0 (.int .i64 w1), pl 1 (.int .i64 h1), pl 7 (.slice A1 (Int.toNat (w64 (w1 * h1))) c1), pl 9 (.int .i64 d1), pl 10 (.int .i64 a1), pl 11 (.int .i64 x.2)] a ∧ Sep w0 B w (own 3 (.slice A1 (Int.toNat (w64 (w1 * h1))) c1) (vI x.1) :: fs)) (assoc_b hm) ⟨hF.weak [0, 1, 7, 9, 10, 11] (by kernel_rfl), hS⟩ ?_
              clear hF hS hm
              rintro nn4 ⟨far7, b1⟩ a w ⟨hF, hS⟩ hm
              generalize hφ4 : stK (gameroomref_KnightFar_L4 w1 h1 d1 a1) nn4 (fun x => ((gameroomref_KnightFar_K4 a1) x).bind φ3) = φ4 at hm
              unfold gameroomref_KnightFar_L4 at hm
              dsimp only at hF hS hm
              refine seq_cut (fun a w => Fr 75 [pl 0 (.int .i64 w1), pl 1 (.int .i64 h1), pl 7 (.slice A1 (Int.toNat (w64 (w1 * h1))) c1), pl 9 (.int .i64 d1), pl 10 (.int .i64 a1), pl 11 (.int .i64 b1)] a ∧ Sep w0 B w (own 3 (.slice A1 (Int.toNat (w64 (w1 * h1))) c1) (vI far7) :: fs) ∧ ((gameroomref_KnightFar_J9 w1 h1 d1 a1 far7 b1)).bind φ4 = some r) ?_ ?_
              · rintro a w ⟨hF, hS, hm⟩
                unfold gameroomref_KnightFar_J9 at hm
                refine seq_cut (fun a w => ∃ (far9 : List Int), Fr 75 [pl 0 (.int .i64 w1), pl 1 (.int .i64 h1), pl 7 (.slice A1 (Int.toNat (w64 (w1 * h1))) c1), pl 9 (.int .i64 d1), pl 10 (.int .i64 a1), pl 11 (.int .i64 b1)] a ∧ Sep w0 B w (own 3 (.slice A1 (Int.toNat (w64 (w1 * h1))) c1) (vI far9) :: fs) ∧ ((gameroomref_KnightFar_J10 b1) far9).bind φ4 = some r) ?_ ?_
                · rintro a w ⟨far9, hF, hS, hm⟩
                  unfold gameroomref_KnightFar_J10 at hm
                  refine reg1 [] [] [0, 1, 7, 9, 10, 11] [pl 0 (.int .i64 w1), pl 1 (.int .i64 h1), pl 7 (.slice A1 (Int.toNat (w64 (w1 * h1))) c1), pl 9 (.int .i64 d1), pl 10 (.int .i64 a1), pl 11 (.int .i64 (w64 (b1 + 1)))] hF hS Fol (by kernel_rfl) (by kernel_rfl) (by kernel_rfl) ?_ (fun a w hF hS => ?_)
                  · exact obs_nil
                  refine then_n ?_
                  rw [← hφ4] at hm
                  exact ⟨(far9, (w64 (b1 + 1))), ⟨hF.weak [0, 1, 7, 9, 10, 11] (by kernel_rfl), hS⟩, hm⟩
                · refine wpIn_block ?_
                  obtain ⟨hp4, hm⟩ := asrt_b hm
                  obtain ⟨hp5, hm⟩ := asrt_b hm
                  obtain ⟨r1, hr1, hm⟩ := call_b hm
                  refine reg [⟨true, [], vS (Instr.indexAt 22 (.slice A1 (Int.toNat (w64 (w1 * h1))) c1) (.int .i64 a1)), .pointer (some (sAddr A1 a1))⟩, ⟨false, [], vS (Instr.loadAt 3 (.pointer (some (sAddr A1 a1)))), .int .i64 (geti far7 a1)⟩, ⟨true, [(((geti far7 a1) == d1), true)], vS (Instr.indexAt 22 (.slice A1 (Int.toNat (w64 (w1 * h1))) c1) (.int .i64 b1)), .pointer (some (sAddr A1 b1))⟩, ⟨false, [(((geti far7 a1) == d1), true)], vS (Instr.loadAt 3 (.pointer (some (sAddr A1 b1)))), .int .i64 (geti far7 b1)⟩, ⟨false, [(((geti far7 a1) == d1) && (decide ((geti far7 b1) < 0)), true)], callFunc 34 #[.int .i64 w1, .int .i64 a1, .int .i64 b1], .bool r1⟩] [none, none, some (.pointer (some (sAddr A1 a1))), some (.int .i64 (geti far7 a1)), none, none, none, none, none, some (.pointer (some (sAddr A1 b1))), some (.int .i64 (geti far7 b1)), none, none, none, none, none, none, some (.bool r1), none] [0, 1, 7, 9, 10, 11, 68] [pl 0 (.int .i64 w1), pl 1 (.int .i64 h1), pl 7 (.slice A1 (Int.toNat (w64 (w1 * h1))) c1), pl 9 (.int .i64 d1), pl 10 (.int .i64 a1), pl 11 (.int .i64 b1), pl 68 (.bool ((((geti far7 a1) == d1) && (decide ((geti far7 b1) < 0))) && r1))] hF hS Fol (by kernel_rfl) (by kernel_rfl) (by kernel_rfl) ?_ (fun a w hF hS => ?_)
                  · exact obs_cons (ob_ix1 (f := (Value.int .i64)) (m := far7) Und22 hi3 hs3 (hS.at_ 0 rfl).rd ((hS.at_ 0 rfl).len1) (fun _ => hp4)) <| obs_cons (ob_get1 (n := (Int.toNat (w64 (w1 * h1)))) (m := far7) (Value.int .i64) (0 : Int) Agg3 (fun _ hS => ⟨_, (hS.at_ 0 rfl).rd⟩) (fun _ hS => ((hS.at_ 0 rfl).len1)) (fun _ => hp4)) <| obs_cons (ob_ix1 (f := (Value.int .i64)) (m := far7) Und22 hi3 hs3 (hS.at_ 0 rfl).rd ((hS.at_ 0 rfl).len1) (fun hy => hp5 (hy (((geti far7 a1) == d1), true) (by simp)))) <| obs_cons (ob_get1 (n := (Int.toNat (w64 (w1 * h1)))) (m := far7) (Value.int .i64) (0 : Int) Agg3 (fun _ hS => ⟨_, (hS.at_ 0 rfl).rd⟩) (fun _ hS => ((hS.at_ 0 rfl).len1)) (fun hy => hp5 (hy (((geti far7 a1) == d1), true) (by simp)))) <| obs_cons (ob_call Tryd.func34 (by kernel_rfl) rfl (fun hy _ hS => gameroomref_KnightStep_w (ite_some hr1 (by rw [show (((geti far7 a1) == d1) && (decide ((geti far7 b1) < 0))) = true from hy (((geti far7 a1) == d1) && (decide ((geti far7 b1) < 0)), true) (by simp)]; try rfl)) hS )) <| obs_nil
                  refine cond_ev (t := 68) (b := (((geti far7 a1) == d1) && (decide ((geti far7 b1) < 0))) && r1) hF (by kernel_rfl) (fun hb => ?_) (fun hb => ?_)
                  · replace hm := if_t hm hb
                    refine oneR ?_
                    obtain ⟨hp6, hm⟩ := asrt_b hm
                    refine at_run 5 [⟨true, [], vS (Instr.indexAt 22 (.slice A1 (Int.toNat (w64 (w1 * h1))) c1) (.int .i64 b1)), .pointer (some (sAddr A1 b1))⟩] [none, none, none, none, some (.pointer (some (sAddr A1 b1)))] [0, 1, 7, 9, 10, 11, 72, 73] [pl 0 (.int .i64 w1), pl 1 (.int .i64 h1), pl 7 (.slice A1 (Int.toNat (w64 (w1 * h1))) c1), pl 9 (.int .i64 d1), pl 10 (.int .i64 a1), pl 11 (.int .i64 b1), pl 72 (.int .i64 (w64 (d1 + 1))), pl 73 (.pointer (some (sAddr A1 b1)))] hF hS (by kernel_rfl) (by kernel_rfl) ?_ (fun a w hF hS => ?_)
                    · exact obs_cons (ob_ix1 (f := (Value.int .i64)) (m := far7) Und22 hi3 hs3 (hS.at_ 0 rfl).rd ((hS.at_ 0 rfl).len1) (fun _ => hp6)) <| obs_nil
                    obtain ⟨w, hrun, hS⟩ := run_set1 (P := Tryd.prog) (t := 3) (x := (w64 (d1 + 1))) (Value.int .i64) (hS.at_ 0 rfl) hi3 hs3 rfl rfl hp6
                    refine at_skip hF (by kernel_rfl) hrun ?_
                    have hS : Sep w0 B w (own 3 (.slice A1 (Int.toNat (w64 (w1 * h1))) c1) (vI (far7.set (Int.toNat b1) (w64 (d1 + 1)))) :: fs) := hS
                    refine at_end [0, 1, 7, 9, 10, 11] [pl 0 (.int .i64 w1), pl 1 (.int .i64 h1), pl 7 (.slice A1 (Int.toNat (w64 (w1 * h1))) c1), pl 9 (.int .i64 d1), pl 10 (.int .i64 a1), pl 11 (.int .i64 b1)] hF rfl (by kernel_rfl) (fun hF => ?_)
                    refine block_n ?_
                    refine then_n ?_
                    exact ⟨(far7.set (Int.toNat b1) (w64 (d1 + 1))), hF.weak [0, 1, 7, 9, 10, 11] (by kernel_rfl), hS, hm⟩
                  · replace hm := if_f hm hb
                    refine wpIn_skip ?_
                    refine block_n ?_
                    refine then_n ?_
                    exact ⟨far7, hF.weak [0, 1, 7, 9, 10, 11] (by kernel_rfl), hS, hm⟩
              · refine reg [] [] [0, 1, 7, 9, 10, 11, 47] [pl 0 (.int .i64 w1), pl 1 (.int .i64 h1), pl 7 (.slice A1 (Int.toNat (w64 (w1 * h1))) c1), pl 9 (.int .i64 d1), pl 10 (.int .i64 a1), pl 11 (.int .i64 b1), pl 47 (.bool (decide (b1 < (w64 (w1 * h1)))))] hF hS Fol (by kernel_rfl) (by kernel_rfl) (by kernel_rfl) ?_ (fun a w hF hS => ?_)
                · exact obs_nil
                refine cond_ev (t := 47) (b := decide (b1 < (w64 (w1 * h1)))) hF (by kernel_rfl) (fun hb => ?_) (fun hb => ?_)
                · replace hm := if_t hm hb
                  refine wpIn_skip ?_
                  refine then_n ?_
                  exact ⟨hF.weak [0, 1, 7, 9, 10, 11] (by kernel_rfl), hS, hm⟩
                · replace hm := if_f hm hb
                  refine wpIn_exit ?_
                  refine then_e (then_e (block_e (block_n (then_n ?_))))
                  rw [← hφ4] at hm
                  replace hm := done_b hm
                  unfold gameroomref_KnightFar_K4 at hm
                  try dsimp only at hm
                  have hm : ((gameroomref_KnightFar_J8 a1) far7).bind φ3 = some r := hm
                  exact ⟨far7, hF.weak [0, 1, 7, 9, 10] (by kernel_rfl), hS, hm⟩
          · refine reg [] [] [0, 1, 7, 9, 10, 40] [pl 0 (.int .i64 w1), pl 1 (.int .i64 h1), pl 7 (.slice A1 (Int.toNat (w64 (w1 * h1))) c1), pl 9 (.int .i64 d1), pl 10 (.int .i64 a1), pl 40 (.bool (decide (a1 < (w64 (w1 * h1)))))] hF hS Fol (by kernel_rfl) (by kernel_rfl) (by kernel_rfl) ?_ (fun a w hF hS => ?_)
            · exact obs_nil
            refine cond_ev (t := 40) (b := decide (a1 < (w64 (w1 * h1)))) hF (by kernel_rfl) (fun hb => ?_) (fun hb => ?_)
            · replace hm := if_t hm hb
              refine wpIn_skip ?_
              refine then_n ?_
              exact ⟨hF.weak [0, 1, 7, 9, 10] (by kernel_rfl), hS, hm⟩
            · replace hm := if_f hm hb
              refine wpIn_exit ?_
              refine then_e (then_e (block_e (block_n (then_n ?_))))
              rw [← hφ3] at hm
              replace hm := done_b hm
              unfold gameroomref_KnightFar_K3 at hm
              try dsimp only at hm
              have hm : ((gameroomref_KnightFar_J6 d1) far5).bind φ2 = some r := hm
              exact ⟨far5, hF.weak [0, 1, 7, 9] (by kernel_rfl), hS, hm⟩
      · refine reg [] [] [0, 1, 7, 9, 33] [pl 0 (.int .i64 w1), pl 1 (.int .i64 h1), pl 7 (.slice A1 (Int.toNat (w64 (w1 * h1))) c1), pl 9 (.int .i64 d1), pl 33 (.bool (decide (d1 < (w64 (w1 * h1)))))] hF hS Fol (by kernel_rfl) (by kernel_rfl) (by kernel_rfl) ?_ (fun a w hF hS => ?_)
        · exact obs_nil
        refine cond_ev (t := 33) (b := decide (d1 < (w64 (w1 * h1)))) hF (by kernel_rfl) (fun hb => ?_) (fun hb => ?_)
        · replace hm := if_t hm hb
          refine wpIn_skip ?_
          refine then_n ?_
          exact ⟨hF.weak [0, 1, 7, 9] (by kernel_rfl), hS, hm⟩
        · replace hm := if_f hm hb
          refine wpIn_exit ?_
          refine then_e (then_e (block_e (then_n ?_)))
          rw [← hφ2] at hm
          replace hm := done_b hm
          unfold gameroomref_KnightFar_K2 at hm
          try dsimp only at hm
          have hm : (gameroomref_KnightFar_J4 far3).bind some = some r := hm
          exact ⟨far3, hF.weak [7] (by kernel_rfl), hS, hm⟩
  · refine reg [] [] [0, 1, 2, 7, 8] [pl 0 (.int .i64 w1), pl 1 (.int .i64 h1), pl 2 (.int .i64 from1), pl 7 (.slice A1 (Int.toNat (w64 (w1 * h1))) c1), pl 8 (.int .i64 0)] hF hS Fol (by kernel_rfl) (by kernel_rfl) (by kernel_rfl) ?_ (fun a w hF hS => ?_)
    · exact obs_nil
    refine wpIn_block ?_
    refine wp_loop_model (S := (List Int × Int)) (R := (List Int)) (gameroomref_KnightFar_L1 w1 h1) (fun x => ((gameroomref_KnightFar_K1 w1 h1 from1) x).bind some) r (fun (x : (List Int × Int)) a w => Fr 75 [pl 0 (.int .i64 w1), pl 1 (.int .i64 h1), pl 2 (.int .i64 from1), pl 7 (.slice A1 (Int.toNat (w64 (w1 * h1))) c1), pl 8 (.int .i64 x.2)] a ∧ Sep w0 B w (own 3 (.slice A1 (Int.toNat (w64 (w1 * h1))) c1) (vI x.1) :: fs)) (assoc_b hm) ⟨hF.weak [0, 1, 2, 7, 8] (by kernel_rfl), hS⟩ ?_
    clear hF hS hm
    rintro nn1 ⟨far1, i1⟩ a w ⟨hF, hS⟩ hm
    generalize hφ1 : stK (gameroomref_KnightFar_L1 w1 h1) nn1 (fun x => ((gameroomref_KnightFar_K1 w1 h1 from1) x).bind some) = φ1 at hm
    unfold gameroomref_KnightFar_L1 at hm
    dsimp only at hF hS hm
    refine seq_cut (fun a w => Fr 75 [pl 0 (.int .i64 w1), pl 1 (.int .i64 h1), pl 2 (.int .i64 from1), pl 7 (.slice A1 (Int.toNat (w64 (w1 * h1))) c1), pl 8 (.int .i64 i1)] a ∧ Sep w0 B w (own 3 (.slice A1 (Int.toNat (w64 (w1 * h1))) c1) (vI far1) :: fs) ∧ ((gameroomref_KnightFar_J2 w1 h1 far1 i1)).bind φ1 = some r) ?_ ?_
    · rintro a w ⟨hF, hS, hm⟩
      unfold gameroomref_KnightFar_J2 at hm
      refine seq_cut (fun a w => Fr 75 [pl 0 (.int .i64 w1), pl 1 (.int .i64 h1), pl 2 (.int .i64 from1), pl 7 (.slice A1 (Int.toNat (w64 (w1 * h1))) c1), pl 8 (.int .i64 i1)] a ∧ Sep w0 B w (own 3 (.slice A1 (Int.toNat (w64 (w1 * h1))) c1) (vI (far1.set (Int.toNat i1) (-1))) :: fs) ∧ ((gameroomref_KnightFar_J3 far1 i1)).bind φ1 = some r) ?_ ?_
      · rintro a w ⟨hF, hS, hm⟩
        unfold gameroomref_KnightFar_J3 at hm
        refine reg1 [] [] [0, 1, 2, 7, 8] [pl 0 (.int .i64 w1), pl 1 (.int .i64 h1), pl 2 (.int .i64 from1), pl 7 (.slice A1 (Int.toNat (w64 (w1 * h1))) c1), pl 8 (.int .i64 (w64 (i1 + 1)))] hF hS Fol (by kernel_rfl) (by kernel_rfl) (by kernel_rfl) ?_ (fun a w hF hS => ?_)
        · exact obs_nil
        refine then_n ?_
        rw [← hφ1] at hm
        exact ⟨((far1.set (Int.toNat i1) (-1)), (w64 (i1 + 1))), ⟨hF.weak [0, 1, 2, 7, 8] (by kernel_rfl), hS⟩, hm⟩
      · refine wpIn_block ?_
        refine oneR ?_
        obtain ⟨hp2, hm⟩ := asrt_b hm
        refine at_run 3 [⟨true, [], vS (Instr.indexAt 22 (.slice A1 (Int.toNat (w64 (w1 * h1))) c1) (.int .i64 i1)), .pointer (some (sAddr A1 i1))⟩] [none, none, some (.pointer (some (sAddr A1 i1)))] [0, 1, 2, 7, 8, 25] [pl 0 (.int .i64 w1), pl 1 (.int .i64 h1), pl 2 (.int .i64 from1), pl 7 (.slice A1 (Int.toNat (w64 (w1 * h1))) c1), pl 8 (.int .i64 i1), pl 25 (.pointer (some (sAddr A1 i1)))] hF hS (by kernel_rfl) (by kernel_rfl) ?_ (fun a w hF hS => ?_)
        · exact obs_cons (ob_ix1 (f := (Value.int .i64)) (m := far1) Und22 hi3 hs3 (hS.at_ 0 rfl).rd ((hS.at_ 0 rfl).len1) (fun _ => hp2)) <| obs_nil
        obtain ⟨w, hrun, hS⟩ := run_set1 (P := Tryd.prog) (t := 3) (x := (-1)) (Value.int .i64) (hS.at_ 0 rfl) hi3 hs3 rfl rfl hp2
        refine at_skip hF (by kernel_rfl) hrun ?_
        have hS : Sep w0 B w (own 3 (.slice A1 (Int.toNat (w64 (w1 * h1))) c1) (vI (far1.set (Int.toNat i1) (-1))) :: fs) := hS
        refine at_end [0, 1, 2, 7, 8] [pl 0 (.int .i64 w1), pl 1 (.int .i64 h1), pl 2 (.int .i64 from1), pl 7 (.slice A1 (Int.toNat (w64 (w1 * h1))) c1), pl 8 (.int .i64 i1)] hF rfl (by kernel_rfl) (fun hF => ?_)
        refine block_n ?_
        refine then_n ?_
        exact ⟨hF.weak [0, 1, 2, 7, 8] (by kernel_rfl), hS, hm⟩
    · refine reg [] [] [0, 1, 2, 7, 8, 20] [pl 0 (.int .i64 w1), pl 1 (.int .i64 h1), pl 2 (.int .i64 from1), pl 7 (.slice A1 (Int.toNat (w64 (w1 * h1))) c1), pl 8 (.int .i64 i1), pl 20 (.bool (decide (i1 < (w64 (w1 * h1)))))] hF hS Fol (by kernel_rfl) (by kernel_rfl) (by kernel_rfl) ?_ (fun a w hF hS => ?_)
      · exact obs_nil
      refine cond_ev (t := 20) (b := decide (i1 < (w64 (w1 * h1)))) hF (by kernel_rfl) (fun hb => ?_) (fun hb => ?_)
      · replace hm := if_t hm hb
        refine wpIn_skip ?_
        refine then_n ?_
        exact ⟨hF.weak [0, 1, 2, 7, 8] (by kernel_rfl), hS, hm⟩
      · replace hm := if_f hm hb
        refine wpIn_exit ?_
        refine then_e (then_e (block_e (then_n ?_)))
        rw [← hφ1] at hm
        replace hm := done_b hm
        unfold gameroomref_KnightFar_K1 at hm
        try dsimp only at hm
        have hm : ((gameroomref_KnightFar_J1 w1 h1 from1) far1).bind some = some r := hm
        exact ⟨far1, hF.weak [0, 1, 2, 7] (by kernel_rfl), hS, hm⟩

noncomputable def gameroomlaw_TourWays_J4  (z1 : Bool) : Option Bool :=
  some z1

noncomputable def gameroomlaw_TourWays_J3  (w1 : Int) (h1 : Int) (from1 : Int) (r1 : (List Int × Int)) (r4 : (List Int × Int)) : Option Bool :=
  if ((r1.2 == 0) && (r4.2 == 0)) then ((gameroomref_KnightNext_m w1 h1 from1).bind fun r7 => ((if ((r1.2 == 0) && (r4.2 == 0)) then gameroomlaw_sameInts_m r1.1 r7 else some false)).bind fun r8 => if (((r1.2 == 0) && (r4.2 == 0)) && r8) then ((gameroomref_KnightFar_m w1 h1 from1).bind fun r9 => ((if (((r1.2 == 0) && (r4.2 == 0)) && r8) then gameroomlaw_sameInts_m r4.1 r9 else some false)).bind fun r10 => gameroomlaw_TourWays_J4 ((((r1.2 == 0) && (r4.2 == 0)) && r8) && r10)) else (gameroomlaw_TourWays_J4 ((((r1.2 == 0) && (r4.2 == 0)) && r8) && false))) else (if (((r1.2 == 0) && (r4.2 == 0)) && false) then ((gameroomref_KnightFar_m w1 h1 from1).bind fun r11 => ((if (((r1.2 == 0) && (r4.2 == 0)) && false) then gameroomlaw_sameInts_m r4.1 r11 else some false)).bind fun r12 => gameroomlaw_TourWays_J4 ((((r1.2 == 0) && (r4.2 == 0)) && false) && r12)) else (gameroomlaw_TourWays_J4 ((((r1.2 == 0) && (r4.2 == 0)) && false) && false)))

noncomputable def gameroomlaw_TourWays_J2  (w1 : Int) (h1 : Int) (from1 : Int) (r1 : (List Int × Int)) (r4 : (List Int × Int)) : Option Bool :=
  if ((decide (from1 < 0)) || (decide ((w64 (w1 * h1)) ≤ from1))) then (some ((((r1.2 == 5) && (r4.2 == 5)) && ((r1.1.length : Int) == 0)) && ((r4.1.length : Int) == 0))) else ((gameroomlaw_TourWays_J3 w1 h1 from1 r1 r4))

noncomputable def gameroomlaw_TourWays_J1  (w1 : Int) (h1 : Int) (from1 : Int) (l1 : List Int) (r1 : (List Int × Int)) (r3 : (Int × Int)) (r4 : (List Int × Int)) : Option Bool :=
  ((if (!(r3.2 != 0)) then gameroomref_KnightIs_m w1 h1 l1 else some 0)).bind fun r6 => if ((r3.2 != 0) || (r3.1 != r6)) then (some false) else ((gameroomlaw_TourWays_J2 w1 h1 from1 r1 r4))

noncomputable def gameroomlaw_TourWays_m  (w1 : Int) (h1 : Int) (from1 : Int) (l1 : List Int) : Option Bool :=
  (tour_Next_m w1 h1 from1).bind fun r1 => (gameroomlaw_ints_m l1).bind fun r2 => (tour_Is_m w1 h1 r2).bind fun r3 => (tour_Far_m w1 h1 from1).bind fun r4 => (gameroomlaw_board_m w1 h1).bind fun r5 => if (!r5) then (some ((((((r1.2 == 3) && (r3.2 == 3)) && (r4.2 == 3)) && ((r1.1.length : Int) == 0)) && (r3.1 == 0)) && ((r4.1.length : Int) == 0))) else ((gameroomlaw_TourWays_J1 w1 h1 from1 l1 r1 r3 r4))

set_option maxRecDepth 100000 in
set_option maxHeartbeats 4000000 in
theorem gameroomlaw_TourWays_w {w1 : Int} {h1 : Int} {from1 : Int} {A1 : Option Addr} {c1 : Nat} {n1 : Nat} {l1 : List Int} {r : Bool} {w0 w : World} {B : Nat} {fs : List HP} [GLV 0 glob0 w0 B] (hm : gameroomlaw_TourWays_m w1 h1 from1 l1 = some r) (hS : Sep w0 B w (fs)) (hr_l1 : RdF w0 B fs A1 (vI l1)) (_hc_l1 : l1.length ≤ c1) (_hn_l1 : n1 = l1.length) :
    Calls Tryd.prog 3 #[.int .i64 w1, .int .i64 h1, .int .i64 from1, .slice A1 n1 c1] w fun e w' => e = .returned (.bool r) ∧ Sep w0 B w' (fs) := by
  obtain ⟨i3, hi3, hz3, hs3, hb3⟩ := info_parts Info3
  obtain rfl := _hn_l1
  unfold gameroomlaw_TourWays_m at hm
  replace hm := start_b hm
  refine enter (l := [.int .i64 w1, .int .i64 h1, .int .i64 from1, .slice A1 l1.length c1]) (n := 122) Tryd.func3 rfl rfl (by simp) (fun a hF => ?_)
  refine reg [] [] [0, 1, 2, 3] [pl 0 (.int .i64 w1), pl 1 (.int .i64 h1), pl 2 (.int .i64 from1), pl 3 (.slice A1 l1.length c1)] hF hS Fol (by kernel_rfl) (by kernel_rfl) (by kernel_rfl) ?_ (fun a w hF hS => ?_)
  · exact obs_nil
  refine seqR ?_
  obtain ⟨r1, hr1, hm⟩ := call_b hm
  refine at_run 3 [] [] [0, 1, 2, 3, 16, 17, 18] [pl 0 (.int .i64 w1), pl 1 (.int .i64 h1), pl 2 (.int .i64 from1), pl 3 (.slice A1 l1.length c1), pl 16 (.int .i64 w1), pl 17 (.int .i64 h1), pl 18 (.int .i64 from1)] hF hS (by kernel_rfl) (by kernel_rfl) ?_ (fun a w hF hS => ?_)
  · exact obs_nil
  refine at_call (f := 6) (args := #[.int .i64 w1, .int .i64 h1, .int .i64 from1]) (d := 19) hF (by kernel_rfl) (by kernel_rfl) Tryd.func6 (by kernel_rfl) rfl (tour_Next_w hr1 hS ) (fun v a w hR hF => ?_)
  clear hS
  obtain ⟨A2, c2, rfl, hS⟩ := hR
  have hS : Sep w0 B w (own 3 (.slice A2 r1.1.length c2) (vI r1.1) :: fs) := hS
  refine at_run 5 [] [] [0, 1, 2, 3, 9, 10] [pl 0 (.int .i64 w1), pl 1 (.int .i64 h1), pl 2 (.int .i64 from1), pl 3 (.slice A1 l1.length c1), pl 9 (.slice A2 r1.1.length c2), pl 10 (.int .i64 r1.2)] hF hS (by kernel_rfl) (by kernel_rfl) ?_ (fun a w hF hS => ?_)
  · exact obs_nil
  refine at_end [0, 1, 2, 3, 9, 10] [pl 0 (.int .i64 w1), pl 1 (.int .i64 h1), pl 2 (.int .i64 from1), pl 3 (.slice A1 l1.length c1), pl 9 (.slice A2 r1.1.length c2), pl 10 (.int .i64 r1.2)] hF rfl (by kernel_rfl) (fun hF => ?_)
  refine then_n ?_
  refine seqR ?_
  obtain ⟨r2, hr2, hm⟩ := call_b hm
  obtain ⟨r3, hr3, hm⟩ := call_b hm
  refine at_run 3 [] [] [0, 1, 2, 3, 9, 10, 23, 24, 25] [pl 0 (.int .i64 w1), pl 1 (.int .i64 h1), pl 2 (.int .i64 from1), pl 3 (.slice A1 l1.length c1), pl 9 (.slice A2 r1.1.length c2), pl 10 (.int .i64 r1.2), pl 23 (.int .i64 w1), pl 24 (.int .i64 h1), pl 25 (.slice A1 l1.length c1)] hF hS (by kernel_rfl) (by kernel_rfl) ?_ (fun a w hF hS => ?_)
  · exact obs_nil
  refine at_call (f := 8) (args := #[.slice A1 l1.length c1]) (d := 26) hF (by kernel_rfl) (by kernel_rfl) Tryd.func8 (by kernel_rfl) rfl (gameroomlaw_ints_w hr2 hS (fun _ hS => (hr_l1 _ (hS.dropN 1))) _hc_l1 rfl) (fun v a w hR hF => ?_)
  clear hS
  obtain ⟨A3, c3, rfl, hS⟩ := hR
  have hS : Sep w0 B w (own 3 (.slice A3 r2.length c3) (vI r2) :: own 3 (.slice A2 r1.1.length c2) (vI r1.1) :: fs) := hS
  refine at_run 6 [⟨false, [], callFunc 7 #[.int .i64 w1, .int .i64 h1, .slice A3 r2.length c3], .tuple #[.int .i64 r3.1, .int .i64 r3.2]⟩] [some (.tuple #[.int .i64 r3.1, .int .i64 r3.2]), none, none, none, none, none] [0, 1, 2, 3, 9, 10, 11, 12] [pl 0 (.int .i64 w1), pl 1 (.int .i64 h1), pl 2 (.int .i64 from1), pl 3 (.slice A1 l1.length c1), pl 9 (.slice A2 r1.1.length c2), pl 10 (.int .i64 r1.2), pl 11 (.int .i64 r3.1), pl 12 (.int .i64 r3.2)] hF hS (by kernel_rfl) (by kernel_rfl) ?_ (fun a w hF hS => ?_)
  · exact obs_cons (ob_call Tryd.func7 (by kernel_rfl) rfl (fun _ _ hS => tour_Is_w hr3 hS (fun _ hS => (hS.at_ 0 rfl).rd) ((hS.at_ 0 rfl).cap1) rfl)) <| obs_nil
  refine at_end [0, 1, 2, 3, 9, 10, 11, 12] [pl 0 (.int .i64 w1), pl 1 (.int .i64 h1), pl 2 (.int .i64 from1), pl 3 (.slice A1 l1.length c1), pl 9 (.slice A2 r1.1.length c2), pl 10 (.int .i64 r1.2), pl 11 (.int .i64 r3.1), pl 12 (.int .i64 r3.2)] hF rfl (by kernel_rfl) (fun hF => ?_)
  refine then_n ?_
  refine seqR ?_
  obtain ⟨r4, hr4, hm⟩ := call_b hm
  refine at_run 3 [] [] [0, 1, 2, 3, 9, 10, 11, 12, 31, 32, 33] [pl 0 (.int .i64 w1), pl 1 (.int .i64 h1), pl 2 (.int .i64 from1), pl 3 (.slice A1 l1.length c1), pl 9 (.slice A2 r1.1.length c2), pl 10 (.int .i64 r1.2), pl 11 (.int .i64 r3.1), pl 12 (.int .i64 r3.2), pl 31 (.int .i64 w1), pl 32 (.int .i64 h1), pl 33 (.int .i64 from1)] hF hS (by kernel_rfl) (by kernel_rfl) ?_ (fun a w hF hS => ?_)
  · exact obs_nil
  refine at_call (f := 9) (args := #[.int .i64 w1, .int .i64 h1, .int .i64 from1]) (d := 34) hF (by kernel_rfl) (by kernel_rfl) Tryd.func9 (by kernel_rfl) rfl (tour_Far_w hr4 hS ) (fun v a w hR hF => ?_)
  clear hS
  obtain ⟨A4, c4, rfl, hS⟩ := hR
  have hS : Sep w0 B w (own 3 (.slice A4 r4.1.length c4) (vI r4.1) :: own 3 (.slice A3 r2.length c3) (vI r2) :: own 3 (.slice A2 r1.1.length c2) (vI r1.1) :: fs) := hS
  refine at_run 5 [] [] [0, 1, 2, 3, 9, 10, 11, 12, 13, 14] [pl 0 (.int .i64 w1), pl 1 (.int .i64 h1), pl 2 (.int .i64 from1), pl 3 (.slice A1 l1.length c1), pl 9 (.slice A2 r1.1.length c2), pl 10 (.int .i64 r1.2), pl 11 (.int .i64 r3.1), pl 12 (.int .i64 r3.2), pl 13 (.slice A4 r4.1.length c4), pl 14 (.int .i64 r4.2)] hF hS (by kernel_rfl) (by kernel_rfl) ?_ (fun a w hF hS => ?_)
  · exact obs_nil
  refine at_end [0, 1, 2, 3, 9, 10, 11, 12, 13, 14] [pl 0 (.int .i64 w1), pl 1 (.int .i64 h1), pl 2 (.int .i64 from1), pl 3 (.slice A1 l1.length c1), pl 9 (.slice A2 r1.1.length c2), pl 10 (.int .i64 r1.2), pl 11 (.int .i64 r3.1), pl 12 (.int .i64 r3.2), pl 13 (.slice A4 r4.1.length c4), pl 14 (.int .i64 r4.2)] hF rfl (by kernel_rfl) (fun hF => ?_)
  refine then_n ?_
  refine seq_cut (fun a w => Fr 122 [pl 0 (.int .i64 w1), pl 1 (.int .i64 h1), pl 2 (.int .i64 from1), pl 3 (.slice A1 l1.length c1), pl 9 (.slice A2 r1.1.length c2), pl 10 (.int .i64 r1.2), pl 11 (.int .i64 r3.1), pl 12 (.int .i64 r3.2), pl 13 (.slice A4 r4.1.length c4), pl 14 (.int .i64 r4.2)] a ∧ Sep w0 B w (own 3 (.slice A2 r1.1.length c2) (vI r1.1) :: own 3 (.slice A4 r4.1.length c4) (vI r4.1) :: fs) ∧ ((gameroomlaw_TourWays_J1 w1 h1 from1 l1 r1 r3 r4)).bind some = some r) ?_ ?_
  · rintro a w ⟨hF, hS, hm⟩
    unfold gameroomlaw_TourWays_J1 at hm
    refine seq_cut (fun a w => Fr 122 [pl 0 (.int .i64 w1), pl 1 (.int .i64 h1), pl 2 (.int .i64 from1), pl 9 (.slice A2 r1.1.length c2), pl 10 (.int .i64 r1.2), pl 13 (.slice A4 r4.1.length c4), pl 14 (.int .i64 r4.2)] a ∧ Sep w0 B w (own 3 (.slice A2 r1.1.length c2) (vI r1.1) :: own 3 (.slice A4 r4.1.length c4) (vI r4.1) :: fs) ∧ ((gameroomlaw_TourWays_J2 w1 h1 from1 r1 r4)).bind some = some r) ?_ ?_
    · rintro a w ⟨hF, hS, hm⟩
      unfold gameroomlaw_TourWays_J2 at hm
      refine seq_cut (fun a w => Fr 122 [pl 0 (.int .i64 w1), pl 1 (.int .i64 h1), pl 2 (.int .i64 from1), pl 9 (.slice A2 r1.1.length c2), pl 10 (.int .i64 r1.2), pl 13 (.slice A4 r4.1.length c4), pl 14 (.int .i64 r4.2)] a ∧ Sep w0 B w (own 3 (.slice A2 r1.1.length c2) (vI r1.1) :: own 3 (.slice A4 r4.1.length c4) (vI r4.1) :: fs) ∧ ((gameroomlaw_TourWays_J3 w1 h1 from1 r1 r4)).bind some = some r) ?_ ?_
      · rintro a w ⟨hF, hS, hm⟩
        unfold gameroomlaw_TourWays_J3 at hm
        refine seq_cut (fun a w => ∃ (z1 : Bool), Fr 122 [pl 8 (.bool z1)] a ∧ Sep w0 B w (fs) ∧ (gameroomlaw_TourWays_J4 z1).bind some = some r) ?_ ?_
        · rintro a w ⟨z1, hF, hS, hm⟩
          unfold gameroomlaw_TourWays_J4 at hm
          refine wpIn_ret ?_
          have hm : some z1 = some r := hm
          obtain rfl := Option.some.inj hm
          exact retV (rs := [.tmp 8]) (vs := [.bool z1]) hF rfl (rv_t (by kernel_rfl) <| rv_nil) rfl ⟨rfl, hS⟩
        · refine oneR ?_
          refine at_run 11 [] [] [0, 1, 2, 13, 106, 107, 108, 109, 110] [pl 0 (.int .i64 w1), pl 1 (.int .i64 h1), pl 2 (.int .i64 from1), pl 13 (.slice A4 r4.1.length c4), pl 106 (.bool ((r1.2 == 0) && (r4.2 == 0))), ⟨107, [(106, true)], .slice A2 r1.1.length c2⟩, ⟨108, [(106, true)], .int .i64 w1⟩, ⟨109, [(106, true)], .int .i64 h1⟩, ⟨110, [(106, true)], .int .i64 from1⟩] hF hS (by kernel_rfl) (by kernel_rfl) ?_ (fun a w hF hS => ?_)
          · exact obs_nil
          rcases Bool.eq_false_or_eq_true ((r1.2 == 0) && (r4.2 == 0)) with hg1 | hg1
          · replace hm := if_t hm hg1
            obtain ⟨r7, hr7, hm⟩ := call_b hm
            obtain ⟨r8, hr8, hm⟩ := call_b hm
            refine at_gcall (hs := [((r1.2 == 0) && (r4.2 == 0), true)]) (fun y hy => by simp only [List.mem_cons, List.not_mem_nil, or_false] at hy; subst hy; first | exact hg1) (f := 13) (args := #[.int .i64 w1, .int .i64 h1, .int .i64 from1]) (d := 111) hF (by kernel_rfl) (by kernel_rfl) Tryd.func13 (by kernel_rfl) rfl (gameroomref_KnightNext_w hr7 hS ) (fun v a w hR hF => ?_)
            clear hS
            obtain ⟨A5, c5, rfl, hS⟩ := hR
            have hS : Sep w0 B w (own 3 (.slice A5 r7.length c5) (vI r7) :: own 3 (.slice A2 r1.1.length c2) (vI r1.1) :: own 3 (.slice A4 r4.1.length c4) (vI r4.1) :: fs) := hS
            refine at_run 7 [⟨false, [((r1.2 == 0) && (r4.2 == 0), true)], callFunc 12 #[.slice A2 r1.1.length c2, .slice A5 r7.length c5], .bool r8⟩] [some (.bool r8), none, none, none, none, none, none] [114, 115, 116, 117, 118] [pl 114 (.bool (((r1.2 == 0) && (r4.2 == 0)) && r8)), ⟨115, [(114, true)], .slice A4 r4.1.length c4⟩, ⟨116, [(114, true)], .int .i64 w1⟩, ⟨117, [(114, true)], .int .i64 h1⟩, ⟨118, [(114, true)], .int .i64 from1⟩] hF hS (by kernel_rfl) (by kernel_rfl) ?_ (fun a w hF hS => ?_)
            · exact obs_cons (ob_call Tryd.func12 (by kernel_rfl) rfl (fun hy _ hS => gameroomlaw_sameInts_w (ite_some hr8 (by rw [show ((r1.2 == 0) && (r4.2 == 0)) = true from hy ((r1.2 == 0) && (r4.2 == 0), true) (by simp)]; try rfl)) hS (fun _ hS => (hS.at_ 1 rfl).rd) ((hS.at_ 1 rfl).cap1) rfl (fun _ hS => (hS.at_ 0 rfl).rd) ((hS.at_ 0 rfl).cap1) rfl)) <| obs_nil
            rcases Bool.eq_false_or_eq_true (((r1.2 == 0) && (r4.2 == 0)) && r8) with hg2 | hg2
            · replace hm := if_t hm hg2
              obtain ⟨r9, hr9, hm⟩ := call_b hm
              obtain ⟨r10, hr10, hm⟩ := call_b hm
              refine at_gcall (hs := [(((r1.2 == 0) && (r4.2 == 0)) && r8, true)]) (fun y hy => by simp only [List.mem_cons, List.not_mem_nil, or_false] at hy; subst hy; first | exact hg2) (f := 14) (args := #[.int .i64 w1, .int .i64 h1, .int .i64 from1]) (d := 119) hF (by kernel_rfl) (by kernel_rfl) Tryd.func14 (by kernel_rfl) rfl (gameroomref_KnightFar_w hr9 hS ) (fun v a w hR hF => ?_)
              clear hS
              obtain ⟨A6, c6, rfl, hS⟩ := hR
              have hS : Sep w0 B w (own 3 (.slice A6 r9.length c6) (vI r9) :: own 3 (.slice A5 r7.length c5) (vI r7) :: own 3 (.slice A2 r1.1.length c2) (vI r1.1) :: own 3 (.slice A4 r4.1.length c4) (vI r4.1) :: fs) := hS
              refine at_run 3 [⟨false, [(((r1.2 == 0) && (r4.2 == 0)) && r8, true)], callFunc 12 #[.slice A4 r4.1.length c4, .slice A6 r9.length c6], .bool r10⟩] [some (.bool r10), none, none] [8] [pl 8 (.bool ((((r1.2 == 0) && (r4.2 == 0)) && r8) && r10))] hF hS (by kernel_rfl) (by kernel_rfl) ?_ (fun a w hF hS => ?_)
              · exact obs_cons (ob_call Tryd.func12 (by kernel_rfl) rfl (fun hy _ hS => gameroomlaw_sameInts_w (ite_some hr10 (by rw [show (((r1.2 == 0) && (r4.2 == 0)) && r8) = true from hy (((r1.2 == 0) && (r4.2 == 0)) && r8, true) (by simp)]; try rfl)) hS (fun _ hS => (hS.at_ 3 rfl).rd) ((hS.at_ 3 rfl).cap1) rfl (fun _ hS => (hS.at_ 0 rfl).rd) ((hS.at_ 0 rfl).cap1) rfl)) <| obs_nil
              refine at_end [8] [pl 8 (.bool ((((r1.2 == 0) && (r4.2 == 0)) && r8) && r10))] hF rfl (by kernel_rfl) (fun hF => ?_)
              refine then_n ?_
              have hS := hS.pickN 4 [] (by decide)
              exact ⟨((((r1.2 == 0) && (r4.2 == 0)) && r8) && r10), hF.weak [8] (by kernel_rfl), hS, hm⟩
            · replace hm := if_f hm hg2
              refine at_gskip (d := 119) (v := .slice none 0 0) (hs := [(((r1.2 == 0) && (r4.2 == 0)) && r8, true)]) (ctx := [(114, true)]) hF (by kernel_rfl) (by kernel_rfl) (fun h => absurd (h (((r1.2 == 0) && (r4.2 == 0)) && r8, true) (by simp)) (by simp [hg2])) (fun a hF => ?_)
              refine at_run 3 [⟨false, [(((r1.2 == 0) && (r4.2 == 0)) && r8, true)], callFunc 12 #[.slice A4 r4.1.length c4, .slice none 0 0], .bool false⟩] [some (.bool false), none, none] [8] [pl 8 (.bool ((((r1.2 == 0) && (r4.2 == 0)) && r8) && false))] hF hS (by kernel_rfl) (by kernel_rfl) ?_ (fun a w hF hS => ?_)
              · exact obs_cons (Ob.vac (fun h => absurd (h (((r1.2 == 0) && (r4.2 == 0)) && r8, true) (by simp)) (by simp [hg2]))) <| obs_nil
              refine at_end [8] [pl 8 (.bool ((((r1.2 == 0) && (r4.2 == 0)) && r8) && false))] hF rfl (by kernel_rfl) (fun hF => ?_)
              refine then_n ?_
              have hS := hS.pickN 3 [] (by decide)
              exact ⟨((((r1.2 == 0) && (r4.2 == 0)) && r8) && false), hF.weak [8] (by kernel_rfl), hS, hm⟩
          · replace hm := if_f hm hg1
            refine at_gskip (d := 111) (v := .slice none 0 0) (hs := [((r1.2 == 0) && (r4.2 == 0), true)]) (ctx := [(106, true)]) hF (by kernel_rfl) (by kernel_rfl) (fun h => absurd (h ((r1.2 == 0) && (r4.2 == 0), true) (by simp)) (by simp [hg1])) (fun a hF => ?_)
            refine at_run 7 [⟨false, [((r1.2 == 0) && (r4.2 == 0), true)], callFunc 12 #[.slice A2 r1.1.length c2, .slice none 0 0], .bool false⟩] [some (.bool false), none, none, none, none, none, none] [114, 115, 116, 117, 118] [pl 114 (.bool (((r1.2 == 0) && (r4.2 == 0)) && false)), ⟨115, [(114, true)], .slice A4 r4.1.length c4⟩, ⟨116, [(114, true)], .int .i64 w1⟩, ⟨117, [(114, true)], .int .i64 h1⟩, ⟨118, [(114, true)], .int .i64 from1⟩] hF hS (by kernel_rfl) (by kernel_rfl) ?_ (fun a w hF hS => ?_)
            · exact obs_cons (Ob.vac (fun h => absurd (h ((r1.2 == 0) && (r4.2 == 0), true) (by simp)) (by simp [hg1]))) <| obs_nil
            rcases Bool.eq_false_or_eq_true (((r1.2 == 0) && (r4.2 == 0)) && false) with hg3 | hg3
            · replace hm := if_t hm hg3
              obtain ⟨r11, hr11, hm⟩ := call_b hm
              obtain ⟨r12, hr12, hm⟩ := call_b hm
              refine at_gcall (hs := [(((r1.2 == 0) && (r4.2 == 0)) && false, true)]) (fun y hy => by simp only [List.mem_cons, List.not_mem_nil, or_false] at hy; subst hy; first | exact hg3) (f := 14) (args := #[.int .i64 w1, .int .i64 h1, .int .i64 from1]) (d := 119) hF (by kernel_rfl) (by kernel_rfl) Tryd.func14 (by kernel_rfl) rfl (gameroomref_KnightFar_w hr11 hS ) (fun v a w hR hF => ?_)
              clear hS
              obtain ⟨A7, c7, rfl, hS⟩ := hR
              have hS : Sep w0 B w (own 3 (.slice A7 r11.length c7) (vI r11) :: own 3 (.slice A2 r1.1.length c2) (vI r1.1) :: own 3 (.slice A4 r4.1.length c4) (vI r4.1) :: fs) := hS
              refine at_run 3 [⟨false, [(((r1.2 == 0) && (r4.2 == 0)) && false, true)], callFunc 12 #[.slice A4 r4.1.length c4, .slice A7 r11.length c7], .bool r12⟩] [some (.bool r12), none, none] [8] [pl 8 (.bool ((((r1.2 == 0) && (r4.2 == 0)) && false) && r12))] hF hS (by kernel_rfl) (by kernel_rfl) ?_ (fun a w hF hS => ?_)
              · exact obs_cons (ob_call Tryd.func12 (by kernel_rfl) rfl (fun hy _ hS => gameroomlaw_sameInts_w (ite_some hr12 (by rw [show (((r1.2 == 0) && (r4.2 == 0)) && false) = true from hy (((r1.2 == 0) && (r4.2 == 0)) && false, true) (by simp)]; try rfl)) hS (fun _ hS => (hS.at_ 2 rfl).rd) ((hS.at_ 2 rfl).cap1) rfl (fun _ hS => (hS.at_ 0 rfl).rd) ((hS.at_ 0 rfl).cap1) rfl)) <| obs_nil
              refine at_end [8] [pl 8 (.bool ((((r1.2 == 0) && (r4.2 == 0)) && false) && r12))] hF rfl (by kernel_rfl) (fun hF => ?_)
              refine then_n ?_
              have hS := hS.pickN 3 [] (by decide)
              exact ⟨((((r1.2 == 0) && (r4.2 == 0)) && false) && r12), hF.weak [8] (by kernel_rfl), hS, hm⟩
            · replace hm := if_f hm hg3
              refine at_gskip (d := 119) (v := .slice none 0 0) (hs := [(((r1.2 == 0) && (r4.2 == 0)) && false, true)]) (ctx := [(114, true)]) hF (by kernel_rfl) (by kernel_rfl) (fun h => absurd (h (((r1.2 == 0) && (r4.2 == 0)) && false, true) (by simp)) (by simp [hg3])) (fun a hF => ?_)
              refine at_run 3 [⟨false, [(((r1.2 == 0) && (r4.2 == 0)) && false, true)], callFunc 12 #[.slice A4 r4.1.length c4, .slice none 0 0], .bool false⟩] [some (.bool false), none, none] [8] [pl 8 (.bool ((((r1.2 == 0) && (r4.2 == 0)) && false) && false))] hF hS (by kernel_rfl) (by kernel_rfl) ?_ (fun a w hF hS => ?_)
              · exact obs_cons (Ob.vac (fun h => absurd (h (((r1.2 == 0) && (r4.2 == 0)) && false, true) (by simp)) (by simp [hg3]))) <| obs_nil
              refine at_end [8] [pl 8 (.bool ((((r1.2 == 0) && (r4.2 == 0)) && false) && false))] hF rfl (by kernel_rfl) (fun hF => ?_)
              refine then_n ?_
              have hS := hS.pickN 2 [] (by decide)
              exact ⟨((((r1.2 == 0) && (r4.2 == 0)) && false) && false), hF.weak [8] (by kernel_rfl), hS, hm⟩
      · refine reg [] [] [0, 1, 2, 9, 10, 13, 14, 83] [pl 0 (.int .i64 w1), pl 1 (.int .i64 h1), pl 2 (.int .i64 from1), pl 9 (.slice A2 r1.1.length c2), pl 10 (.int .i64 r1.2), pl 13 (.slice A4 r4.1.length c4), pl 14 (.int .i64 r4.2), pl 83 (.bool ((decide (from1 < 0)) || (decide ((w64 (w1 * h1)) ≤ from1))))] hF hS Fol (by kernel_rfl) (by kernel_rfl) (by kernel_rfl) ?_ (fun a w hF hS => ?_)
        · exact obs_nil
        refine cond_ev (t := 83) (b := (decide (from1 < 0)) || (decide ((w64 (w1 * h1)) ≤ from1))) hF (by kernel_rfl) (fun hb => ?_) (fun hb => ?_)
        · replace hm := if_t hm hb
          refine reg [] [] [8] [pl 8 (.bool ((((r1.2 == 5) && (r4.2 == 5)) && ((r1.1.length : Int) == 0)) && ((r4.1.length : Int) == 0)))] hF hS Fol (by kernel_rfl) (by kernel_rfl) (by kernel_rfl) ?_ (fun a w hF hS => ?_)
          · exact obs_nil
          refine wpIn_ret ?_
          refine then_r ?_
          have hS := hS.pickN 2 [] (by decide)
          have hm : some ((((r1.2 == 5) && (r4.2 == 5)) && ((r1.1.length : Int) == 0)) && ((r4.1.length : Int) == 0)) = some r := hm
          obtain rfl := Option.some.inj hm
          exact retV (rs := [.tmp 8]) (vs := [.bool ((((r1.2 == 5) && (r4.2 == 5)) && ((r1.1.length : Int) == 0)) && ((r4.1.length : Int) == 0))]) hF rfl (rv_t (by kernel_rfl) <| rv_nil) rfl ⟨rfl, hS⟩
        · replace hm := if_f hm hb
          refine wpIn_skip ?_
          refine then_n ?_
          exact ⟨hF.weak [0, 1, 2, 9, 10, 13, 14] (by kernel_rfl), hS, hm⟩
    · obtain ⟨r6, hr6, hm⟩ := call_b hm
      refine reg [⟨false, [((r3.2 != 0), false)], callFunc 11 #[.int .i64 w1, .int .i64 h1, .slice A1 l1.length c1], .int .i64 r6⟩] [none, none, none, none, none, none, none, some (.int .i64 r6), none, none] [0, 1, 2, 9, 10, 13, 14, 74] [pl 0 (.int .i64 w1), pl 1 (.int .i64 h1), pl 2 (.int .i64 from1), pl 9 (.slice A2 r1.1.length c2), pl 10 (.int .i64 r1.2), pl 13 (.slice A4 r4.1.length c4), pl 14 (.int .i64 r4.2), pl 74 (.bool ((r3.2 != 0) || (r3.1 != r6)))] hF hS Fol (by kernel_rfl) (by kernel_rfl) (by kernel_rfl) ?_ (fun a w hF hS => ?_)
      · exact obs_cons (ob_call Tryd.func11 (by kernel_rfl) rfl (fun hy _ hS => gameroomref_KnightIs_w (ite_some hr6 (by rw [show (r3.2 != 0) = false from hy ((r3.2 != 0), false) (by simp)]; try rfl)) hS (fun _ hS => (hr_l1 _ (hS.dropN 2))) _hc_l1 rfl)) <| obs_nil
      refine cond_ev (t := 74) (b := (r3.2 != 0) || (r3.1 != r6)) hF (by kernel_rfl) (fun hb => ?_) (fun hb => ?_)
      · replace hm := if_t hm hb
        refine reg [] [] [8] [pl 8 (.bool false)] hF hS Fol (by kernel_rfl) (by kernel_rfl) (by kernel_rfl) ?_ (fun a w hF hS => ?_)
        · exact obs_nil
        refine wpIn_ret ?_
        refine then_r ?_
        have hS := hS.pickN 2 [] (by decide)
        have hm : some false = some r := hm
        obtain rfl := Option.some.inj hm
        exact retV (rs := [.tmp 8]) (vs := [.bool false]) hF rfl (rv_t (by kernel_rfl) <| rv_nil) rfl ⟨rfl, hS⟩
      · replace hm := if_f hm hb
        refine wpIn_skip ?_
        refine then_n ?_
        exact ⟨hF.weak [0, 1, 2, 9, 10, 13, 14] (by kernel_rfl), hS, hm⟩
  · obtain ⟨r5, hr5, hm⟩ := call_b hm
    refine reg [⟨false, [], callFunc 10 #[.int .i64 w1, .int .i64 h1], .bool r5⟩] [none, none, some (.bool r5), none] [0, 1, 2, 3, 9, 10, 11, 12, 13, 14, 40] [pl 0 (.int .i64 w1), pl 1 (.int .i64 h1), pl 2 (.int .i64 from1), pl 3 (.slice A1 l1.length c1), pl 9 (.slice A2 r1.1.length c2), pl 10 (.int .i64 r1.2), pl 11 (.int .i64 r3.1), pl 12 (.int .i64 r3.2), pl 13 (.slice A4 r4.1.length c4), pl 14 (.int .i64 r4.2), pl 40 (.bool (!r5))] hF hS Fol (by kernel_rfl) (by kernel_rfl) (by kernel_rfl) ?_ (fun a w hF hS => ?_)
    · exact obs_cons (ob_call Tryd.func10 (by kernel_rfl) rfl (fun _ _ hS => gameroomlaw_board_w hr5 hS )) <| obs_nil
    refine cond_ev (t := 40) (b := !r5) hF (by kernel_rfl) (fun hb => ?_) (fun hb => ?_)
    · replace hm := if_t hm hb
      refine reg [] [] [8] [pl 8 (.bool ((((((r1.2 == 3) && (r3.2 == 3)) && (r4.2 == 3)) && ((r1.1.length : Int) == 0)) && (r3.1 == 0)) && ((r4.1.length : Int) == 0)))] hF hS Fol (by kernel_rfl) (by kernel_rfl) (by kernel_rfl) ?_ (fun a w hF hS => ?_)
      · exact obs_nil
      refine wpIn_ret ?_
      refine then_r ?_
      have hS := hS.pickN 3 [] (by decide)
      have hm : some ((((((r1.2 == 3) && (r3.2 == 3)) && (r4.2 == 3)) && ((r1.1.length : Int) == 0)) && (r3.1 == 0)) && ((r4.1.length : Int) == 0)) = some r := hm
      obtain rfl := Option.some.inj hm
      exact retV (rs := [.tmp 8]) (vs := [.bool ((((((r1.2 == 3) && (r3.2 == 3)) && (r4.2 == 3)) && ((r1.1.length : Int) == 0)) && (r3.1 == 0)) && ((r4.1.length : Int) == 0))]) hF rfl (rv_t (by kernel_rfl) <| rv_nil) rfl ⟨rfl, hS⟩
    · replace hm := if_f hm hb
      refine wpIn_skip ?_
      refine then_n ?_
      have hS := hS.pickN 3 [2, 0] (by decide)
      exact ⟨hF.weak [0, 1, 2, 3, 9, 10, 11, 12, 13, 14] (by kernel_rfl), hS, hm⟩

end Go.Proofs.YtlpaklmfgldkoaaDoor
