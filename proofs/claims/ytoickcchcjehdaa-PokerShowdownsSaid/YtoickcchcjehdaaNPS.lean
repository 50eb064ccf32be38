/-
  Models and walks, printed by our own program (wip/gen).
-/
import Derived.Test.YtoickcchcjehdaaFB
import Derived.Test.YtoickcchcjehdaaNPV
namespace Go.Proofs.Ytoickcchcjehdaa
open Go Go.GL Go.RowKit


noncomputable def slices_Grow_J2  (s1 : List Int) : Option (List Int) :=
  some s1

noncomputable def slices_Grow_J1  (n1 : Int) : Option (List Int) :=
  if (decide ((0 : Int) < (w64 (n1 - (w64 (0 - 0)))))) then (asrt ((0 : Int) ≤ (w64 (n1 - (w64 (0 - 0)))) ∧ (w64 (n1 - (w64 (0 - 0)))) ≤ bigN) <| asrt (0 ≤ (0 : Int) ∧ (0 : Int) ≤ (0 : Int) ∧ (0 : Int) ≤ (((List.replicate (Int.toNat (w64 (n1 - (w64 (0 - 0))))) (0 : Int)).length : Nat) : Int)) <| slices_Grow_J2 (cut (List.replicate (Int.toNat (w64 (n1 - (w64 (0 - 0))))) (0 : Int)) (0 : Int) (0 : Int))) else (slices_Grow_J2 ([] : List Int))

noncomputable def slices_Grow_m  (n1 : Int) : Option (List Int) :=
  if (decide (n1 < 0)) then none else ((slices_Grow_J1 n1))

set_option maxRecDepth 100000 in
set_option maxHeartbeats 4000000 in
theorem slices_Grow_w  {n1 : Int} {r : (List Int)} {w0 w : World} {B : Nat} {fs : List HP} (hm : slices_Grow_m n1 = some r) (hS : Sep w0 B w (fs)) :
    Calls Try.prog 192 #[.slice none 0 0, .int .i64 n1] w fun e w' => ∃ v, e = .returned v ∧ ∃ (A3 : Option Addr) (c3 : Nat), v = .slice A3 r.length c3 ∧ Sep w0 B w' (own 3 (.slice A3 r.length c3) (vI r) :: fs) := by
  obtain ⟨i3, hi3, hz3, hs3, hb3⟩ := info_parts Info3
  unfold slices_Grow_m at hm
  replace hm := start_b hm
  refine enter (l := [.slice none 0 0, .int .i64 n1]) (n := 27) Try.func192 rfl rfl (by simp) (fun a hF => ?_)
  refine reg [] [] [0, 1] [pl 0 (.slice none 0 0), pl 1 (.int .i64 n1)] hF hS Fol (by kernel_rfl) (by kernel_rfl) (by kernel_rfl) ?_ (fun a w hF hS => ?_)
  · exact obs_nil
  refine seq_cut (fun a w => Fr 27 [pl 0 (.slice none 0 0), pl 1 (.int .i64 n1)] a ∧ Sep w0 B w (fs) ∧ ((slices_Grow_J1 n1)).bind some = some r) ?_ ?_
  · rintro a w ⟨hF, hS, hm⟩
    unfold slices_Grow_J1 at hm
    refine seq_cut (fun a w => ∃ (s1 : List Int) (A2 : Option Addr) (c2 : Nat), Fr 27 [pl 0 (.slice A2 s1.length c2)] a ∧ Sep w0 B w (own 3 (.slice A2 s1.length c2) (vI s1) :: fs) ∧ (slices_Grow_J2 s1).bind some = some r) ?_ ?_
    · rintro a w ⟨s1, A2, c2, hF, hS, hm⟩
      unfold slices_Grow_J2 at hm
      refine reg [] [] [4] [pl 4 (.slice A2 s1.length c2)] hF hS Fol (by kernel_rfl) (by kernel_rfl) (by kernel_rfl) ?_ (fun a w hF hS => ?_)
      · exact obs_nil
      refine wpIn_ret ?_
      have hm : some s1 = some r := hm
      obtain rfl := Option.some.inj hm
      exact retV (rs := [.tmp 4]) (vs := [.slice A2 s1.length c2]) hF rfl (rv_t (by kernel_rfl) <| rv_nil) rfl ⟨_, rfl, A2, c2, rfl, hS⟩
    · refine reg [] [] [0, 1] [pl 0 (.slice none 0 0), pl 1 (.int .i64 (w64 (n1 - (w64 (0 - 0)))))] hF hS Fol (by kernel_rfl) (by kernel_rfl) (by kernel_rfl) ?_ (fun a w hF hS => ?_)
      · exact obs_nil
      refine reg [] [] [0, 1, 16] [pl 0 (.slice none 0 0), pl 1 (.int .i64 (w64 (n1 - (w64 (0 - 0))))), pl 16 (.bool (decide ((0 : Int) < (w64 (n1 - (w64 (0 - 0)))))))] hF hS Fol (by kernel_rfl) (by kernel_rfl) (by kernel_rfl) ?_ (fun a w hF hS => ?_)
      · exact obs_nil
      refine cond_ev (t := 16) (b := decide ((0 : Int) < (w64 (n1 - (w64 (0 - 0)))))) hF (by kernel_rfl) (fun hb => ?_) (fun hb => ?_)
      · replace hm := if_t hm hb
        refine oneR ?_
        obtain ⟨hp1, hm⟩ := asrt_b hm
        obtain ⟨hp2, hm⟩ := asrt_b hm
        refine at_run 5 [⟨true, [], vS (Instr.sliceAt 22 (.slice none 0 0) none (some (.int .i64 0)) none), .slice none 0 0⟩] [none, none, none, some (.slice none 0 0), none] [0, 20, 21] [pl 0 (.slice none 0 0), pl 20 (.slice none 0 0), pl 21 (.int .i64 (w64 (n1 - (w64 (0 - 0)))))] hF hS (by kernel_rfl) (by kernel_rfl) ?_ (fun a w hF hS => ?_)
        · exact obs_cons (ob_cut (k := .i64) (k' := .i64) (A := none) (l := ([] : List Int)) (c := 0) (lo := 0) (hi := 0) Und22 hi3 hs3 (.inr ⟨rfl, rfl⟩) (.inl rfl) (fun _ => by simp) (Nat.le_refl _)) <| obs_nil
        obtain ⟨A1, c1, w, hrun, hS⟩ := run_app01 (P := Try.prog) (t := 22) (tx := 3) (ty := 22) hS Und22 Try.underlying3 hi3 hz3 hs3 hb3 hp1
        have hS : Sep w0 B w (own 3 (.slice A1 ((List.replicate (Int.toNat (w64 (n1 - (w64 (0 - 0))))) (0 : Int)).length) c1) (vI (List.replicate (Int.toNat (w64 (n1 - (w64 (0 - 0))))) (0 : Int))) :: fs) := hS
        refine at_do (d := 22) hF (by kernel_rfl) (by kernel_rfl) hrun (fun a hF => ?_)
        refine at_run 4 [⟨true, [], vS (Instr.sliceAt 22 (.slice A1 ((List.replicate (Int.toNat (w64 (n1 - (w64 (0 - 0))))) (0 : Int)).length) c1) none (some (.int .i64 (0 : Int))) none), .slice (cutAddr A1 c1 (0 : Int)) ((cut (List.replicate (Int.toNat (w64 (n1 - (w64 (0 - 0))))) (0 : Int)) (0 : Int) (0 : Int)).length) (c1 - Int.toNat (0 : Int))⟩] [none, none, some (.slice (cutAddr A1 c1 (0 : Int)) ((cut (List.replicate (Int.toNat (w64 (n1 - (w64 (0 - 0))))) (0 : Int)) (0 : Int) (0 : Int)).length) (c1 - Int.toNat (0 : Int))), none] [0] [pl 0 (.slice (cutAddr A1 c1 (0 : Int)) ((cut (List.replicate (Int.toNat (w64 (n1 - (w64 (0 - 0))))) (0 : Int)) (0 : Int) (0 : Int)).length) (c1 - Int.toNat (0 : Int)))] hF hS (by kernel_rfl) (by kernel_rfl) ?_ (fun a w hF hS => ?_)
        · exact obs_cons (ob_cutn (l := (List.replicate (Int.toNat (w64 (n1 - (w64 (0 - 0))))) (0 : Int))) (k := .i64) (k' := .i64) Und22 hi3 hs3 rfl (.inr ⟨rfl, rfl⟩) (.inl rfl) (fun _ => hp2) ((hS.at_ 0 rfl).cap1)) <| obs_nil
        refine at_end [0] [pl 0 (.slice (cutAddr A1 c1 (0 : Int)) ((cut (List.replicate (Int.toNat (w64 (n1 - (w64 (0 - 0))))) (0 : Int)) (0 : Int) (0 : Int)).length) (c1 - Int.toNat (0 : Int)))] hF rfl (by kernel_rfl) (fun hF => ?_)
        refine then_n ?_
        have hS : Sep w0 B w (own 3 (.slice (cutAddr A1 c1 (0 : Int)) ((cut (List.replicate (Int.toNat (w64 (n1 - (w64 (0 - 0))))) (0 : Int)) (0 : Int) (0 : Int)).length) (c1 - Int.toNat (0 : Int))) (vI (cut (List.replicate (Int.toNat (w64 (n1 - (w64 (0 - 0))))) (0 : Int)) (0 : Int) (0 : Int))) :: fs) := (hS.at_ 0 rfl).prefixN rfl hp2
        exact ⟨(cut (List.replicate (Int.toNat (w64 (n1 - (w64 (0 - 0))))) (0 : Int)) (0 : Int) (0 : Int)), (cutAddr A1 c1 (0 : Int)), (c1 - Int.toNat (0 : Int)), hF.weak [0] (by kernel_rfl), hS, hm⟩
      · replace hm := if_f hm hb
        refine wpIn_skip ?_
        refine then_n ?_
        have hS : Sep w0 B w (own 3 (.slice none 0 0) (vI ([] : List Int)) :: fs) := hS.nil 3
        have hl1 := (hS.at_ 0 rfl).len1
        have hS := (hS.at_ 0 rfl).reN hl1
        have hS : Sep w0 B w (own 3 (.slice none (([] : List Int).length) 0) (vI ([] : List Int)) :: fs) := hS
        have hF := hF.cast (t := 0) (v := .slice none 0 0) (v' := .slice none (([] : List Int).length) 0) rfl rfl (congrArg (fun k => Value.slice none k 0) hl1)
        exact ⟨([] : List Int), none, 0, hF.weak [0] (by kernel_rfl), hS, hm⟩
  · refine reg [] [] [0, 1, 6] [pl 0 (.slice none 0 0), pl 1 (.int .i64 n1), pl 6 (.bool (decide (n1 < 0)))] hF hS Fol (by kernel_rfl) (by kernel_rfl) (by kernel_rfl) ?_ (fun a w hF hS => ?_)
    · exact obs_nil
    refine cond_ev (t := 6) (b := decide (n1 < 0)) hF (by kernel_rfl) (fun hb => ?_) (fun hb => ?_)
    · replace hm := if_t hm hb
      simp at hm
    · replace hm := if_f hm hb
      refine wpIn_skip ?_
      refine then_n ?_
      exact ⟨hF.weak [0, 1] (by kernel_rfl), hS, hm⟩

noncomputable def slices_Concat_J3  (slices1 : List (List Int)) (size1 : Int) (z1 : Int) : Option (St (Int × Int) Int) :=
  some (.next ((w64 (size1 + (((geti2 slices1 z1).length : Nat) : Int))), (w64 (z1 + 1))))

noncomputable def slices_Concat_J2  (slices1 : List (List Int)) (size1 : Int) (z1 : Int) : Option (St (Int × Int) Int) :=
  asrt (0 ≤ z1 ∧ z1 < (slices1.length : Int)) <| if (decide ((w64 (size1 + (((geti2 slices1 z1).length : Nat) : Int))) < 0)) then none else ((slices_Concat_J3 slices1 size1 z1))

noncomputable def slices_Concat_J6  (z2 : Int) (newslice3 : List Int) : Option (St (List Int × Int) (List Int)) :=
  some (.next (newslice3, (w64 (z2 + 1))))

noncomputable def slices_Concat_J5  (slices1 : List (List Int)) (newslice1 : List Int) (z2 : Int) : Option (St (List Int × Int) (List Int)) :=
  asrt (0 ≤ z2 ∧ z2 < (slices1.length : Int)) <| asrt ((newslice1.length : Int) + (((geti2 slices1 z2).length : Nat) : Int) ≤ bigN) <| (slices_Concat_J6 z2) (newslice1 ++ (geti2 slices1 z2))

noncomputable def slices_Concat_L2  (slices1 : List (List Int)) : (List Int × Int) → Option (St (List Int × Int) (List Int)) :=
  fun (x : (List Int × Int)) => match x with | (newslice1, z2) => if (decide (z2 < (slices1.length : Int))) then ((slices_Concat_J5 slices1 newslice1 z2)) else (some (.done newslice1))

noncomputable def slices_Concat_J4  (newslice2 : List Int) : Option (List Int) :=
  some newslice2

noncomputable def slices_Concat_K2  : (List Int) → Option (List Int) :=
  fun (x : (List Int)) => match x with | newslice2 => slices_Concat_J4 newslice2

noncomputable def slices_Concat_J1  (slices1 : List (List Int)) (size2 : Int) : Option (List Int) :=
  (slices_Grow_m size2).bind fun r1 => (loop (slices_Concat_L2 slices1) (r1, 0)).bind slices_Concat_K2

noncomputable def slices_Concat_K1  (slices1 : List (List Int)) : Int → Option (List Int) :=
  fun (x : Int) => match x with | size2 => (slices_Concat_J1 slices1) size2

noncomputable def slices_Concat_L1  (slices1 : List (List Int)) : (Int × Int) → Option (St (Int × Int) Int) :=
  fun (x : (Int × Int)) => match x with | (size1, z1) => if (decide (z1 < (slices1.length : Int))) then ((slices_Concat_J2 slices1 size1 z1)) else (some (.done size1))

noncomputable def slices_Concat_m  (slices1 : List (List Int)) : Option (List Int) :=
  (loop (slices_Concat_L1 slices1) (0, 0)).bind (slices_Concat_K1 slices1)

set_option maxRecDepth 100000 in
set_option maxHeartbeats 4000000 in
theorem slices_Concat_w  {A1 : Option Addr} {c1 : Nat} {n1 : Nat} {hd1 : List Hd} {slices1 : List (List Int)} {r : (List Int)} {w0 w : World} {B : Nat} {fs : List HP} (hm : slices_Concat_m slices1 = some r) (hS : Sep w0 B w (fs)) (hr_slices1 : RdRowsF w0 B fs A1 hd1 slices1) (_hc_slices1 : slices1.length ≤ c1) (_hn_slices1 : n1 = slices1.length) :
    Calls Try.prog 104 #[.slice A1 n1 c1] w fun e w' => ∃ v, e = .returned v ∧ ∃ (A7 : Option Addr) (c7 : Nat), v = .slice A7 r.length c7 ∧ Sep w0 B w' (own 3 (.slice A7 r.length c7) (vI r) :: fs) := by
  obtain ⟨i3, hi3, hz3, hs3, hb3⟩ := info_parts Info3
  obtain ⟨i22, hi22, hz22, hs22, hb22⟩ := info_parts Info22
  obtain rfl := _hn_slices1
  unfold slices_Concat_m at hm
  replace hm := start_b hm
  refine enter (l := [.slice A1 slices1.length c1]) (n := 36) Try.func104 rfl rfl (by simp) (fun a hF => ?_)
  refine reg [] [] [0] [pl 0 (.slice A1 slices1.length c1)] hF hS Fol (by kernel_rfl) (by kernel_rfl) (by kernel_rfl) ?_ (fun a w hF hS => ?_)
  · exact obs_nil
  refine reg [] [] [0, 3] [pl 0 (.slice A1 slices1.length c1), pl 3 (.int .i64 0)] hF hS Fol (by kernel_rfl) (by kernel_rfl) (by kernel_rfl) ?_ (fun a w hF hS => ?_)
  · exact obs_nil
  refine seq_cut (fun a w => ∃ (size2 : Int), Fr 36 [pl 0 (.slice A1 slices1.length c1), pl 3 (.int .i64 size2)] a ∧ Sep w0 B w (fs) ∧ ((slices_Concat_J1 slices1) size2).bind some = some r) ?_ ?_
  · rintro a w ⟨size2, hF, hS, hm⟩
    unfold slices_Concat_J1 at hm
    refine seqR ?_
    obtain ⟨r1, hr1, hm⟩ := call_b hm
    refine at_run 1 [] [] [0, 23] [pl 0 (.slice A1 slices1.length c1), pl 23 (.int .i64 size2)] hF hS (by kernel_rfl) (by kernel_rfl) ?_ (fun a w hF hS => ?_)
    · exact obs_nil
    refine at_call (f := 192) (args := #[.slice none 0 0, .int .i64 size2]) (d := 24) hF (by kernel_rfl) (by kernel_rfl) Try.func192 (by kernel_rfl) rfl (slices_Grow_w hr1 hS ) (fun v a w hR hF => ?_)
    clear hS
    obtain ⟨A2, c2, rfl, hS⟩ := hR
    have hS : Sep w0 B w (own 3 (.slice A2 r1.length c2) (vI r1) :: fs) := hS
    refine at_run 1 [] [] [0, 6] [pl 0 (.slice A1 slices1.length c1), pl 6 (.slice A2 r1.length c2)] hF hS (by kernel_rfl) (by kernel_rfl) ?_ (fun a w hF hS => ?_)
    · exact obs_nil
    refine at_end [0, 6] [pl 0 (.slice A1 slices1.length c1), pl 6 (.slice A2 r1.length c2)] hF rfl (by kernel_rfl) (fun hF => ?_)
    refine then_n ?_
    refine seq_cut (fun a w => ∃ (newslice2 : List Int) (A4 : Option Addr) (c4 : Nat), Fr 36 [pl 6 (.slice A4 newslice2.length c4)] a ∧ Sep w0 B w (own 3 (.slice A4 newslice2.length c4) (vI newslice2) :: fs) ∧ (slices_Concat_J4 newslice2).bind some = some r) ?_ ?_
    · rintro a w ⟨newslice2, A4, c4, hF, hS, hm⟩
      unfold slices_Concat_J4 at hm
      refine reg [] [] [2] [pl 2 (.slice A4 newslice2.length c4)] hF hS Fol (by kernel_rfl) (by kernel_rfl) (by kernel_rfl) ?_ (fun a w hF hS => ?_)
      · exact obs_nil
      refine wpIn_ret ?_
      have hm : some newslice2 = some r := hm
      obtain rfl := Option.some.inj hm
      exact retV (rs := [.tmp 2]) (vs := [.slice A4 newslice2.length c4]) hF rfl (rv_t (by kernel_rfl) <| rv_nil) rfl ⟨_, rfl, A4, c4, rfl, hS⟩
    · refine reg [] [] [6, 25, 26, 27] [pl 6 (.slice A2 r1.length c2), pl 25 (.slice A1 slices1.length c1), pl 26 (.int .i64 (slices1.length : Int)), pl 27 (.int .i64 0)] hF hS Fol (by kernel_rfl) (by kernel_rfl) (by kernel_rfl) ?_ (fun a w hF hS => ?_)
      · exact obs_nil
      refine wpIn_block ?_
      refine wp_loop_model (S := (List Int × Int)) (R := (List Int)) (slices_Concat_L2 slices1) (fun x => (slices_Concat_K2 x).bind some) r (fun (x : (List Int × Int)) a w => ∃ (A3 : Option Addr) (c3 : Nat), Fr 36 [pl 6 (.slice A3 x.1.length c3), pl 25 (.slice A1 slices1.length c1), pl 26 (.int .i64 (slices1.length : Int)), pl 27 (.int .i64 x.2)] a ∧ Sep w0 B w (own 3 (.slice A3 x.1.length c3) (vI x.1) :: fs)) (assoc_b hm) ⟨A2, c2, hF.weak [6, 25, 26, 27] (by kernel_rfl), hS⟩ ?_
      clear hF hS hm
      rintro nn2 ⟨newslice1, z2⟩ a w ⟨A3, c3, hF, hS⟩ hm
      generalize hφ2 : stK (slices_Concat_L2 slices1) nn2 (fun x => (slices_Concat_K2 x).bind some) = φ2 at hm
      unfold slices_Concat_L2 at hm
      dsimp only at hF hS hm
      refine reg [] [] [6, 25, 26, 27, 28] [pl 6 (.slice A3 newslice1.length c3), pl 25 (.slice A1 slices1.length c1), pl 26 (.int .i64 (slices1.length : Int)), pl 27 (.int .i64 z2), pl 28 (.bool (decide (z2 < (slices1.length : Int))))] hF hS Fol (by kernel_rfl) (by kernel_rfl) (by kernel_rfl) ?_ (fun a w hF hS => ?_)
      · exact obs_nil
      refine seq_cut (fun a w => Fr 36 [pl 6 (.slice A3 newslice1.length c3), pl 25 (.slice A1 slices1.length c1), pl 26 (.int .i64 (slices1.length : Int)), pl 27 (.int .i64 z2)] a ∧ Sep w0 B w (own 3 (.slice A3 newslice1.length c3) (vI newslice1) :: fs) ∧ ((slices_Concat_J5 slices1 newslice1 z2)).bind φ2 = some r) ?_ ?_
      · rintro a w ⟨hF, hS, hm⟩
        unfold slices_Concat_J5 at hm
        refine seq_cut (fun a w => ∃ (newslice3 : List Int) (A6 : Option Addr) (c6 : Nat), Fr 36 [pl 6 (.slice A6 newslice3.length c6), pl 25 (.slice A1 slices1.length c1), pl 26 (.int .i64 (slices1.length : Int)), pl 27 (.int .i64 z2)] a ∧ Sep w0 B w (own 3 (.slice A6 newslice3.length c6) (vI newslice3) :: fs) ∧ ((slices_Concat_J6 z2) newslice3).bind φ2 = some r) ?_ ?_
        · rintro a w ⟨newslice3, A6, c6, hF, hS, hm⟩
          unfold slices_Concat_J6 at hm
          refine reg1 [] [] [6, 25, 26, 27] [pl 6 (.slice A6 newslice3.length c6), pl 25 (.slice A1 slices1.length c1), pl 26 (.int .i64 (slices1.length : Int)), pl 27 (.int .i64 (w64 (z2 + 1)))] hF hS Fol (by kernel_rfl) (by kernel_rfl) (by kernel_rfl) ?_ (fun a w hF hS => ?_)
          · exact obs_nil
          refine then_n ?_
          rw [← hφ2] at hm
          exact ⟨(newslice3, (w64 (z2 + 1))), ⟨A6, c6, hF.weak [6, 25, 26, 27] (by kernel_rfl), hS⟩, hm⟩
        · refine wpIn_block ?_
          obtain ⟨hp2, hm⟩ := asrt_b hm
          refine reg [⟨true, [], vS (Instr.indexAt 42 (.slice A1 slices1.length c1) (.int .i64 z2)), .pointer (some (sAddr A1 z2))⟩, ⟨false, [], vS (Instr.loadAt 22 (.pointer (some (sAddr A1 z2)))), .slice (hdA hd1 z2) ((geti2 slices1 z2).length) (hdC hd1 z2)⟩] [some (.pointer (some (sAddr A1 z2))), some (.slice (hdA hd1 z2) ((geti2 slices1 z2).length) (hdC hd1 z2)), none] [6, 8, 25, 26, 27] [pl 6 (.slice A3 newslice1.length c3), pl 8 (.slice (hdA hd1 z2) ((geti2 slices1 z2).length) (hdC hd1 z2)), pl 25 (.slice A1 slices1.length c1), pl 26 (.int .i64 (slices1.length : Int)), pl 27 (.int .i64 z2)] hF hS Fol (by kernel_rfl) (by kernel_rfl) (by kernel_rfl) ?_ (fun a w hF hS => ?_)
          · exact obs_cons (ob_ixRn Und42 hi22 hs22 (hr_slices1 _ (hS.dropN 1)) rfl (fun _ => hp2)) <| obs_cons (ob_getR Agg22 (fun _ hS => ⟨_, (hr_slices1 _ (hS.dropN 1))⟩) (fun _ => hp2)) <| obs_nil
          refine oneR ?_
          obtain ⟨hp3, hm⟩ := asrt_b hm
          refine at_run 2 [] [] [25, 26, 27, 31, 32] [pl 25 (.slice A1 slices1.length c1), pl 26 (.int .i64 (slices1.length : Int)), pl 27 (.int .i64 z2), pl 31 (.slice A3 newslice1.length c3), pl 32 (.slice (hdA hd1 z2) ((geti2 slices1 z2).length) (hdC hd1 z2))] hF hS (by kernel_rfl) (by kernel_rfl) ?_ (fun a w hF hS => ?_)
          · exact obs_nil
          obtain ⟨A5, c5, w, hrun, hS⟩ := run_app1 (P := Try.prog) (t := 22) (m := newslice1) (ys := (geti2 slices1 z2)) (A2 := (hdA hd1 z2)) (m2 := (geti2 slices1 z2).length) (c2 := (hdC hd1 z2)) (Value.int .i64) (0 : Int) (hS.at_ 0 rfl) ((hr_slices1 _ (hS.dropN 1)).row _ hp2).1 rfl 22 Und22 hi3 hz3 hs3 (by omega) rfl (fun _ => rfl) hp3
          have hS : Sep w0 B w (own 3 (.slice A5 ((newslice1 ++ (geti2 slices1 z2)).length) c5) (vI (newslice1 ++ (geti2 slices1 z2))) :: fs) := hS
          refine at_do (d := 33) hF (by kernel_rfl) (by kernel_rfl) hrun (fun a hF => ?_)
          refine at_run 1 [] [] [6, 25, 26, 27] [pl 6 (.slice A5 ((newslice1 ++ (geti2 slices1 z2)).length) c5), pl 25 (.slice A1 slices1.length c1), pl 26 (.int .i64 (slices1.length : Int)), pl 27 (.int .i64 z2)] hF hS (by kernel_rfl) (by kernel_rfl) ?_ (fun a w hF hS => ?_)
          · exact obs_nil
          refine at_end [6, 25, 26, 27] [pl 6 (.slice A5 ((newslice1 ++ (geti2 slices1 z2)).length) c5), pl 25 (.slice A1 slices1.length c1), pl 26 (.int .i64 (slices1.length : Int)), pl 27 (.int .i64 z2)] hF rfl (by kernel_rfl) (fun hF => ?_)
          refine block_n ?_
          refine then_n ?_
          exact ⟨(newslice1 ++ (geti2 slices1 z2)), A5, c5, hF.weak [6, 25, 26, 27] (by kernel_rfl), hS, hm⟩
      · refine cond_ev (t := 28) (b := decide (z2 < (slices1.length : Int))) hF (by kernel_rfl) (fun hb => ?_) (fun hb => ?_)
        · replace hm := if_t hm hb
          refine wpIn_skip ?_
          refine then_n ?_
          exact ⟨hF.weak [6, 25, 26, 27] (by kernel_rfl), hS, hm⟩
        · replace hm := if_f hm hb
          refine wpIn_exit ?_
          refine then_e (then_e (block_e (then_n ?_)))
          rw [← hφ2] at hm
          replace hm := done_b hm
          unfold slices_Concat_K2 at hm
          try dsimp only at hm
          have hm : (slices_Concat_J4 newslice1).bind some = some r := hm
          exact ⟨newslice1, A3, c3, hF.weak [6] (by kernel_rfl), hS, hm⟩
  · refine reg [] [] [0, 3, 9, 10, 11] [pl 0 (.slice A1 slices1.length c1), pl 3 (.int .i64 0), pl 9 (.slice A1 slices1.length c1), pl 10 (.int .i64 (slices1.length : Int)), pl 11 (.int .i64 0)] hF hS Fol (by kernel_rfl) (by kernel_rfl) (by kernel_rfl) ?_ (fun a w hF hS => ?_)
    · exact obs_nil
    refine wpIn_block ?_
    refine wp_loop_model (S := (Int × Int)) (R := Int) (slices_Concat_L1 slices1) (fun x => ((slices_Concat_K1 slices1) x).bind some) r (fun (x : (Int × Int)) a w => Fr 36 [pl 0 (.slice A1 slices1.length c1), pl 3 (.int .i64 x.1), pl 9 (.slice A1 slices1.length c1), pl 10 (.int .i64 (slices1.length : Int)), pl 11 (.int .i64 x.2)] a ∧ Sep w0 B w (fs)) (assoc_b hm) ⟨hF.weak [0, 3, 9, 10, 11] (by kernel_rfl), hS⟩ ?_
    clear hF hS hm
    rintro nn1 ⟨size1, z1⟩ a w ⟨hF, hS⟩ hm
    generalize hφ1 : stK (slices_Concat_L1 slices1) nn1 (fun x => ((slices_Concat_K1 slices1) x).bind some) = φ1 at hm
    unfold slices_Concat_L1 at hm
    dsimp only at hF hS hm
    refine reg [] [] [0, 3, 9, 10, 11, 12] [pl 0 (.slice A1 slices1.length c1), pl 3 (.int .i64 size1), pl 9 (.slice A1 slices1.length c1), pl 10 (.int .i64 (slices1.length : Int)), pl 11 (.int .i64 z1), pl 12 (.bool (decide (z1 < (slices1.length : Int))))] hF hS Fol (by kernel_rfl) (by kernel_rfl) (by kernel_rfl) ?_ (fun a w hF hS => ?_)
    · exact obs_nil
    refine seq_cut (fun a w => Fr 36 [pl 0 (.slice A1 slices1.length c1), pl 3 (.int .i64 size1), pl 9 (.slice A1 slices1.length c1), pl 10 (.int .i64 (slices1.length : Int)), pl 11 (.int .i64 z1)] a ∧ Sep w0 B w (fs) ∧ ((slices_Concat_J2 slices1 size1 z1)).bind φ1 = some r) ?_ ?_
    · rintro a w ⟨hF, hS, hm⟩
      unfold slices_Concat_J2 at hm
      refine seq_cut (fun a w => Fr 36 [pl 0 (.slice A1 slices1.length c1), pl 3 (.int .i64 (w64 (size1 + (((geti2 slices1 z1).length : Nat) : Int)))), pl 9 (.slice A1 slices1.length c1), pl 10 (.int .i64 (slices1.length : Int)), pl 11 (.int .i64 z1)] a ∧ Sep w0 B w (fs) ∧ ((slices_Concat_J3 slices1 size1 z1)).bind φ1 = some r) ?_ ?_
      · rintro a w ⟨hF, hS, hm⟩
        unfold slices_Concat_J3 at hm
        refine reg1 [] [] [0, 3, 9, 10, 11] [pl 0 (.slice A1 slices1.length c1), pl 3 (.int .i64 (w64 (size1 + (((geti2 slices1 z1).length : Nat) : Int)))), pl 9 (.slice A1 slices1.length c1), pl 10 (.int .i64 (slices1.length : Int)), pl 11 (.int .i64 (w64 (z1 + 1)))] hF hS Fol (by kernel_rfl) (by kernel_rfl) (by kernel_rfl) ?_ (fun a w hF hS => ?_)
        · exact obs_nil
        refine then_n ?_
        rw [← hφ1] at hm
        exact ⟨((w64 (size1 + (((geti2 slices1 z1).length : Nat) : Int))), (w64 (z1 + 1))), ⟨hF.weak [0, 3, 9, 10, 11] (by kernel_rfl), hS⟩, hm⟩
      · refine wpIn_block ?_
        obtain ⟨hp1, hm⟩ := asrt_b hm
        refine reg [⟨true, [], vS (Instr.indexAt 42 (.slice A1 slices1.length c1) (.int .i64 z1)), .pointer (some (sAddr A1 z1))⟩, ⟨false, [], vS (Instr.loadAt 22 (.pointer (some (sAddr A1 z1)))), .slice (hdA hd1 z1) ((geti2 slices1 z1).length) (hdC hd1 z1)⟩] [some (.pointer (some (sAddr A1 z1))), some (.slice (hdA hd1 z1) ((geti2 slices1 z1).length) (hdC hd1 z1)), none] [0, 3, 5, 9, 10, 11] [pl 0 (.slice A1 slices1.length c1), pl 3 (.int .i64 size1), pl 5 (.slice (hdA hd1 z1) ((geti2 slices1 z1).length) (hdC hd1 z1)), pl 9 (.slice A1 slices1.length c1), pl 10 (.int .i64 (slices1.length : Int)), pl 11 (.int .i64 z1)] hF hS Fol (by kernel_rfl) (by kernel_rfl) (by kernel_rfl) ?_ (fun a w hF hS => ?_)
        · exact obs_cons (ob_ixRn Und42 hi22 hs22 (hr_slices1 _ (hS.dropN 0)) rfl (fun _ => hp1)) <| obs_cons (ob_getR Agg22 (fun _ hS => ⟨_, (hr_slices1 _ (hS.dropN 0))⟩) (fun _ => hp1)) <| obs_nil
        refine reg [] [] [0, 3, 9, 10, 11] [pl 0 (.slice A1 slices1.length c1), pl 3 (.int .i64 (w64 (size1 + (((geti2 slices1 z1).length : Nat) : Int)))), pl 9 (.slice A1 slices1.length c1), pl 10 (.int .i64 (slices1.length : Int)), pl 11 (.int .i64 z1)] hF hS Fol (by kernel_rfl) (by kernel_rfl) (by kernel_rfl) ?_ (fun a w hF hS => ?_)
        · exact obs_nil
        refine reg [] [] [0, 3, 9, 10, 11, 20] [pl 0 (.slice A1 slices1.length c1), pl 3 (.int .i64 (w64 (size1 + (((geti2 slices1 z1).length : Nat) : Int)))), pl 9 (.slice A1 slices1.length c1), pl 10 (.int .i64 (slices1.length : Int)), pl 11 (.int .i64 z1), pl 20 (.bool (decide ((w64 (size1 + (((geti2 slices1 z1).length : Nat) : Int))) < 0)))] hF hS Fol (by kernel_rfl) (by kernel_rfl) (by kernel_rfl) ?_ (fun a w hF hS => ?_)
        · exact obs_nil
        refine cond_ev (t := 20) (b := decide ((w64 (size1 + (((geti2 slices1 z1).length : Nat) : Int))) < 0)) hF (by kernel_rfl) (fun hb => ?_) (fun hb => ?_)
        · replace hm := if_t hm hb
          simp at hm
        · replace hm := if_f hm hb
          refine wpIn_skip ?_
          refine block_n ?_
          refine then_n ?_
          exact ⟨hF.weak [0, 3, 9, 10, 11] (by kernel_rfl), hS, hm⟩
    · refine cond_ev (t := 12) (b := decide (z1 < (slices1.length : Int))) hF (by kernel_rfl) (fun hb => ?_) (fun hb => ?_)
      · replace hm := if_t hm hb
        refine wpIn_skip ?_
        refine then_n ?_
        exact ⟨hF.weak [0, 3, 9, 10, 11] (by kernel_rfl), hS, hm⟩
      · replace hm := if_f hm hb
        refine wpIn_exit ?_
        refine then_e (then_e (block_e (then_n ?_)))
        rw [← hφ1] at hm
        replace hm := done_b hm
        unfold slices_Concat_K1 at hm
        try dsimp only at hm
        have hm : ((slices_Concat_J1 slices1) size1).bind some = some r := hm
        exact ⟨size1, hF.weak [0, 3] (by kernel_rfl), hS, hm⟩

noncomputable def slices_Index_J3  (z1 : Int) : Option (St Int (Fl Unit Int)) :=
  some (.next (w64 (z1 + 1)))

noncomputable def slices_Index_J2  (s1 : List Int) (v1 : Int) (z1 : Int) : Option (St Int (Fl Unit Int)) :=
  asrt (0 ≤ z1 ∧ z1 < (s1.length : Int)) <| if (v1 == (geti s1 z1)) then (some (.done (.ret z1))) else ((slices_Index_J3 z1))

noncomputable def slices_Index_J1  : Option Int :=
  some (-1)

noncomputable def slices_Index_K1  : (Fl Unit Int) → Option Int :=
  fun (x : (Fl Unit Int)) => match x with | .go _ => slices_Index_J1 | .ret x => some x

noncomputable def slices_Index_L1  (s1 : List Int) (v1 : Int) : Int → Option (St Int (Fl Unit Int)) :=
  fun (x : Int) => match x with | z1 => if (decide (z1 < (s1.length : Int))) then ((slices_Index_J2 s1 v1 z1)) else (some (.done (.go ())))

noncomputable def slices_Index_m  (s1 : List Int) (v1 : Int) : Option Int :=
  (loop (slices_Index_L1 s1 v1) 0).bind slices_Index_K1

set_option maxRecDepth 100000 in
set_option maxHeartbeats 4000000 in
theorem slices_Index_w  {A1 : Option Addr} {c1 : Nat} {n1 : Nat} {s1 : List Int} {v1 : Int} {r : Int} {w0 w : World} {B : Nat} {fs : List HP} (hm : slices_Index_m s1 v1 = some r) (hS : Sep w0 B w (fs)) (hr_s1 : RdF w0 B fs A1 (vI s1)) (_hc_s1 : s1.length ≤ c1) (_hn_s1 : n1 = s1.length) :
    Calls Try.prog 157 #[.slice A1 n1 c1, .int .i64 v1] w fun e w' => e = .returned (.int .i64 r) ∧ Sep w0 B w' (fs) := by
  obtain ⟨i3, hi3, hz3, hs3, hb3⟩ := info_parts Info3
  obtain rfl := _hn_s1
  unfold slices_Index_m at hm
  replace hm := start_b hm
  refine enter (l := [.slice A1 s1.length c1, .int .i64 v1]) (n := 19) Try.func157 rfl rfl (by simp) (fun a hF => ?_)
  refine reg [] [] [0, 1] [pl 0 (.slice A1 s1.length c1), pl 1 (.int .i64 v1)] hF hS Fol (by kernel_rfl) (by kernel_rfl) (by kernel_rfl) ?_ (fun a w hF hS => ?_)
  · exact obs_nil
  refine seq_cut (fun a w => Fr 19 [] a ∧ Sep w0 B w (fs) ∧ (slices_Index_J1).bind some = some r) ?_ ?_
  · rintro a w ⟨hF, hS, hm⟩
    unfold slices_Index_J1 at hm
    refine reg [] [] [4] [pl 4 (.int .i64 (-1))] hF hS Fol (by kernel_rfl) (by kernel_rfl) (by kernel_rfl) ?_ (fun a w hF hS => ?_)
    · exact obs_nil
    refine wpIn_ret ?_
    have hm : some (-1) = some r := hm
    obtain rfl := Option.some.inj hm
    exact retV (rs := [.tmp 4]) (vs := [.int .i64 (-1)]) hF rfl (rv_t (by kernel_rfl) <| rv_nil) rfl ⟨rfl, hS⟩
  · refine reg [] [] [0, 1, 7, 8] [pl 0 (.slice A1 s1.length c1), pl 1 (.int .i64 v1), pl 7 (.int .i64 (s1.length : Int)), pl 8 (.int .i64 0)] hF hS Fol (by kernel_rfl) (by kernel_rfl) (by kernel_rfl) ?_ (fun a w hF hS => ?_)
    · exact obs_nil
    refine wpIn_block ?_
    refine wp_loop_model (S := Int) (R := (Fl Unit Int)) (slices_Index_L1 s1 v1) (fun x => (slices_Index_K1 x).bind some) r (fun (x : Int) a w => Fr 19 [pl 0 (.slice A1 s1.length c1), pl 1 (.int .i64 v1), pl 7 (.int .i64 (s1.length : Int)), pl 8 (.int .i64 x)] a ∧ Sep w0 B w (fs)) (assoc_b hm) ⟨hF.weak [0, 1, 7, 8] (by kernel_rfl), hS⟩ ?_
    clear hF hS hm
    rintro nn1 z1 a w ⟨hF, hS⟩ hm
    generalize hφ1 : stK (slices_Index_L1 s1 v1) nn1 (fun x => (slices_Index_K1 x).bind some) = φ1 at hm
    unfold slices_Index_L1 at hm
    dsimp only at hm
    refine reg [] [] [0, 1, 7, 8, 9] [pl 0 (.slice A1 s1.length c1), pl 1 (.int .i64 v1), pl 7 (.int .i64 (s1.length : Int)), pl 8 (.int .i64 z1), pl 9 (.bool (decide (z1 < (s1.length : Int))))] hF hS Fol (by kernel_rfl) (by kernel_rfl) (by kernel_rfl) ?_ (fun a w hF hS => ?_)
    · exact obs_nil
    refine seq_cut (fun a w => Fr 19 [pl 0 (.slice A1 s1.length c1), pl 1 (.int .i64 v1), pl 7 (.int .i64 (s1.length : Int)), pl 8 (.int .i64 z1)] a ∧ Sep w0 B w (fs) ∧ ((slices_Index_J2 s1 v1 z1)).bind φ1 = some r) ?_ ?_
    · rintro a w ⟨hF, hS, hm⟩
      unfold slices_Index_J2 at hm
      refine seq_cut (fun a w => Fr 19 [pl 0 (.slice A1 s1.length c1), pl 1 (.int .i64 v1), pl 7 (.int .i64 (s1.length : Int)), pl 8 (.int .i64 z1)] a ∧ Sep w0 B w (fs) ∧ ((slices_Index_J3 z1)).bind φ1 = some r) ?_ ?_
      · rintro a w ⟨hF, hS, hm⟩
        unfold slices_Index_J3 at hm
        refine reg1 [] [] [0, 1, 7, 8] [pl 0 (.slice A1 s1.length c1), pl 1 (.int .i64 v1), pl 7 (.int .i64 (s1.length : Int)), pl 8 (.int .i64 (w64 (z1 + 1)))] hF hS Fol (by kernel_rfl) (by kernel_rfl) (by kernel_rfl) ?_ (fun a w hF hS => ?_)
        · exact obs_nil
        refine then_n ?_
        rw [← hφ1] at hm
        exact ⟨(w64 (z1 + 1)), ⟨hF.weak [0, 1, 7, 8] (by kernel_rfl), hS⟩, hm⟩
      · refine wpIn_block ?_
        refine reg [] [] [0, 1, 5, 7, 8] [pl 0 (.slice A1 s1.length c1), pl 1 (.int .i64 v1), pl 5 (.int .i64 z1), pl 7 (.int .i64 (s1.length : Int)), pl 8 (.int .i64 z1)] hF hS Fol (by kernel_rfl) (by kernel_rfl) (by kernel_rfl) ?_ (fun a w hF hS => ?_)
        · exact obs_nil
        obtain ⟨hp1, hm⟩ := asrt_b hm
        refine reg [⟨true, [], vS (Instr.indexAt 22 (.slice A1 s1.length c1) (.int .i64 z1)), .pointer (some (sAddr A1 z1))⟩, ⟨false, [], vS (Instr.loadAt 3 (.pointer (some (sAddr A1 z1)))), .int .i64 (geti s1 z1)⟩] [none, none, none, some (.pointer (some (sAddr A1 z1))), some (.int .i64 (geti s1 z1)), none] [0, 1, 5, 7, 8, 16] [pl 0 (.slice A1 s1.length c1), pl 1 (.int .i64 v1), pl 5 (.int .i64 z1), pl 7 (.int .i64 (s1.length : Int)), pl 8 (.int .i64 z1), pl 16 (.bool (v1 == (geti s1 z1)))] hF hS Fol (by kernel_rfl) (by kernel_rfl) (by kernel_rfl) ?_ (fun a w hF hS => ?_)
        · exact obs_cons (ob_ix1 (f := (Value.int .i64)) (m := s1) Und22 hi3 hs3 (hr_s1 _ (hS.dropN 0)) rfl (fun _ => hp1)) <| obs_cons (ob_get1 (n := s1.length) (m := s1) (Value.int .i64) (0 : Int) Agg3 (fun _ hS => ⟨_, (hr_s1 _ (hS.dropN 0))⟩) (fun _ hS => rfl) (fun _ => hp1)) <| obs_nil
        refine cond_ev (t := 16) (b := (v1 == (geti s1 z1))) hF (by kernel_rfl) (fun hb => ?_) (fun hb => ?_)
        · replace hm := if_t hm hb
          refine reg [] [] [4] [pl 4 (.int .i64 z1)] hF hS Fol (by kernel_rfl) (by kernel_rfl) (by kernel_rfl) ?_ (fun a w hF hS => ?_)
          · exact obs_nil
          refine wpIn_ret ?_
          refine block_r (then_r (then_r (block_r (then_r ?_))))
          rw [← hφ1] at hm
          replace hm := done_b hm
          unfold slices_Index_K1 at hm
          try dsimp only at hm
          have hm : some z1 = some r := hm
          obtain rfl := Option.some.inj hm
          exact retV (rs := [.tmp 4]) (vs := [.int .i64 z1]) hF rfl (rv_t (by kernel_rfl) <| rv_nil) rfl ⟨rfl, hS⟩
        · replace hm := if_f hm hb
          refine wpIn_skip ?_
          refine block_n ?_
          refine then_n ?_
          exact ⟨hF.weak [0, 1, 7, 8] (by kernel_rfl), hS, hm⟩
    · refine cond_ev (t := 9) (b := decide (z1 < (s1.length : Int))) hF (by kernel_rfl) (fun hb => ?_) (fun hb => ?_)
      · replace hm := if_t hm hb
        refine wpIn_skip ?_
        refine then_n ?_
        exact ⟨hF.weak [0, 1, 7, 8] (by kernel_rfl), hS, hm⟩
      · replace hm := if_f hm hb
        refine wpIn_exit ?_
        refine then_e (then_e (block_e (then_n ?_)))
        rw [← hφ1] at hm
        replace hm := done_b hm
        unfold slices_Index_K1 at hm
        try dsimp only at hm
        have hm : (slices_Index_J1).bind some = some r := hm
        exact ⟨hF.weak [] (by kernel_rfl), hS, hm⟩

noncomputable def slices_Contains_m  (s1 : List Int) (v1 : Int) : Option Bool :=
  (slices_Index_m s1 v1).bind fun r1 => some (decide ((0 : Int) ≤ r1))

set_option maxRecDepth 100000 in
set_option maxHeartbeats 4000000 in
theorem slices_Contains_w  {A1 : Option Addr} {c1 : Nat} {n1 : Nat} {s1 : List Int} {v1 : Int} {r : Bool} {w0 w : World} {B : Nat} {fs : List HP} (hm : slices_Contains_m s1 v1 = some r) (hS : Sep w0 B w (fs)) (hr_s1 : RdF w0 B fs A1 (vI s1)) (_hc_s1 : s1.length ≤ c1) (_hn_s1 : n1 = s1.length) :
    Calls Try.prog 96 #[.slice A1 n1 c1, .int .i64 v1] w fun e w' => e = .returned (.bool r) ∧ Sep w0 B w' (fs) := by
  obtain ⟨i3, hi3, hz3, hs3, hb3⟩ := info_parts Info3
  obtain rfl := _hn_s1
  unfold slices_Contains_m at hm
  replace hm := start_b hm
  refine enter (l := [.slice A1 s1.length c1, .int .i64 v1]) (n := 9) Try.func96 rfl rfl (by simp) (fun a hF => ?_)
  refine reg [] [] [0, 1] [pl 0 (.slice A1 s1.length c1), pl 1 (.int .i64 v1)] hF hS Fol (by kernel_rfl) (by kernel_rfl) (by kernel_rfl) ?_ (fun a w hF hS => ?_)
  · exact obs_nil
  obtain ⟨r1, hr1, hm⟩ := call_b hm
  refine reg [⟨false, [], callFunc 157 #[.slice A1 s1.length c1, .int .i64 v1], .int .i64 r1⟩] [none, none, some (.int .i64 r1), none, none] [4] [pl 4 (.bool (decide ((0 : Int) ≤ r1)))] hF hS Fol (by kernel_rfl) (by kernel_rfl) (by kernel_rfl) ?_ (fun a w hF hS => ?_)
  · exact obs_cons (ob_call Try.func157 (by kernel_rfl) rfl (fun _ _ hS => slices_Index_w hr1 hS (fun _ hS => (hr_s1 _ (hS.dropN 0))) _hc_s1 rfl)) <| obs_nil
  refine wpIn_ret ?_
  have hm : some (decide ((0 : Int) ≤ r1)) = some r := hm
  obtain rfl := Option.some.inj hm
  exact retV (rs := [.tmp 4]) (vs := [.bool (decide ((0 : Int) ≤ r1))]) hF rfl (rv_t (by kernel_rfl) <| rv_nil) rfl ⟨rfl, hS⟩

noncomputable def poker_Showdown_1_J3  (p41 : Int) (p53 : Int) (p63 : Int) : Option (Int × Int × Int) :=
  some ((w64 (p41 + 1)), p53, p63)

noncomputable def poker_Showdown_1_J5  (c9 : Int) (z4 : Int) (z5 : Int) (z6 : Int) : Option (St (Int × Int × Int × Int) (Int × Int × Int)) :=
  some (.next (z4, z5, z6, (w64 (c9 + 1))))

noncomputable def poker_Showdown_1_J4  (rec_poker_Showdown_1 : Int → List Int → List Int → List Int → Int → Int → Int → List Int → Option (Int × Int × Int)) (table1 : List Int) (p21 : List Int) (p31 : List Int) (p71 : List Int) (z1 : Int) (z2 : Int) (z3 : Int) (c9 : Int) : Option (St (Int × Int × Int × Int) (Int × Int × Int)) :=
  (slices_Contains_m p71 c9).bind fun r5 => if (!r5) then ((slices_Clone_m table1).bind fun r6 => asrt ((r6.length : Int) + 1 ≤ bigN) <| (rec_poker_Showdown_1 (w64 (c9 + 1)) (r6 ++ ([c9] : List Int)) p21 p31 z1 z2 z3 p71).bind fun r7 => (poker_Showdown_1_J5 c9) r7.1 r7.2.1 r7.2.2) else ((poker_Showdown_1_J5 c9) z1 z2 z3)

noncomputable def poker_Showdown_1_J1  (p43 : Int) (p54 : Int) (p64 : Int) : Option (Int × Int × Int) :=
  some (p43, p54, p64)

noncomputable def poker_Showdown_1_K1  : (Int × Int × Int) → Option (Int × Int × Int) :=
  fun (x : (Int × Int × Int)) => match x with | (p43, p54, p64) => poker_Showdown_1_J1 p43 p54 p64

noncomputable def poker_Showdown_1_L1  (rec_poker_Showdown_1 : Int → List Int → List Int → List Int → Int → Int → Int → List Int → Option (Int × Int × Int)) (table1 : List Int) (p21 : List Int) (p31 : List Int) (p71 : List Int) : (Int × Int × Int × Int) → Option (St (Int × Int × Int × Int) (Int × Int × Int)) :=
  fun (x : (Int × Int × Int × Int)) => match x with | (z1, z2, z3, c9) => if (decide (c9 < 52)) then ((poker_Showdown_1_J4 rec_poker_Showdown_1 table1 p21 p31 p71 z1 z2 z3 c9)) else (some (.done (z1, z2, z3)))

noncomputable def poker_Showdown_1_J2  (rec_poker_Showdown_1 : Int → List Int → List Int → List Int → Int → Int → Int → List Int → Option (Int × Int × Int)) (from1 : Int) (table1 : List Int) (p21 : List Int) (p31 : List Int) (p41 : Int) (p51 : Int) (p61 : Int) (p71 : List Int) : Option (Int × Int × Int) :=
  (loop (poker_Showdown_1_L1 rec_poker_Showdown_1 table1 p21 p31 p71) (p41, p51, p61, from1)).bind poker_Showdown_1_K1

noncomputable def poker_Showdown_1_B  (rec_poker_Showdown_1 : Int → List Int → List Int → List Int → Int → Int → Int → List Int → Option (Int × Int × Int)) (from1 : Int) (table1 : List Int) (p21 : List Int) (p31 : List Int) (p41 : Int) (p51 : Int) (p61 : Int) (p71 : List Int) : Option (Int × Int × Int) :=
  if ((table1.length : Int) == 5) then ((slices_Concat_m ([p21, table1] : List (List Int))).bind fun r1 => (poker_best_m r1).bind fun r2 => (slices_Concat_m ([p31, table1] : List (List Int))).bind fun r3 => (poker_best_m r3).bind fun r4 => if (decide (r4.1 < r2.1)) then ((poker_Showdown_1_J3 p41) (w64 (p51 + 1)) p61) else (if (r2.1 == r4.1) then ((poker_Showdown_1_J3 p41) p51 (w64 (p61 + 1))) else ((poker_Showdown_1_J3 p41) p51 p61))) else ((poker_Showdown_1_J2 rec_poker_Showdown_1 from1 table1 p21 p31 p41 p51 p61 p71))

noncomputable def poker_Showdown_1_mF  : Nat → Int → List Int → List Int → List Int → Int → Int → Int → List Int → Option (Int × Int × Int)
  | 0 => fun _ _ _ _ _ _ _ _ => none
  | n + 1 => fun from1 table1 p21 p31 p41 p51 p61 p71 => poker_Showdown_1_B (poker_Showdown_1_mF n) from1 table1 p21 p31 p41 p51 p61 p71

noncomputable def poker_Showdown_1_m  (from1 : Int) (table1 : List Int) (p21 : List Int) (p31 : List Int) (p41 : Int) (p51 : Int) (p61 : Int) (p71 : List Int) : Option (Int × Int × Int) :=
  recM fun n => poker_Showdown_1_mF n from1 table1 p21 p31 p41 p51 p61 p71

set_option maxRecDepth 100000 in
set_option maxHeartbeats 4000000 in
theorem poker_Showdown_1_wB  {rec_poker_Showdown_1 : Int → List Int → List Int → List Int → Int → Int → Int → List Int → Option (Int × Int × Int)} (ih_poker_Showdown_1 : ∀ {from1 : Int} {A1 : Option Addr} {c1 : Nat} {n1 : Nat} {table1 : List Int} {g1 : Nat} {A2 : Option Addr} {c2 : Nat} {n2 : Nat} {p21 : List Int} {g2 : Nat} {A3 : Option Addr} {c3 : Nat} {n3 : Nat} {p31 : List Int} {g3 : Nat} {p41 : Int} {g4 : Nat} {p51 : Int} {g5 : Nat} {p61 : Int} {g6 : Nat} {A4 : Option Addr} {c4 : Nat} {n4 : Nat} {p71 : List Int} {g7 : Nat} {r : (Int × Int × Int)} {w0 w : World} {B : Nat} {fs : List HP} (_ : rec_poker_Showdown_1 from1 table1 p21 p31 p41 p51 p61 p71 = some r) (_ : Sep w0 B w (blk g1 22 #[.slice A2 n2 c2] :: blk g2 22 #[.slice A3 n3 c3] :: blk g3 3 #[.int .i64 p41] :: blk g4 3 #[.int .i64 p51] :: blk g5 3 #[.int .i64 p61] :: blk g6 22 #[.slice A4 n4 c4] :: own 3 (.slice A4 n4 c4) (vI p71) :: blk g7 157 #[.func (.func 113) #[] #[.pointer (some ⟨g1, 0, none⟩), .pointer (some ⟨g2, 0, none⟩), .pointer (some ⟨g3, 0, none⟩), .pointer (some ⟨g4, 0, none⟩), .pointer (some ⟨g5, 0, none⟩), .pointer (some ⟨g6, 0, none⟩), .pointer (some ⟨g7, 0, none⟩)]] :: fs)) (_hr_table1 : RdF w0 B fs A1 (vI table1)) (_hc_table1 : table1.length ≤ c1) (_hn_table1 : n1 = table1.length) (_hr_p21 : RdF w0 B fs A2 (vI p21)) (_hc_p21 : p21.length ≤ c2) (_hn_p21 : n2 = p21.length) (_hr_p31 : RdF w0 B fs A3 (vI p31)) (_hc_p31 : p31.length ≤ c3) (_hn_p31 : n3 = p31.length), Calls Try.prog 113 #[.int .i64 from1, .slice A1 n1 c1, .pointer (some ⟨g1, 0, none⟩), .pointer (some ⟨g2, 0, none⟩), .pointer (some ⟨g3, 0, none⟩), .pointer (some ⟨g4, 0, none⟩), .pointer (some ⟨g5, 0, none⟩), .pointer (some ⟨g6, 0, none⟩), .pointer (some ⟨g7, 0, none⟩)] w fun e w' => ∃ v, e = .returned v ∧ v = .tuple #[] ∧ Sep w0 B w' (blk g1 22 #[.slice A2 n2 c2] :: blk g2 22 #[.slice A3 n3 c3] :: blk g3 3 #[.int .i64 r.1] :: blk g4 3 #[.int .i64 r.2.1] :: blk g5 3 #[.int .i64 r.2.2] :: blk g6 22 #[.slice A4 n4 c4] :: own 3 (.slice A4 n4 c4) (vI p71) :: blk g7 157 #[.func (.func 113) #[] #[.pointer (some ⟨g1, 0, none⟩), .pointer (some ⟨g2, 0, none⟩), .pointer (some ⟨g3, 0, none⟩), .pointer (some ⟨g4, 0, none⟩), .pointer (some ⟨g5, 0, none⟩), .pointer (some ⟨g6, 0, none⟩), .pointer (some ⟨g7, 0, none⟩)]] :: fs)) {from1 : Int} {A1 : Option Addr} {c1 : Nat} {n1 : Nat} {table1 : List Int} {g1 : Nat} {A2 : Option Addr} {c2 : Nat} {n2 : Nat} {p21 : List Int} {g2 : Nat} {A3 : Option Addr} {c3 : Nat} {n3 : Nat} {p31 : List Int} {g3 : Nat} {p41 : Int} {g4 : Nat} {p51 : Int} {g5 : Nat} {p61 : Int} {g6 : Nat} {A4 : Option Addr} {c4 : Nat} {n4 : Nat} {p71 : List Int} {g7 : Nat} {r : (Int × Int × Int)} {w0 w : World} {B : Nat} {fs : List HP} (hm : poker_Showdown_1_B rec_poker_Showdown_1 from1 table1 p21 p31 p41 p51 p61 p71 = some r) (hS : Sep w0 B w (blk g1 22 #[.slice A2 n2 c2] :: blk g2 22 #[.slice A3 n3 c3] :: blk g3 3 #[.int .i64 p41] :: blk g4 3 #[.int .i64 p51] :: blk g5 3 #[.int .i64 p61] :: blk g6 22 #[.slice A4 n4 c4] :: own 3 (.slice A4 n4 c4) (vI p71) :: blk g7 157 #[.func (.func 113) #[] #[.pointer (some ⟨g1, 0, none⟩), .pointer (some ⟨g2, 0, none⟩), .pointer (some ⟨g3, 0, none⟩), .pointer (some ⟨g4, 0, none⟩), .pointer (some ⟨g5, 0, none⟩), .pointer (some ⟨g6, 0, none⟩), .pointer (some ⟨g7, 0, none⟩)]] :: fs)) (hr_table1 : RdF w0 B fs A1 (vI table1)) (_hc_table1 : table1.length ≤ c1) (_hn_table1 : n1 = table1.length) (hr_p21 : RdF w0 B fs A2 (vI p21)) (_hc_p21 : p21.length ≤ c2) (_hn_p21 : n2 = p21.length) (hr_p31 : RdF w0 B fs A3 (vI p31)) (_hc_p31 : p31.length ≤ c3) (_hn_p31 : n3 = p31.length) :
    Calls Try.prog 113 #[.int .i64 from1, .slice A1 n1 c1, .pointer (some ⟨g1, 0, none⟩), .pointer (some ⟨g2, 0, none⟩), .pointer (some ⟨g3, 0, none⟩), .pointer (some ⟨g4, 0, none⟩), .pointer (some ⟨g5, 0, none⟩), .pointer (some ⟨g6, 0, none⟩), .pointer (some ⟨g7, 0, none⟩)] w fun e w' => ∃ v, e = .returned v ∧ v = .tuple #[] ∧ Sep w0 B w' (blk g1 22 #[.slice A2 n2 c2] :: blk g2 22 #[.slice A3 n3 c3] :: blk g3 3 #[.int .i64 r.1] :: blk g4 3 #[.int .i64 r.2.1] :: blk g5 3 #[.int .i64 r.2.2] :: blk g6 22 #[.slice A4 n4 c4] :: own 3 (.slice A4 n4 c4) (vI p71) :: blk g7 157 #[.func (.func 113) #[] #[.pointer (some ⟨g1, 0, none⟩), .pointer (some ⟨g2, 0, none⟩), .pointer (some ⟨g3, 0, none⟩), .pointer (some ⟨g4, 0, none⟩), .pointer (some ⟨g5, 0, none⟩), .pointer (some ⟨g6, 0, none⟩), .pointer (some ⟨g7, 0, none⟩)]] :: fs) := by
  obtain ⟨i3, hi3, hz3, hs3, hb3⟩ := info_parts Info3
  obtain ⟨i22, hi22, hz22, hs22, hb22⟩ := info_parts Info22
  obtain rfl := (hS.at_ 6 rfl).len1
  obtain rfl := _hn_table1
  obtain rfl := _hn_p21
  obtain rfl := _hn_p31
  unfold poker_Showdown_1_B at hm
  replace hm := start_b hm
  refine enter (l := [.int .i64 from1, .slice A1 table1.length c1, .pointer (some ⟨g1, 0, none⟩), .pointer (some ⟨g2, 0, none⟩), .pointer (some ⟨g3, 0, none⟩), .pointer (some ⟨g4, 0, none⟩), .pointer (some ⟨g5, 0, none⟩), .pointer (some ⟨g6, 0, none⟩), .pointer (some ⟨g7, 0, none⟩)]) (n := 67) Try.func113 rfl rfl (by simp) (fun a hF => ?_)
  refine end_cut (fun a w => ∃ (p43 : Int) (p54 : Int) (p64 : Int), Fr 67 [] a ∧ Sep w0 B w (blk g1 22 #[.slice A2 p21.length c2] :: blk g2 22 #[.slice A3 p31.length c3] :: blk g3 3 #[.int .i64 p43] :: blk g4 3 #[.int .i64 p54] :: blk g5 3 #[.int .i64 p64] :: blk g6 22 #[.slice A4 p71.length c4] :: own 3 (.slice A4 p71.length c4) (vI p71) :: blk g7 157 #[.func (.func 113) #[] #[.pointer (some ⟨g1, 0, none⟩), .pointer (some ⟨g2, 0, none⟩), .pointer (some ⟨g3, 0, none⟩), .pointer (some ⟨g4, 0, none⟩), .pointer (some ⟨g5, 0, none⟩), .pointer (some ⟨g6, 0, none⟩), .pointer (some ⟨g7, 0, none⟩)]] :: fs) ∧ (poker_Showdown_1_J1 p43 p54 p64).bind some = some r) ?_ ?_
  · rintro a w ⟨p43, p54, p64, hF, hS, hm⟩
    unfold poker_Showdown_1_J1 at hm
    have hm : some (p43, p54, p64) = some r := hm
    obtain rfl := Option.some.inj hm
    exact endV (rs := []) (vs := []) hF rfl (rv_nil) rfl ⟨_, rfl, rfl, hS⟩ rfl
  · refine seq_cut (fun a w => Fr 67 [pl 0 (.int .i64 from1), pl 1 (.slice A1 table1.length c1), pl 7 (.pointer (some ⟨g6, 0, none⟩)), pl 8 (.pointer (some ⟨g7, 0, none⟩))] a ∧ Sep w0 B w (blk g6 22 #[.slice A4 p71.length c4] :: own 3 (.slice A4 p71.length c4) (vI p71) :: blk g7 157 #[.func (.func 113) #[] #[.pointer (some ⟨g1, 0, none⟩), .pointer (some ⟨g2, 0, none⟩), .pointer (some ⟨g3, 0, none⟩), .pointer (some ⟨g4, 0, none⟩), .pointer (some ⟨g5, 0, none⟩), .pointer (some ⟨g6, 0, none⟩), .pointer (some ⟨g7, 0, none⟩)]] :: blk g1 22 #[.slice A2 p21.length c2] :: blk g2 22 #[.slice A3 p31.length c3] :: blk g3 3 #[.int .i64 p41] :: blk g4 3 #[.int .i64 p51] :: blk g5 3 #[.int .i64 p61] :: fs) ∧ ((poker_Showdown_1_J2 rec_poker_Showdown_1 from1 table1 p21 p31 p41 p51 p61 p71)).bind some = some r) ?_ ?_
    · rintro a w ⟨hF, hS, hm⟩
      unfold poker_Showdown_1_J2 at hm
      refine reg [] [] [1, 7, 8, 15] [pl 1 (.slice A1 table1.length c1), pl 7 (.pointer (some ⟨g6, 0, none⟩)), pl 8 (.pointer (some ⟨g7, 0, none⟩)), pl 15 (.int .i64 from1)] hF hS Fol (by kernel_rfl) (by kernel_rfl) (by kernel_rfl) ?_ (fun a w hF hS => ?_)
      · exact obs_nil
      refine wpIn_block ?_
      refine wp_loop_model (S := (Int × Int × Int × Int)) (R := (Int × Int × Int)) (poker_Showdown_1_L1 rec_poker_Showdown_1 table1 p21 p31 p71) (fun x => (poker_Showdown_1_K1 x).bind some) r (fun (x : (Int × Int × Int × Int)) a w => Fr 67 [pl 1 (.slice A1 table1.length c1), pl 7 (.pointer (some ⟨g6, 0, none⟩)), pl 8 (.pointer (some ⟨g7, 0, none⟩)), pl 15 (.int .i64 x.2.2.2)] a ∧ Sep w0 B w (blk g6 22 #[.slice A4 p71.length c4] :: own 3 (.slice A4 p71.length c4) (vI p71) :: blk g7 157 #[.func (.func 113) #[] #[.pointer (some ⟨g1, 0, none⟩), .pointer (some ⟨g2, 0, none⟩), .pointer (some ⟨g3, 0, none⟩), .pointer (some ⟨g4, 0, none⟩), .pointer (some ⟨g5, 0, none⟩), .pointer (some ⟨g6, 0, none⟩), .pointer (some ⟨g7, 0, none⟩)]] :: blk g1 22 #[.slice A2 p21.length c2] :: blk g2 22 #[.slice A3 p31.length c3] :: blk g3 3 #[.int .i64 x.1] :: blk g4 3 #[.int .i64 x.2.1] :: blk g5 3 #[.int .i64 x.2.2.1] :: fs)) (assoc_b hm) ⟨hF.weak [1, 7, 8, 15] (by kernel_rfl), hS⟩ ?_
      clear hF hS hm
      rintro nn1 ⟨z1, z2, z3, c9⟩ a w ⟨hF, hS⟩ hm
      generalize hφ1 : stK (poker_Showdown_1_L1 rec_poker_Showdown_1 table1 p21 p31 p71) nn1 (fun x => (poker_Showdown_1_K1 x).bind some) = φ1 at hm
      unfold poker_Showdown_1_L1 at hm
      dsimp only at hF hS hm
      refine seq_cut (fun a w => Fr 67 [pl 1 (.slice A1 table1.length c1), pl 7 (.pointer (some ⟨g6, 0, none⟩)), pl 8 (.pointer (some ⟨g7, 0, none⟩)), pl 15 (.int .i64 c9)] a ∧ Sep w0 B w (blk g6 22 #[.slice A4 p71.length c4] :: own 3 (.slice A4 p71.length c4) (vI p71) :: blk g7 157 #[.func (.func 113) #[] #[.pointer (some ⟨g1, 0, none⟩), .pointer (some ⟨g2, 0, none⟩), .pointer (some ⟨g3, 0, none⟩), .pointer (some ⟨g4, 0, none⟩), .pointer (some ⟨g5, 0, none⟩), .pointer (some ⟨g6, 0, none⟩), .pointer (some ⟨g7, 0, none⟩)]] :: blk g1 22 #[.slice A2 p21.length c2] :: blk g2 22 #[.slice A3 p31.length c3] :: blk g3 3 #[.int .i64 z1] :: blk g4 3 #[.int .i64 z2] :: blk g5 3 #[.int .i64 z3] :: fs) ∧ ((poker_Showdown_1_J4 rec_poker_Showdown_1 table1 p21 p31 p71 z1 z2 z3 c9)).bind φ1 = some r) ?_ ?_
      · rintro a w ⟨hF, hS, hm⟩
        unfold poker_Showdown_1_J4 at hm
        refine seq_cut (fun a w => ∃ (z4 : Int) (z5 : Int) (z6 : Int), Fr 67 [pl 1 (.slice A1 table1.length c1), pl 7 (.pointer (some ⟨g6, 0, none⟩)), pl 8 (.pointer (some ⟨g7, 0, none⟩)), pl 15 (.int .i64 c9)] a ∧ Sep w0 B w (blk g6 22 #[.slice A4 p71.length c4] :: own 3 (.slice A4 p71.length c4) (vI p71) :: blk g7 157 #[.func (.func 113) #[] #[.pointer (some ⟨g1, 0, none⟩), .pointer (some ⟨g2, 0, none⟩), .pointer (some ⟨g3, 0, none⟩), .pointer (some ⟨g4, 0, none⟩), .pointer (some ⟨g5, 0, none⟩), .pointer (some ⟨g6, 0, none⟩), .pointer (some ⟨g7, 0, none⟩)]] :: blk g1 22 #[.slice A2 p21.length c2] :: blk g2 22 #[.slice A3 p31.length c3] :: blk g3 3 #[.int .i64 z4] :: blk g4 3 #[.int .i64 z5] :: blk g5 3 #[.int .i64 z6] :: fs) ∧ ((poker_Showdown_1_J5 c9) z4 z5 z6).bind φ1 = some r) ?_ ?_
        · rintro a w ⟨z4, z5, z6, hF, hS, hm⟩
          unfold poker_Showdown_1_J5 at hm
          refine reg1 [] [] [1, 7, 8, 15] [pl 1 (.slice A1 table1.length c1), pl 7 (.pointer (some ⟨g6, 0, none⟩)), pl 8 (.pointer (some ⟨g7, 0, none⟩)), pl 15 (.int .i64 (w64 (c9 + 1)))] hF hS Fol (by kernel_rfl) (by kernel_rfl) (by kernel_rfl) ?_ (fun a w hF hS => ?_)
          · exact obs_nil
          refine then_n ?_
          rw [← hφ1] at hm
          exact ⟨(z4, z5, z6, (w64 (c9 + 1))), ⟨hF.weak [1, 7, 8, 15] (by kernel_rfl), hS⟩, hm⟩
        · refine wpIn_block ?_
          obtain ⟨r5, hr5, hm⟩ := call_b hm
          refine reg [⟨false, [], vS (Instr.loadAt 22 (.pointer (some ⟨g6, 0, none⟩))), .slice A4 p71.length c4⟩, ⟨false, [], callFunc 96 #[.slice A4 p71.length c4, .int .i64 c9], .bool r5⟩] [some (.slice A4 p71.length c4), none, some (.bool r5), none] [1, 7, 8, 15, 57] [pl 1 (.slice A1 table1.length c1), pl 7 (.pointer (some ⟨g6, 0, none⟩)), pl 8 (.pointer (some ⟨g7, 0, none⟩)), pl 15 (.int .i64 c9), pl 57 (.bool (!r5))] hF hS Fol (by kernel_rfl) (by kernel_rfl) (by kernel_rfl) ?_ (fun a w hF hS => ?_)
          · exact obs_cons (ob_load Agg22 (fun _ _ hS => (hS.at_ 0 rfl).cell rfl)) <| obs_cons (ob_call Try.func96 (by kernel_rfl) rfl (fun _ _ hS => slices_Contains_w hr5 hS (fun _ hS => (hS.at_ 1 rfl).rd) ((hS.at_ 1 rfl).cap1) rfl)) <| obs_nil
          refine cond_ev (t := 57) (b := !r5) hF (by kernel_rfl) (fun hb => ?_) (fun hb => ?_)
          · replace hm := if_t hm hb
            obtain ⟨r6, hr6, hm⟩ := call_b hm
            obtain ⟨hp1, hm⟩ := asrt_b hm
            obtain ⟨r7, hr7, hm⟩ := call_b hm
            refine regMix5 [0, 1, 2, 3, 5] [8] 4 #[true, true, true, true, false, true, false, false, false] [⟨false, [], vS (Instr.loadAt 157 (.pointer (some ⟨g7, 0, none⟩))), .func (.func 113) #[] #[.pointer (some ⟨g1, 0, none⟩), .pointer (some ⟨g2, 0, none⟩), .pointer (some ⟨g3, 0, none⟩), .pointer (some ⟨g4, 0, none⟩), .pointer (some ⟨g5, 0, none⟩), .pointer (some ⟨g6, 0, none⟩), .pointer (some ⟨g7, 0, none⟩)]⟩] [some (.func (.func 113) #[] #[.pointer (some ⟨g1, 0, none⟩), .pointer (some ⟨g2, 0, none⟩), .pointer (some ⟨g3, 0, none⟩), .pointer (some ⟨g4, 0, none⟩), .pointer (some ⟨g5, 0, none⟩), .pointer (some ⟨g6, 0, none⟩), .pointer (some ⟨g7, 0, none⟩)]), none, none, none, none] [1, 7, 8, 15, 58, 60, 61, 63] [pl 1 (.slice A1 table1.length c1), pl 7 (.pointer (some ⟨g6, 0, none⟩)), pl 8 (.pointer (some ⟨g7, 0, none⟩)), pl 15 (.int .i64 c9), pl 58 (.func (.func 113) #[] #[.pointer (some ⟨g1, 0, none⟩), .pointer (some ⟨g2, 0, none⟩), .pointer (some ⟨g3, 0, none⟩), .pointer (some ⟨g4, 0, none⟩), .pointer (some ⟨g5, 0, none⟩), .pointer (some ⟨g6, 0, none⟩), .pointer (some ⟨g7, 0, none⟩)]), pl 60 (.int .i64 (w64 (c9 + 1))), pl 61 (.slice A1 table1.length c1), pl 63 (.int .i64 c9)] hF hS Fol (by kernel_rfl) (by kernel_rfl) (by kernel_rfl) (by kernel_rfl) ?_ (fun a w hF hS => ?_)
            · exact obs_cons (ob_load Agg157 (fun _ _ hS => (hS.at_ 2 rfl).cell rfl)) <| obs_nil
            refine any_step [4, 6] (by kernel_rfl) rfl ?_
            refine (all_cons ?_ (all_cons ?_ all_nil))
            · refine any_op (listed' := #[true, true, true, true, true, true, false, false, false]) (by kernel_rfl) (by kernel_rfl) ?_
              refine at_call (f := 81) (args := #[.slice A1 table1.length c1]) (d := 62) hF (by kernel_rfl) (by kernel_rfl) Try.func81 (by kernel_rfl) rfl (slices_Clone_w hr6 hS (fun _ hS => (hr_table1 _ (hS.dropN 8))) _hc_table1 rfl) (fun v a w hR hF => ?_)
              clear hS
              obtain ⟨A11, c12, rfl, hS⟩ := hR
              have hS : Sep w0 B w (own 3 (.slice A11 r6.length c12) (vI r6) :: blk g6 22 #[.slice A4 p71.length c4] :: own 3 (.slice A4 p71.length c4) (vI p71) :: blk g7 157 #[.func (.func 113) #[] #[.pointer (some ⟨g1, 0, none⟩), .pointer (some ⟨g2, 0, none⟩), .pointer (some ⟨g3, 0, none⟩), .pointer (some ⟨g4, 0, none⟩), .pointer (some ⟨g5, 0, none⟩), .pointer (some ⟨g6, 0, none⟩), .pointer (some ⟨g7, 0, none⟩)]] :: blk g1 22 #[.slice A2 p21.length c2] :: blk g2 22 #[.slice A3 p31.length c3] :: blk g3 3 #[.int .i64 z1] :: blk g4 3 #[.int .i64 z2] :: blk g5 3 #[.int .i64 z3] :: fs) := hS
              refine any_fin rfl (hS.pickN 9 [1, 2, 3, 4, 5, 6, 7, 8] (by decide)) ?_
              refine any_step [6] (by kernel_rfl) rfl ?_
              refine (all_cons ?_ all_nil)
              · refine any_op (listed' := #[true, true, true, true, true, true, true, false, false]) (by kernel_rfl) (by kernel_rfl) ?_
                refine at_do (d := 64) (s := vS (Instr.buildSlice 22 1 #[(0, .int .i64 c9)])) (v := .slice (some ⟨w.heap.size, 0, none⟩) 1 1) (w' := w.alloc (.cells #[.int .i64 c9] 3)) hF (by kernel_rfl) (by kernel_rfl) (by kernel_rfl) (fun a hF => ?_)
                have hS : Sep w0 B (w.alloc (.cells #[.int .i64 c9] 3)) (own 3 (.slice (some (⟨w.heap.size, 0, none⟩ : Addr)) 1 1) (vI ([c9] : List Int)) :: (own 3 (.slice A11 r6.length c12) (vI r6) :: blk g6 22 #[.slice A4 p71.length c4] :: own 3 (.slice A4 p71.length c4) (vI p71) :: blk g7 157 #[.func (.func 113) #[] #[.pointer (some ⟨g1, 0, none⟩), .pointer (some ⟨g2, 0, none⟩), .pointer (some ⟨g3, 0, none⟩), .pointer (some ⟨g4, 0, none⟩), .pointer (some ⟨g5, 0, none⟩), .pointer (some ⟨g6, 0, none⟩), .pointer (some ⟨g7, 0, none⟩)]] :: blk g1 22 #[.slice A2 p21.length c2] :: blk g2 22 #[.slice A3 p31.length c3] :: blk g3 3 #[.int .i64 z1] :: blk g4 3 #[.int .i64 z2] :: blk g5 3 #[.int .i64 z3] :: fs)) := hS.lit 3 #[.int .i64 c9] 1 rfl (by omega)
                generalize (some (⟨w.heap.size, 0, none⟩ : Addr)) = g10 at hF hS
                generalize w.alloc (.cells #[.int .i64 c9] 3) = w at hS ⊢
                refine any_fin rfl (hS.pickN 10 [2, 3, 4, 5, 6, 7, 8, 9] (by decide)) ?_
                refine any_step [7] (by kernel_rfl) rfl ?_
                refine (all_cons ?_ all_nil)
                · refine any_op (listed' := #[true, true, true, true, true, true, true, true, false]) (by kernel_rfl) (by kernel_rfl) ?_
                  obtain ⟨A10, c11, w, hrun, hS⟩ := run_app1 (P := Try.prog) (t := 22) (m := r6) (ys := ([c9] : List Int)) (A2 := g10) (m2 := 1) (c2 := 1) (Value.int .i64) (0 : Int) (hS.at_ 1 rfl) (hS.at_ 0 rfl).rd ((hS.at_ 0 rfl).len1) 22 Und22 hi3 hz3 hs3 (by omega) rfl (fun _ => rfl) hp1
                  have hS : Sep w0 B w (own 3 (.slice g10 1 1) (vI ([c9] : List Int)) :: own 3 (.slice A10 ((r6 ++ ([c9] : List Int)).length) c11) (vI (r6 ++ ([c9] : List Int))) :: blk g6 22 #[.slice A4 p71.length c4] :: own 3 (.slice A4 p71.length c4) (vI p71) :: blk g7 157 #[.func (.func 113) #[] #[.pointer (some ⟨g1, 0, none⟩), .pointer (some ⟨g2, 0, none⟩), .pointer (some ⟨g3, 0, none⟩), .pointer (some ⟨g4, 0, none⟩), .pointer (some ⟨g5, 0, none⟩), .pointer (some ⟨g6, 0, none⟩), .pointer (some ⟨g7, 0, none⟩)]] :: blk g1 22 #[.slice A2 p21.length c2] :: blk g2 22 #[.slice A3 p31.length c3] :: blk g3 3 #[.int .i64 z1] :: blk g4 3 #[.int .i64 z2] :: blk g5 3 #[.int .i64 z3] :: fs) := hS
                  refine at_do (d := 65) hF (by kernel_rfl) (by kernel_rfl) hrun (fun a hF => ?_)
                  refine any_fin rfl (hS.pickN 10 [2, 3, 4, 5, 6, 7, 8, 9] (by decide)) ?_
                  refine any_step [8] (by kernel_rfl) rfl ?_
                  refine (all_cons ?_ all_nil)
                  · refine any_op (listed' := #[true, true, true, true, true, true, true, true, true]) (by kernel_rfl) (by kernel_rfl) ?_
                    have hS : Sep w0 B w (blk g1 22 #[.slice A2 p21.length c2] :: blk g2 22 #[.slice A3 p31.length c3] :: blk g3 3 #[.int .i64 z1] :: blk g4 3 #[.int .i64 z2] :: blk g5 3 #[.int .i64 z3] :: blk g6 22 #[.slice A4 p71.length c4] :: own 3 (.slice A4 p71.length c4) (vI p71) :: blk g7 157 #[.func (.func 113) #[] #[.pointer (some ⟨g1, 0, none⟩), .pointer (some ⟨g2, 0, none⟩), .pointer (some ⟨g3, 0, none⟩), .pointer (some ⟨g4, 0, none⟩), .pointer (some ⟨g5, 0, none⟩), .pointer (some ⟨g6, 0, none⟩), .pointer (some ⟨g7, 0, none⟩)]] :: own 3 (.slice g10 1 1) (vI ([c9] : List Int)) :: own 3 (.slice A10 ((r6 ++ ([c9] : List Int)).length) c11) (vI (r6 ++ ([c9] : List Int))) :: fs) := hS.pickN 10 [5, 6, 7, 8, 9, 2, 3, 4, 0, 1] (by decide)
                    refine at_call (f := 113) (args := #[.int .i64 (w64 (c9 + 1)), .slice A10 ((r6 ++ ([c9] : List Int)).length) c11, .pointer (some ⟨g1, 0, none⟩), .pointer (some ⟨g2, 0, none⟩), .pointer (some ⟨g3, 0, none⟩), .pointer (some ⟨g4, 0, none⟩), .pointer (some ⟨g5, 0, none⟩), .pointer (some ⟨g6, 0, none⟩), .pointer (some ⟨g7, 0, none⟩)]) (d := 66) hF (by kernel_rfl) (by kernel_rfl) Try.func113 (by kernel_rfl) rfl (ih_poker_Showdown_1 hr7 hS (fun _ hS => (hS.at_ 1 rfl).rd) (((hS.dropN 8).at_ 1 rfl).cap1) rfl (fun _ hS => (hr_p21 _ (hS.dropN 2))) _hc_p21 rfl (fun _ hS => (hr_p31 _ (hS.dropN 2))) _hc_p31 rfl) (fun v a w hR hF => ?_)
                    clear hS
                    obtain ⟨rfl, hS⟩ := hR
                    have hS : Sep w0 B w (blk g1 22 #[.slice A2 p21.length c2] :: blk g2 22 #[.slice A3 p31.length c3] :: blk g3 3 #[.int .i64 r7.1] :: blk g4 3 #[.int .i64 r7.2.1] :: blk g5 3 #[.int .i64 r7.2.2] :: blk g6 22 #[.slice A4 p71.length c4] :: own 3 (.slice A4 p71.length c4) (vI p71) :: blk g7 157 #[.func (.func 113) #[] #[.pointer (some ⟨g1, 0, none⟩), .pointer (some ⟨g2, 0, none⟩), .pointer (some ⟨g3, 0, none⟩), .pointer (some ⟨g4, 0, none⟩), .pointer (some ⟨g5, 0, none⟩), .pointer (some ⟨g6, 0, none⟩), .pointer (some ⟨g7, 0, none⟩)]] :: own 3 (.slice g10 1 1) (vI ([c9] : List Int)) :: own 3 (.slice A10 ((r6 ++ ([c9] : List Int)).length) c11) (vI (r6 ++ ([c9] : List Int))) :: fs) := hS
                    refine any_finE rfl (by decide) ?_
                    refine any_end (by kernel_rfl) ?_
                    refine np_n ?_
                    refine block_n ?_
                    refine then_n ?_
                    have hS := hS.pickN 10 [5, 6, 7, 0, 1, 2, 3, 4] (by decide)
                    exact ⟨r7.1, r7.2.1, r7.2.2, hF.weak [1, 7, 8, 15] (by kernel_rfl), hS, hm⟩
            · refine any_op (listed' := #[true, true, true, true, false, true, true, false, false]) (by kernel_rfl) (by kernel_rfl) ?_
              refine at_do (d := 64) (s := vS (Instr.buildSlice 22 1 #[(0, .int .i64 c9)])) (v := .slice (some ⟨w.heap.size, 0, none⟩) 1 1) (w' := w.alloc (.cells #[.int .i64 c9] 3)) hF (by kernel_rfl) (by kernel_rfl) (by kernel_rfl) (fun a hF => ?_)
              have hS : Sep w0 B (w.alloc (.cells #[.int .i64 c9] 3)) (own 3 (.slice (some (⟨w.heap.size, 0, none⟩ : Addr)) 1 1) (vI ([c9] : List Int)) :: (blk g6 22 #[.slice A4 p71.length c4] :: own 3 (.slice A4 p71.length c4) (vI p71) :: blk g7 157 #[.func (.func 113) #[] #[.pointer (some ⟨g1, 0, none⟩), .pointer (some ⟨g2, 0, none⟩), .pointer (some ⟨g3, 0, none⟩), .pointer (some ⟨g4, 0, none⟩), .pointer (some ⟨g5, 0, none⟩), .pointer (some ⟨g6, 0, none⟩), .pointer (some ⟨g7, 0, none⟩)]] :: blk g1 22 #[.slice A2 p21.length c2] :: blk g2 22 #[.slice A3 p31.length c3] :: blk g3 3 #[.int .i64 z1] :: blk g4 3 #[.int .i64 z2] :: blk g5 3 #[.int .i64 z3] :: fs)) := hS.lit 3 #[.int .i64 c9] 1 rfl (by omega)
              generalize (some (⟨w.heap.size, 0, none⟩ : Addr)) = g10 at hF hS
              generalize w.alloc (.cells #[.int .i64 c9] 3) = w at hS ⊢
              refine any_fin rfl (hS.pickN 9 [1, 2, 3, 4, 5, 6, 7, 8] (by decide)) ?_
              refine any_step [4] (by kernel_rfl) rfl ?_
              refine (all_cons ?_ all_nil)
              · refine any_op (listed' := #[true, true, true, true, true, true, true, false, false]) (by kernel_rfl) (by kernel_rfl) ?_
                refine at_call (f := 81) (args := #[.slice A1 table1.length c1]) (d := 62) hF (by kernel_rfl) (by kernel_rfl) Try.func81 (by kernel_rfl) rfl (slices_Clone_w hr6 hS (fun _ hS => (hr_table1 _ (hS.dropN 9))) _hc_table1 rfl) (fun v a w hR hF => ?_)
                clear hS
                obtain ⟨A12, c13, rfl, hS⟩ := hR
                have hS : Sep w0 B w (own 3 (.slice A12 r6.length c13) (vI r6) :: own 3 (.slice g10 1 1) (vI ([c9] : List Int)) :: blk g6 22 #[.slice A4 p71.length c4] :: own 3 (.slice A4 p71.length c4) (vI p71) :: blk g7 157 #[.func (.func 113) #[] #[.pointer (some ⟨g1, 0, none⟩), .pointer (some ⟨g2, 0, none⟩), .pointer (some ⟨g3, 0, none⟩), .pointer (some ⟨g4, 0, none⟩), .pointer (some ⟨g5, 0, none⟩), .pointer (some ⟨g6, 0, none⟩), .pointer (some ⟨g7, 0, none⟩)]] :: blk g1 22 #[.slice A2 p21.length c2] :: blk g2 22 #[.slice A3 p31.length c3] :: blk g3 3 #[.int .i64 z1] :: blk g4 3 #[.int .i64 z2] :: blk g5 3 #[.int .i64 z3] :: fs) := hS
                refine any_fin rfl (hS.pickN 10 [2, 3, 4, 5, 6, 7, 8, 9] (by decide)) ?_
                refine any_step [7] (by kernel_rfl) rfl ?_
                refine (all_cons ?_ all_nil)
                · refine any_op (listed' := #[true, true, true, true, true, true, true, true, false]) (by kernel_rfl) (by kernel_rfl) ?_
                  obtain ⟨A10, c11, w, hrun, hS⟩ := run_app1 (P := Try.prog) (t := 22) (m := r6) (ys := ([c9] : List Int)) (A2 := g10) (m2 := 1) (c2 := 1) (Value.int .i64) (0 : Int) (hS.at_ 0 rfl) (hS.at_ 1 rfl).rd ((hS.at_ 1 rfl).len1) 22 Und22 hi3 hz3 hs3 (by omega) rfl (fun _ => rfl) hp1
                  have hS : Sep w0 B w (own 3 (.slice A10 ((r6 ++ ([c9] : List Int)).length) c11) (vI (r6 ++ ([c9] : List Int))) :: own 3 (.slice g10 1 1) (vI ([c9] : List Int)) :: blk g6 22 #[.slice A4 p71.length c4] :: own 3 (.slice A4 p71.length c4) (vI p71) :: blk g7 157 #[.func (.func 113) #[] #[.pointer (some ⟨g1, 0, none⟩), .pointer (some ⟨g2, 0, none⟩), .pointer (some ⟨g3, 0, none⟩), .pointer (some ⟨g4, 0, none⟩), .pointer (some ⟨g5, 0, none⟩), .pointer (some ⟨g6, 0, none⟩), .pointer (some ⟨g7, 0, none⟩)]] :: blk g1 22 #[.slice A2 p21.length c2] :: blk g2 22 #[.slice A3 p31.length c3] :: blk g3 3 #[.int .i64 z1] :: blk g4 3 #[.int .i64 z2] :: blk g5 3 #[.int .i64 z3] :: fs) := hS
                  refine at_do (d := 65) hF (by kernel_rfl) (by kernel_rfl) hrun (fun a hF => ?_)
                  refine any_fin rfl (hS.pickN 10 [2, 3, 4, 5, 6, 7, 8, 9] (by decide)) ?_
                  refine any_step [8] (by kernel_rfl) rfl ?_
                  refine (all_cons ?_ all_nil)
                  · refine any_op (listed' := #[true, true, true, true, true, true, true, true, true]) (by kernel_rfl) (by kernel_rfl) ?_
                    have hS : Sep w0 B w (blk g1 22 #[.slice A2 p21.length c2] :: blk g2 22 #[.slice A3 p31.length c3] :: blk g3 3 #[.int .i64 z1] :: blk g4 3 #[.int .i64 z2] :: blk g5 3 #[.int .i64 z3] :: blk g6 22 #[.slice A4 p71.length c4] :: own 3 (.slice A4 p71.length c4) (vI p71) :: blk g7 157 #[.func (.func 113) #[] #[.pointer (some ⟨g1, 0, none⟩), .pointer (some ⟨g2, 0, none⟩), .pointer (some ⟨g3, 0, none⟩), .pointer (some ⟨g4, 0, none⟩), .pointer (some ⟨g5, 0, none⟩), .pointer (some ⟨g6, 0, none⟩), .pointer (some ⟨g7, 0, none⟩)]] :: own 3 (.slice A10 ((r6 ++ ([c9] : List Int)).length) c11) (vI (r6 ++ ([c9] : List Int))) :: own 3 (.slice g10 1 1) (vI ([c9] : List Int)) :: fs) := hS.pickN 10 [5, 6, 7, 8, 9, 2, 3, 4, 0, 1] (by decide)
                    refine at_call (f := 113) (args := #[.int .i64 (w64 (c9 + 1)), .slice A10 ((r6 ++ ([c9] : List Int)).length) c11, .pointer (some ⟨g1, 0, none⟩), .pointer (some ⟨g2, 0, none⟩), .pointer (some ⟨g3, 0, none⟩), .pointer (some ⟨g4, 0, none⟩), .pointer (some ⟨g5, 0, none⟩), .pointer (some ⟨g6, 0, none⟩), .pointer (some ⟨g7, 0, none⟩)]) (d := 66) hF (by kernel_rfl) (by kernel_rfl) Try.func113 (by kernel_rfl) rfl (ih_poker_Showdown_1 hr7 hS (fun _ hS => (hS.at_ 0 rfl).rd) (((hS.dropN 8).at_ 0 rfl).cap1) rfl (fun _ hS => (hr_p21 _ (hS.dropN 2))) _hc_p21 rfl (fun _ hS => (hr_p31 _ (hS.dropN 2))) _hc_p31 rfl) (fun v a w hR hF => ?_)
                    clear hS
                    obtain ⟨rfl, hS⟩ := hR
                    have hS : Sep w0 B w (blk g1 22 #[.slice A2 p21.length c2] :: blk g2 22 #[.slice A3 p31.length c3] :: blk g3 3 #[.int .i64 r7.1] :: blk g4 3 #[.int .i64 r7.2.1] :: blk g5 3 #[.int .i64 r7.2.2] :: blk g6 22 #[.slice A4 p71.length c4] :: own 3 (.slice A4 p71.length c4) (vI p71) :: blk g7 157 #[.func (.func 113) #[] #[.pointer (some ⟨g1, 0, none⟩), .pointer (some ⟨g2, 0, none⟩), .pointer (some ⟨g3, 0, none⟩), .pointer (some ⟨g4, 0, none⟩), .pointer (some ⟨g5, 0, none⟩), .pointer (some ⟨g6, 0, none⟩), .pointer (some ⟨g7, 0, none⟩)]] :: own 3 (.slice A10 ((r6 ++ ([c9] : List Int)).length) c11) (vI (r6 ++ ([c9] : List Int))) :: own 3 (.slice g10 1 1) (vI ([c9] : List Int)) :: fs) := hS
                    refine any_finE rfl (by decide) ?_
                    refine any_end (by kernel_rfl) ?_
                    refine np_n ?_
                    refine block_n ?_
                    refine then_n ?_
                    have hS := hS.pickN 10 [5, 6, 7, 0, 1, 2, 3, 4] (by decide)
                    exact ⟨r7.1, r7.2.1, r7.2.2, hF.weak [1, 7, 8, 15] (by kernel_rfl), hS, hm⟩
          · replace hm := if_f hm hb
            refine wpIn_skip ?_
            refine block_n ?_
            refine then_n ?_
            exact ⟨z1, z2, z3, hF.weak [1, 7, 8, 15] (by kernel_rfl), hS, hm⟩
      · refine reg [] [] [1, 7, 8, 15, 51] [pl 1 (.slice A1 table1.length c1), pl 7 (.pointer (some ⟨g6, 0, none⟩)), pl 8 (.pointer (some ⟨g7, 0, none⟩)), pl 15 (.int .i64 c9), pl 51 (.bool (decide (c9 < 52)))] hF hS Fol (by kernel_rfl) (by kernel_rfl) (by kernel_rfl) ?_ (fun a w hF hS => ?_)
        · exact obs_nil
        refine cond_ev (t := 51) (b := decide (c9 < 52)) hF (by kernel_rfl) (fun hb => ?_) (fun hb => ?_)
        · replace hm := if_t hm hb
          refine wpIn_skip ?_
          refine then_n ?_
          exact ⟨hF.weak [1, 7, 8, 15] (by kernel_rfl), hS, hm⟩
        · replace hm := if_f hm hb
          refine wpIn_exit ?_
          refine then_e (then_e (block_e (then_n ?_)))
          have hS := hS.pickN 8 [3, 4, 5, 6, 7, 0, 1, 2] (by decide)
          rw [← hφ1] at hm
          replace hm := done_b hm
          unfold poker_Showdown_1_K1 at hm
          try dsimp only at hm
          have hm : (poker_Showdown_1_J1 z1 z2 z3).bind some = some r := hm
          exact ⟨z1, z2, z3, hF.weak [] (by kernel_rfl), hS, hm⟩
    · refine reg [] [] [0, 1, 2, 3, 4, 5, 6, 7, 8, 18] [pl 0 (.int .i64 from1), pl 1 (.slice A1 table1.length c1), pl 2 (.pointer (some ⟨g1, 0, none⟩)), pl 3 (.pointer (some ⟨g2, 0, none⟩)), pl 4 (.pointer (some ⟨g3, 0, none⟩)), pl 5 (.pointer (some ⟨g4, 0, none⟩)), pl 6 (.pointer (some ⟨g5, 0, none⟩)), pl 7 (.pointer (some ⟨g6, 0, none⟩)), pl 8 (.pointer (some ⟨g7, 0, none⟩)), pl 18 (.bool ((table1.length : Int) == 5))] hF hS Fol (by kernel_rfl) (by kernel_rfl) (by kernel_rfl) ?_ (fun a w hF hS => ?_)
      · exact obs_nil
      refine cond_ev (t := 18) (b := ((table1.length : Int) == 5)) hF (by kernel_rfl) (fun hb => ?_) (fun hb => ?_)
      · replace hm := if_t hm hb
        refine seqR ?_
        obtain ⟨r1, hr1, hm⟩ := call_b hm
        obtain ⟨r2, hr2, hm⟩ := call_b hm
        refine at_run 2 [⟨false, [], vS (Instr.loadAt 22 (.pointer (some ⟨g1, 0, none⟩))), .slice A2 p21.length c2⟩] [some (.slice A2 p21.length c2), none] [1, 3, 4, 5, 6, 20, 21] [pl 1 (.slice A1 table1.length c1), pl 3 (.pointer (some ⟨g2, 0, none⟩)), pl 4 (.pointer (some ⟨g3, 0, none⟩)), pl 5 (.pointer (some ⟨g4, 0, none⟩)), pl 6 (.pointer (some ⟨g5, 0, none⟩)), pl 20 (.slice A2 p21.length c2), pl 21 (.slice A1 table1.length c1)] hF hS (by kernel_rfl) (by kernel_rfl) ?_ (fun a w hF hS => ?_)
        · exact obs_cons (ob_load Agg22 (fun _ _ hS => (hS.at_ 0 rfl).cell rfl)) <| obs_nil
        refine at_do (d := 22) (s := vS (Instr.buildSlice 42 2 #[(0, .slice A2 p21.length c2), (1, .slice A1 table1.length c1)])) (v := .slice (some ⟨w.heap.size, 0, none⟩) 2 2) (w' := w.alloc (.cells #[.slice A2 p21.length c2, .slice A1 table1.length c1] 22)) hF (by kernel_rfl) (by kernel_rfl) (by kernel_rfl) (fun a hF => ?_)
        have hS : Sep w0 B (w.alloc (.cells #[.slice A2 p21.length c2, .slice A1 table1.length c1] 22)) (own 22 (.slice (some (⟨w.heap.size, 0, none⟩ : Addr)) 2 2) [.slice A2 p21.length c2, .slice A1 table1.length c1] :: (blk g1 22 #[.slice A2 p21.length c2] :: blk g2 22 #[.slice A3 p31.length c3] :: blk g3 3 #[.int .i64 p41] :: blk g4 3 #[.int .i64 p51] :: blk g5 3 #[.int .i64 p61] :: blk g6 22 #[.slice A4 p71.length c4] :: own 3 (.slice A4 p71.length c4) (vI p71) :: blk g7 157 #[.func (.func 113) #[] #[.pointer (some ⟨g1, 0, none⟩), .pointer (some ⟨g2, 0, none⟩), .pointer (some ⟨g3, 0, none⟩), .pointer (some ⟨g4, 0, none⟩), .pointer (some ⟨g5, 0, none⟩), .pointer (some ⟨g6, 0, none⟩), .pointer (some ⟨g7, 0, none⟩)]] :: fs)) := hS.lit 22 #[.slice A2 p21.length c2, .slice A1 table1.length c1] 2 rfl (by omega)
        generalize (some (⟨w.heap.size, 0, none⟩ : Addr)) = g8 at hF hS
        generalize w.alloc (.cells #[.slice A2 p21.length c2, .slice A1 table1.length c1] 22) = w at hS ⊢
        refine at_call (f := 104) (args := #[.slice g8 2 2]) (d := 23) hF (by kernel_rfl) (by kernel_rfl) Try.func104 (by kernel_rfl) rfl (slices_Concat_w hr1 hS (fun _ hS => (rdLit (hd := ([(A2, c2), (A1, c1)] : List Hd)) (m := ([p21, table1] : List (List Int))) hS 0 rfl ⟨⟨(hr_p21 _ (hS.dropN 9)), _hc_p21⟩, ⟨(hr_table1 _ (hS.dropN 9)), _hc_table1⟩, trivial⟩)) (Nat.le_refl _) rfl) (fun v a w hR hF => ?_)
        clear hS
        obtain ⟨A5, c5, rfl, hS⟩ := hR
        have hS : Sep w0 B w (own 3 (.slice A5 r1.length c5) (vI r1) :: own 22 (.slice g8 2 2) [.slice A2 p21.length c2, .slice A1 table1.length c1] :: blk g1 22 #[.slice A2 p21.length c2] :: blk g2 22 #[.slice A3 p31.length c3] :: blk g3 3 #[.int .i64 p41] :: blk g4 3 #[.int .i64 p51] :: blk g5 3 #[.int .i64 p61] :: blk g6 22 #[.slice A4 p71.length c4] :: own 3 (.slice A4 p71.length c4) (vI p71) :: blk g7 157 #[.func (.func 113) #[] #[.pointer (some ⟨g1, 0, none⟩), .pointer (some ⟨g2, 0, none⟩), .pointer (some ⟨g3, 0, none⟩), .pointer (some ⟨g4, 0, none⟩), .pointer (some ⟨g5, 0, none⟩), .pointer (some ⟨g6, 0, none⟩), .pointer (some ⟨g7, 0, none⟩)]] :: fs) := hS
        refine at_call (f := 114) (args := #[.slice A5 r1.length c5]) (d := 24) hF (by kernel_rfl) (by kernel_rfl) Try.func114 (by kernel_rfl) rfl (poker_best_w hr2 hS (fun _ hS => (hS.at_ 0 rfl).rd) ((hS.at_ 0 rfl).cap1) rfl) (fun v a w hR hF => ?_)
        clear hS
        obtain ⟨A6, c6, rfl, hS⟩ := hR
        have hS : Sep w0 B w (own 3 (.slice A6 r2.2.length c6) (vI r2.2) :: own 3 (.slice A5 r1.length c5) (vI r1) :: own 22 (.slice g8 2 2) [.slice A2 p21.length c2, .slice A1 table1.length c1] :: blk g1 22 #[.slice A2 p21.length c2] :: blk g2 22 #[.slice A3 p31.length c3] :: blk g3 3 #[.int .i64 p41] :: blk g4 3 #[.int .i64 p51] :: blk g5 3 #[.int .i64 p61] :: blk g6 22 #[.slice A4 p71.length c4] :: own 3 (.slice A4 p71.length c4) (vI p71) :: blk g7 157 #[.func (.func 113) #[] #[.pointer (some ⟨g1, 0, none⟩), .pointer (some ⟨g2, 0, none⟩), .pointer (some ⟨g3, 0, none⟩), .pointer (some ⟨g4, 0, none⟩), .pointer (some ⟨g5, 0, none⟩), .pointer (some ⟨g6, 0, none⟩), .pointer (some ⟨g7, 0, none⟩)]] :: fs) := hS
        refine at_run 5 [] [] [1, 3, 4, 5, 6, 11] [pl 1 (.slice A1 table1.length c1), pl 3 (.pointer (some ⟨g2, 0, none⟩)), pl 4 (.pointer (some ⟨g3, 0, none⟩)), pl 5 (.pointer (some ⟨g4, 0, none⟩)), pl 6 (.pointer (some ⟨g5, 0, none⟩)), pl 11 (.int .i64 r2.1)] hF hS (by kernel_rfl) (by kernel_rfl) ?_ (fun a w hF hS => ?_)
        · exact obs_nil
        refine at_end [1, 3, 4, 5, 6, 11] [pl 1 (.slice A1 table1.length c1), pl 3 (.pointer (some ⟨g2, 0, none⟩)), pl 4 (.pointer (some ⟨g3, 0, none⟩)), pl 5 (.pointer (some ⟨g4, 0, none⟩)), pl 6 (.pointer (some ⟨g5, 0, none⟩)), pl 11 (.int .i64 r2.1)] hF rfl (by kernel_rfl) (fun hF => ?_)
        refine then_n ?_
        refine seqR ?_
        obtain ⟨r3, hr3, hm⟩ := call_b hm
        obtain ⟨r4, hr4, hm⟩ := call_b hm
        refine at_run 2 [⟨false, [], vS (Instr.loadAt 22 (.pointer (some ⟨g2, 0, none⟩))), .slice A3 p31.length c3⟩] [some (.slice A3 p31.length c3), none] [4, 5, 6, 11, 28, 29] [pl 4 (.pointer (some ⟨g3, 0, none⟩)), pl 5 (.pointer (some ⟨g4, 0, none⟩)), pl 6 (.pointer (some ⟨g5, 0, none⟩)), pl 11 (.int .i64 r2.1), pl 28 (.slice A3 p31.length c3), pl 29 (.slice A1 table1.length c1)] hF hS (by kernel_rfl) (by kernel_rfl) ?_ (fun a w hF hS => ?_)
        · exact obs_cons (ob_load Agg22 (fun _ _ hS => (hS.at_ 4 rfl).cell rfl)) <| obs_nil
        refine at_do (d := 30) (s := vS (Instr.buildSlice 42 2 #[(0, .slice A3 p31.length c3), (1, .slice A1 table1.length c1)])) (v := .slice (some ⟨w.heap.size, 0, none⟩) 2 2) (w' := w.alloc (.cells #[.slice A3 p31.length c3, .slice A1 table1.length c1] 22)) hF (by kernel_rfl) (by kernel_rfl) (by kernel_rfl) (fun a hF => ?_)
        have hS : Sep w0 B (w.alloc (.cells #[.slice A3 p31.length c3, .slice A1 table1.length c1] 22)) (own 22 (.slice (some (⟨w.heap.size, 0, none⟩ : Addr)) 2 2) [.slice A3 p31.length c3, .slice A1 table1.length c1] :: (own 3 (.slice A6 r2.2.length c6) (vI r2.2) :: own 3 (.slice A5 r1.length c5) (vI r1) :: own 22 (.slice g8 2 2) [.slice A2 p21.length c2, .slice A1 table1.length c1] :: blk g1 22 #[.slice A2 p21.length c2] :: blk g2 22 #[.slice A3 p31.length c3] :: blk g3 3 #[.int .i64 p41] :: blk g4 3 #[.int .i64 p51] :: blk g5 3 #[.int .i64 p61] :: blk g6 22 #[.slice A4 p71.length c4] :: own 3 (.slice A4 p71.length c4) (vI p71) :: blk g7 157 #[.func (.func 113) #[] #[.pointer (some ⟨g1, 0, none⟩), .pointer (some ⟨g2, 0, none⟩), .pointer (some ⟨g3, 0, none⟩), .pointer (some ⟨g4, 0, none⟩), .pointer (some ⟨g5, 0, none⟩), .pointer (some ⟨g6, 0, none⟩), .pointer (some ⟨g7, 0, none⟩)]] :: fs)) := hS.lit 22 #[.slice A3 p31.length c3, .slice A1 table1.length c1] 2 rfl (by omega)
        generalize (some (⟨w.heap.size, 0, none⟩ : Addr)) = g9 at hF hS
        generalize w.alloc (.cells #[.slice A3 p31.length c3, .slice A1 table1.length c1] 22) = w at hS ⊢
        refine at_call (f := 104) (args := #[.slice g9 2 2]) (d := 31) hF (by kernel_rfl) (by kernel_rfl) Try.func104 (by kernel_rfl) rfl (slices_Concat_w hr3 hS (fun _ hS => (rdLit (hd := ([(A3, c3), (A1, c1)] : List Hd)) (m := ([p31, table1] : List (List Int))) hS 0 rfl ⟨⟨(hr_p31 _ (hS.dropN 12)), _hc_p31⟩, ⟨(hr_table1 _ (hS.dropN 12)), _hc_table1⟩, trivial⟩)) (Nat.le_refl _) rfl) (fun v a w hR hF => ?_)
        clear hS
        obtain ⟨A7, c7, rfl, hS⟩ := hR
        have hS : Sep w0 B w (own 3 (.slice A7 r3.length c7) (vI r3) :: own 22 (.slice g9 2 2) [.slice A3 p31.length c3, .slice A1 table1.length c1] :: own 3 (.slice A6 r2.2.length c6) (vI r2.2) :: own 3 (.slice A5 r1.length c5) (vI r1) :: own 22 (.slice g8 2 2) [.slice A2 p21.length c2, .slice A1 table1.length c1] :: blk g1 22 #[.slice A2 p21.length c2] :: blk g2 22 #[.slice A3 p31.length c3] :: blk g3 3 #[.int .i64 p41] :: blk g4 3 #[.int .i64 p51] :: blk g5 3 #[.int .i64 p61] :: blk g6 22 #[.slice A4 p71.length c4] :: own 3 (.slice A4 p71.length c4) (vI p71) :: blk g7 157 #[.func (.func 113) #[] #[.pointer (some ⟨g1, 0, none⟩), .pointer (some ⟨g2, 0, none⟩), .pointer (some ⟨g3, 0, none⟩), .pointer (some ⟨g4, 0, none⟩), .pointer (some ⟨g5, 0, none⟩), .pointer (some ⟨g6, 0, none⟩), .pointer (some ⟨g7, 0, none⟩)]] :: fs) := hS
        refine at_call (f := 114) (args := #[.slice A7 r3.length c7]) (d := 32) hF (by kernel_rfl) (by kernel_rfl) Try.func114 (by kernel_rfl) rfl (poker_best_w hr4 hS (fun _ hS => (hS.at_ 0 rfl).rd) ((hS.at_ 0 rfl).cap1) rfl) (fun v a w hR hF => ?_)
        clear hS
        obtain ⟨A8, c8, rfl, hS⟩ := hR
        have hS : Sep w0 B w (own 3 (.slice A8 r4.2.length c8) (vI r4.2) :: own 3 (.slice A7 r3.length c7) (vI r3) :: own 22 (.slice g9 2 2) [.slice A3 p31.length c3, .slice A1 table1.length c1] :: own 3 (.slice A6 r2.2.length c6) (vI r2.2) :: own 3 (.slice A5 r1.length c5) (vI r1) :: own 22 (.slice g8 2 2) [.slice A2 p21.length c2, .slice A1 table1.length c1] :: blk g1 22 #[.slice A2 p21.length c2] :: blk g2 22 #[.slice A3 p31.length c3] :: blk g3 3 #[.int .i64 p41] :: blk g4 3 #[.int .i64 p51] :: blk g5 3 #[.int .i64 p61] :: blk g6 22 #[.slice A4 p71.length c4] :: own 3 (.slice A4 p71.length c4) (vI p71) :: blk g7 157 #[.func (.func 113) #[] #[.pointer (some ⟨g1, 0, none⟩), .pointer (some ⟨g2, 0, none⟩), .pointer (some ⟨g3, 0, none⟩), .pointer (some ⟨g4, 0, none⟩), .pointer (some ⟨g5, 0, none⟩), .pointer (some ⟨g6, 0, none⟩), .pointer (some ⟨g7, 0, none⟩)]] :: fs) := hS
        refine at_run 5 [] [] [4, 5, 6, 11, 13] [pl 4 (.pointer (some ⟨g3, 0, none⟩)), pl 5 (.pointer (some ⟨g4, 0, none⟩)), pl 6 (.pointer (some ⟨g5, 0, none⟩)), pl 11 (.int .i64 r2.1), pl 13 (.int .i64 r4.1)] hF hS (by kernel_rfl) (by kernel_rfl) ?_ (fun a w hF hS => ?_)
        · exact obs_nil
        refine at_end [4, 5, 6, 11, 13] [pl 4 (.pointer (some ⟨g3, 0, none⟩)), pl 5 (.pointer (some ⟨g4, 0, none⟩)), pl 6 (.pointer (some ⟨g5, 0, none⟩)), pl 11 (.int .i64 r2.1), pl 13 (.int .i64 r4.1)] hF rfl (by kernel_rfl) (fun hF => ?_)
        refine then_n ?_
        refine seqR ?_
        refine at_run 2 [⟨false, [], vS (Instr.loadAt 3 (.pointer (some ⟨g3, 0, none⟩))), .int .i64 p41⟩] [some (.int .i64 p41), none] [4, 5, 6, 11, 13, 36] [pl 4 (.pointer (some ⟨g3, 0, none⟩)), pl 5 (.pointer (some ⟨g4, 0, none⟩)), pl 6 (.pointer (some ⟨g5, 0, none⟩)), pl 11 (.int .i64 r2.1), pl 13 (.int .i64 r4.1), pl 36 (.int .i64 (w64 (p41 + 1)))] hF hS (by kernel_rfl) (by kernel_rfl) ?_ (fun a w hF hS => ?_)
        · exact obs_cons (ob_load Agg3 (fun _ _ hS => (hS.at_ 8 rfl).cell rfl)) <| obs_nil
        obtain ⟨w, hrun, hS⟩ := run_put (P := Try.prog) (t := 3) (u := .int .i64 (w64 (p41 + 1))) (i := 0) (hS.at_ 8 rfl) hi3 hs3 rfl (Nat.lt_of_lt_of_eq (Nat.lt_of_succ_le (Nat.le_of_ble_eq_true (by kernel_rfl))) rfl)
        refine at_skip hF (by kernel_rfl) hrun ?_
        have hS : Sep w0 B w (own 3 (.slice A8 r4.2.length c8) (vI r4.2) :: own 3 (.slice A7 r3.length c7) (vI r3) :: own 22 (.slice g9 2 2) [.slice A3 p31.length c3, .slice A1 table1.length c1] :: own 3 (.slice A6 r2.2.length c6) (vI r2.2) :: own 3 (.slice A5 r1.length c5) (vI r1) :: own 22 (.slice g8 2 2) [.slice A2 p21.length c2, .slice A1 table1.length c1] :: blk g1 22 #[.slice A2 p21.length c2] :: blk g2 22 #[.slice A3 p31.length c3] :: blk g3 3 #[.int .i64 (w64 (p41 + 1))] :: blk g4 3 #[.int .i64 p51] :: blk g5 3 #[.int .i64 p61] :: blk g6 22 #[.slice A4 p71.length c4] :: own 3 (.slice A4 p71.length c4) (vI p71) :: blk g7 157 #[.func (.func 113) #[] #[.pointer (some ⟨g1, 0, none⟩), .pointer (some ⟨g2, 0, none⟩), .pointer (some ⟨g3, 0, none⟩), .pointer (some ⟨g4, 0, none⟩), .pointer (some ⟨g5, 0, none⟩), .pointer (some ⟨g6, 0, none⟩), .pointer (some ⟨g7, 0, none⟩)]] :: fs) := hS
        refine at_end [5, 6, 11, 13] [pl 5 (.pointer (some ⟨g4, 0, none⟩)), pl 6 (.pointer (some ⟨g5, 0, none⟩)), pl 11 (.int .i64 r2.1), pl 13 (.int .i64 r4.1)] hF rfl (by kernel_rfl) (fun hF => ?_)
        refine then_n ?_
        refine seq_cut (fun a w => ∃ (p53 : Int) (p63 : Int), Fr 67 [] a ∧ Sep w0 B w (blk g1 22 #[.slice A2 p21.length c2] :: blk g2 22 #[.slice A3 p31.length c3] :: blk g3 3 #[.int .i64 (w64 (p41 + 1))] :: blk g4 3 #[.int .i64 p53] :: blk g5 3 #[.int .i64 p63] :: blk g6 22 #[.slice A4 p71.length c4] :: own 3 (.slice A4 p71.length c4) (vI p71) :: blk g7 157 #[.func (.func 113) #[] #[.pointer (some ⟨g1, 0, none⟩), .pointer (some ⟨g2, 0, none⟩), .pointer (some ⟨g3, 0, none⟩), .pointer (some ⟨g4, 0, none⟩), .pointer (some ⟨g5, 0, none⟩), .pointer (some ⟨g6, 0, none⟩), .pointer (some ⟨g7, 0, none⟩)]] :: fs) ∧ ((poker_Showdown_1_J3 p41) p53 p63).bind some = some r) ?_ ?_
        · rintro a w ⟨p53, p63, hF, hS, hm⟩
          unfold poker_Showdown_1_J3 at hm
          refine wpIn_ret ?_
          refine then_r (then_r ?_)
          have hm : some ((w64 (p41 + 1)), p53, p63) = some r := hm
          obtain rfl := Option.some.inj hm
          exact retV (rs := []) (vs := []) hF rfl (rv_nil) rfl ⟨_, rfl, rfl, hS⟩
        · refine wpIn_block ?_
          refine reg [] [] [5, 6, 11, 13, 37] [pl 5 (.pointer (some ⟨g4, 0, none⟩)), pl 6 (.pointer (some ⟨g5, 0, none⟩)), pl 11 (.int .i64 r2.1), pl 13 (.int .i64 r4.1), pl 37 (.bool (decide (r4.1 < r2.1)))] hF hS Fol (by kernel_rfl) (by kernel_rfl) (by kernel_rfl) ?_ (fun a w hF hS => ?_)
          · exact obs_nil
          refine cond_ev (t := 37) (b := decide (r4.1 < r2.1)) hF (by kernel_rfl) (fun hb => ?_) (fun hb => ?_)
          · replace hm := if_t hm hb
            refine oneR ?_
            refine at_run 2 [⟨false, [], vS (Instr.loadAt 3 (.pointer (some ⟨g4, 0, none⟩))), .int .i64 p51⟩] [some (.int .i64 p51), none] [5, 42] [pl 5 (.pointer (some ⟨g4, 0, none⟩)), pl 42 (.int .i64 (w64 (p51 + 1)))] hF hS (by kernel_rfl) (by kernel_rfl) ?_ (fun a w hF hS => ?_)
            · exact obs_cons (ob_load Agg3 (fun _ _ hS => (hS.at_ 9 rfl).cell rfl)) <| obs_nil
            obtain ⟨w, hrun, hS⟩ := run_put (P := Try.prog) (t := 3) (u := .int .i64 (w64 (p51 + 1))) (i := 0) (hS.at_ 9 rfl) hi3 hs3 rfl (Nat.lt_of_lt_of_eq (Nat.lt_of_succ_le (Nat.le_of_ble_eq_true (by kernel_rfl))) rfl)
            refine at_skip hF (by kernel_rfl) hrun ?_
            have hS : Sep w0 B w (own 3 (.slice A8 r4.2.length c8) (vI r4.2) :: own 3 (.slice A7 r3.length c7) (vI r3) :: own 22 (.slice g9 2 2) [.slice A3 p31.length c3, .slice A1 table1.length c1] :: own 3 (.slice A6 r2.2.length c6) (vI r2.2) :: own 3 (.slice A5 r1.length c5) (vI r1) :: own 22 (.slice g8 2 2) [.slice A2 p21.length c2, .slice A1 table1.length c1] :: blk g1 22 #[.slice A2 p21.length c2] :: blk g2 22 #[.slice A3 p31.length c3] :: blk g3 3 #[.int .i64 (w64 (p41 + 1))] :: blk g4 3 #[.int .i64 (w64 (p51 + 1))] :: blk g5 3 #[.int .i64 p61] :: blk g6 22 #[.slice A4 p71.length c4] :: own 3 (.slice A4 p71.length c4) (vI p71) :: blk g7 157 #[.func (.func 113) #[] #[.pointer (some ⟨g1, 0, none⟩), .pointer (some ⟨g2, 0, none⟩), .pointer (some ⟨g3, 0, none⟩), .pointer (some ⟨g4, 0, none⟩), .pointer (some ⟨g5, 0, none⟩), .pointer (some ⟨g6, 0, none⟩), .pointer (some ⟨g7, 0, none⟩)]] :: fs) := hS
            refine at_end [] [] hF rfl (by kernel_rfl) (fun hF => ?_)
            refine block_n ?_
            refine then_n ?_
            have hS := hS.pickN 14 [6, 7, 8, 9, 10, 11, 12, 13] (by decide)
            exact ⟨(w64 (p51 + 1)), p61, hF.weak [] (by kernel_rfl), hS, hm⟩
          · replace hm := if_f hm hb
            refine reg [] [] [6, 43] [pl 6 (.pointer (some ⟨g5, 0, none⟩)), pl 43 (.bool (r2.1 == r4.1))] hF hS Fol (by kernel_rfl) (by kernel_rfl) (by kernel_rfl) ?_ (fun a w hF hS => ?_)
            · exact obs_nil
            refine cond_ev (t := 43) (b := (r2.1 == r4.1)) hF (by kernel_rfl) (fun hb => ?_) (fun hb => ?_)
            · replace hm := if_t hm hb
              refine oneR ?_
              refine at_run 2 [⟨false, [], vS (Instr.loadAt 3 (.pointer (some ⟨g5, 0, none⟩))), .int .i64 p61⟩] [some (.int .i64 p61), none] [6, 48] [pl 6 (.pointer (some ⟨g5, 0, none⟩)), pl 48 (.int .i64 (w64 (p61 + 1)))] hF hS (by kernel_rfl) (by kernel_rfl) ?_ (fun a w hF hS => ?_)
              · exact obs_cons (ob_load Agg3 (fun _ _ hS => (hS.at_ 10 rfl).cell rfl)) <| obs_nil
              obtain ⟨w, hrun, hS⟩ := run_put (P := Try.prog) (t := 3) (u := .int .i64 (w64 (p61 + 1))) (i := 0) (hS.at_ 10 rfl) hi3 hs3 rfl (Nat.lt_of_lt_of_eq (Nat.lt_of_succ_le (Nat.le_of_ble_eq_true (by kernel_rfl))) rfl)
              refine at_skip hF (by kernel_rfl) hrun ?_
              have hS : Sep w0 B w (own 3 (.slice A8 r4.2.length c8) (vI r4.2) :: own 3 (.slice A7 r3.length c7) (vI r3) :: own 22 (.slice g9 2 2) [.slice A3 p31.length c3, .slice A1 table1.length c1] :: own 3 (.slice A6 r2.2.length c6) (vI r2.2) :: own 3 (.slice A5 r1.length c5) (vI r1) :: own 22 (.slice g8 2 2) [.slice A2 p21.length c2, .slice A1 table1.length c1] :: blk g1 22 #[.slice A2 p21.length c2] :: blk g2 22 #[.slice A3 p31.length c3] :: blk g3 3 #[.int .i64 (w64 (p41 + 1))] :: blk g4 3 #[.int .i64 p51] :: blk g5 3 #[.int .i64 (w64 (p61 + 1))] :: blk g6 22 #[.slice A4 p71.length c4] :: own 3 (.slice A4 p71.length c4) (vI p71) :: blk g7 157 #[.func (.func 113) #[] #[.pointer (some ⟨g1, 0, none⟩), .pointer (some ⟨g2, 0, none⟩), .pointer (some ⟨g3, 0, none⟩), .pointer (some ⟨g4, 0, none⟩), .pointer (some ⟨g5, 0, none⟩), .pointer (some ⟨g6, 0, none⟩), .pointer (some ⟨g7, 0, none⟩)]] :: fs) := hS
              refine at_end [] [] hF rfl (by kernel_rfl) (fun hF => ?_)
              refine block_n ?_
              refine then_n ?_
              have hS := hS.pickN 14 [6, 7, 8, 9, 10, 11, 12, 13] (by decide)
              exact ⟨p51, (w64 (p61 + 1)), hF.weak [] (by kernel_rfl), hS, hm⟩
            · replace hm := if_f hm hb
              refine wpIn_skip ?_
              refine block_n ?_
              refine then_n ?_
              have hS := hS.pickN 14 [6, 7, 8, 9, 10, 11, 12, 13] (by decide)
              exact ⟨p51, p61, hF.weak [] (by kernel_rfl), hS, hm⟩
      · replace hm := if_f hm hb
        refine wpIn_skip ?_
        refine then_n ?_
        have hS := hS.pickN 8 [5, 6, 7, 0, 1, 2, 3, 4] (by decide)
        exact ⟨hF.weak [0, 1, 7, 8] (by kernel_rfl), hS, hm⟩

theorem poker_Showdown_1_w  {from1 : Int} {A1 : Option Addr} {c1 : Nat} {n1 : Nat} {table1 : List Int} {g1 : Nat} {A2 : Option Addr} {c2 : Nat} {n2 : Nat} {p21 : List Int} {g2 : Nat} {A3 : Option Addr} {c3 : Nat} {n3 : Nat} {p31 : List Int} {g3 : Nat} {p41 : Int} {g4 : Nat} {p51 : Int} {g5 : Nat} {p61 : Int} {g6 : Nat} {A4 : Option Addr} {c4 : Nat} {n4 : Nat} {p71 : List Int} {g7 : Nat} {r : (Int × Int × Int)} {w0 w : World} {B : Nat} {fs : List HP} (hm : poker_Showdown_1_m from1 table1 p21 p31 p41 p51 p61 p71 = some r) (hS : Sep w0 B w (blk g1 22 #[.slice A2 n2 c2] :: blk g2 22 #[.slice A3 n3 c3] :: blk g3 3 #[.int .i64 p41] :: blk g4 3 #[.int .i64 p51] :: blk g5 3 #[.int .i64 p61] :: blk g6 22 #[.slice A4 n4 c4] :: own 3 (.slice A4 n4 c4) (vI p71) :: blk g7 157 #[.func (.func 113) #[] #[.pointer (some ⟨g1, 0, none⟩), .pointer (some ⟨g2, 0, none⟩), .pointer (some ⟨g3, 0, none⟩), .pointer (some ⟨g4, 0, none⟩), .pointer (some ⟨g5, 0, none⟩), .pointer (some ⟨g6, 0, none⟩), .pointer (some ⟨g7, 0, none⟩)]] :: fs)) (hr_table1 : RdF w0 B fs A1 (vI table1)) (_hc_table1 : table1.length ≤ c1) (_hn_table1 : n1 = table1.length) (hr_p21 : RdF w0 B fs A2 (vI p21)) (_hc_p21 : p21.length ≤ c2) (_hn_p21 : n2 = p21.length) (hr_p31 : RdF w0 B fs A3 (vI p31)) (_hc_p31 : p31.length ≤ c3) (_hn_p31 : n3 = p31.length) :
    Calls Try.prog 113 #[.int .i64 from1, .slice A1 n1 c1, .pointer (some ⟨g1, 0, none⟩), .pointer (some ⟨g2, 0, none⟩), .pointer (some ⟨g3, 0, none⟩), .pointer (some ⟨g4, 0, none⟩), .pointer (some ⟨g5, 0, none⟩), .pointer (some ⟨g6, 0, none⟩), .pointer (some ⟨g7, 0, none⟩)] w fun e w' => ∃ v, e = .returned v ∧ v = .tuple #[] ∧ Sep w0 B w' (blk g1 22 #[.slice A2 n2 c2] :: blk g2 22 #[.slice A3 n3 c3] :: blk g3 3 #[.int .i64 r.1] :: blk g4 3 #[.int .i64 r.2.1] :: blk g5 3 #[.int .i64 r.2.2] :: blk g6 22 #[.slice A4 n4 c4] :: own 3 (.slice A4 n4 c4) (vI p71) :: blk g7 157 #[.func (.func 113) #[] #[.pointer (some ⟨g1, 0, none⟩), .pointer (some ⟨g2, 0, none⟩), .pointer (some ⟨g3, 0, none⟩), .pointer (some ⟨g4, 0, none⟩), .pointer (some ⟨g5, 0, none⟩), .pointer (some ⟨g6, 0, none⟩), .pointer (some ⟨g7, 0, none⟩)]] :: fs) := by
  have key : ∀ (n : Nat) {from1 : Int} {A1 : Option Addr} {c1 : Nat} {n1 : Nat} {table1 : List Int} {g1 : Nat} {A2 : Option Addr} {c2 : Nat} {n2 : Nat} {p21 : List Int} {g2 : Nat} {A3 : Option Addr} {c3 : Nat} {n3 : Nat} {p31 : List Int} {g3 : Nat} {p41 : Int} {g4 : Nat} {p51 : Int} {g5 : Nat} {p61 : Int} {g6 : Nat} {A4 : Option Addr} {c4 : Nat} {n4 : Nat} {p71 : List Int} {g7 : Nat} {r : (Int × Int × Int)} {w0 w : World} {B : Nat} {fs : List HP} (_ : poker_Showdown_1_mF n from1 table1 p21 p31 p41 p51 p61 p71 = some r) (_ : Sep w0 B w (blk g1 22 #[.slice A2 n2 c2] :: blk g2 22 #[.slice A3 n3 c3] :: blk g3 3 #[.int .i64 p41] :: blk g4 3 #[.int .i64 p51] :: blk g5 3 #[.int .i64 p61] :: blk g6 22 #[.slice A4 n4 c4] :: own 3 (.slice A4 n4 c4) (vI p71) :: blk g7 157 #[.func (.func 113) #[] #[.pointer (some ⟨g1, 0, none⟩), .pointer (some ⟨g2, 0, none⟩), .pointer (some ⟨g3, 0, none⟩), .pointer (some ⟨g4, 0, none⟩), .pointer (some ⟨g5, 0, none⟩), .pointer (some ⟨g6, 0, none⟩), .pointer (some ⟨g7, 0, none⟩)]] :: fs)) (hr_table1 : RdF w0 B fs A1 (vI table1)) (_hc_table1 : table1.length ≤ c1) (_hn_table1 : n1 = table1.length) (hr_p21 : RdF w0 B fs A2 (vI p21)) (_hc_p21 : p21.length ≤ c2) (_hn_p21 : n2 = p21.length) (hr_p31 : RdF w0 B fs A3 (vI p31)) (_hc_p31 : p31.length ≤ c3) (_hn_p31 : n3 = p31.length), Calls Try.prog 113 #[.int .i64 from1, .slice A1 n1 c1, .pointer (some ⟨g1, 0, none⟩), .pointer (some ⟨g2, 0, none⟩), .pointer (some ⟨g3, 0, none⟩), .pointer (some ⟨g4, 0, none⟩), .pointer (some ⟨g5, 0, none⟩), .pointer (some ⟨g6, 0, none⟩), .pointer (some ⟨g7, 0, none⟩)] w fun e w' => ∃ v, e = .returned v ∧ v = .tuple #[] ∧ Sep w0 B w' (blk g1 22 #[.slice A2 n2 c2] :: blk g2 22 #[.slice A3 n3 c3] :: blk g3 3 #[.int .i64 r.1] :: blk g4 3 #[.int .i64 r.2.1] :: blk g5 3 #[.int .i64 r.2.2] :: blk g6 22 #[.slice A4 n4 c4] :: own 3 (.slice A4 n4 c4) (vI p71) :: blk g7 157 #[.func (.func 113) #[] #[.pointer (some ⟨g1, 0, none⟩), .pointer (some ⟨g2, 0, none⟩), .pointer (some ⟨g3, 0, none⟩), .pointer (some ⟨g4, 0, none⟩), .pointer (some ⟨g5, 0, none⟩), .pointer (some ⟨g6, 0, none⟩), .pointer (some ⟨g7, 0, none⟩)]] :: fs) := by
    intro n
    induction n with
    | zero => intros; rename_i hm0 _ _ _ _ _ _ _ _ _ _; cases hm0
    | succ n ih => intros; rename_i hm0 hS0 h0 h1 h2 h3 h4 h5 h6 h7 h8; exact poker_Showdown_1_wB (rec_poker_Showdown_1 := poker_Showdown_1_mF n) (fun hm hS h0 h1 h2 h3 h4 h5 h6 h7 h8 => ih hm hS h0 h1 h2 h3 h4 h5 h6 h7 h8) hm0 hS0 h0 h1 h2 h3 h4 h5 h6 h7 h8
  obtain ⟨n, hn⟩ := recM_some hm
  exact key n hn hS hr_table1 _hc_table1 _hn_table1 hr_p21 _hc_p21 _hn_p21 hr_p31 _hc_p31 _hn_p31

set_option maxRecDepth 100000 in
theorem poker_Showdown_1_J4_le_poker_Showdown_1 {rec_poker_Showdown_11 rec_poker_Showdown_12 : Int → List Int → List Int → List Int → Int → Int → Int → List Int → Option (Int × Int × Int)} (h_rec_poker_Showdown_1 : ∀ a0 a1 a2 a3 a4 a5 a6 a7, Le (rec_poker_Showdown_11 a0 a1 a2 a3 a4 a5 a6 a7) (rec_poker_Showdown_12 a0 a1 a2 a3 a4 a5 a6 a7)) (table1 : List Int) (p21 : List Int) (p31 : List Int) (p71 : List Int) (z1 : Int) (z2 : Int) (z3 : Int) (c9 : Int) : Le (poker_Showdown_1_J4 rec_poker_Showdown_11 table1 p21 p31 p71 z1 z2 z3 c9) (poker_Showdown_1_J4 rec_poker_Showdown_12 table1 p21 p31 p71 z1 z2 z3 c9) := by
  unfold poker_Showdown_1_J4
  repeat' (first | with_reducible exact Le.refl _ | with_reducible exact h_rec_poker_Showdown_1 _ _ _ _ _ _ _ _ | with_reducible refine Le.asrt ?_ | with_reducible refine Le.ite ?_ ?_ | refine Le.bind ?_ (fun _ => ?_) | refine Le.loop2 (fun _ => ?_) | refine Le.elim2 (fun _ => ?_) (fun _ => ?_))

set_option maxRecDepth 100000 in
theorem poker_Showdown_1_L1_le_poker_Showdown_1 {rec_poker_Showdown_11 rec_poker_Showdown_12 : Int → List Int → List Int → List Int → Int → Int → Int → List Int → Option (Int × Int × Int)} (h_rec_poker_Showdown_1 : ∀ a0 a1 a2 a3 a4 a5 a6 a7, Le (rec_poker_Showdown_11 a0 a1 a2 a3 a4 a5 a6 a7) (rec_poker_Showdown_12 a0 a1 a2 a3 a4 a5 a6 a7)) (table1 : List Int) (p21 : List Int) (p31 : List Int) (p71 : List Int) (x : (Int × Int × Int × Int)) : Le (poker_Showdown_1_L1 rec_poker_Showdown_11 table1 p21 p31 p71 x) (poker_Showdown_1_L1 rec_poker_Showdown_12 table1 p21 p31 p71 x) := by
  rcases x with ⟨z1, z2, z3, c9⟩
  all_goals
    unfold poker_Showdown_1_L1
    try dsimp only
    repeat' (first | with_reducible exact Le.refl _ | with_reducible exact h_rec_poker_Showdown_1 _ _ _ _ _ _ _ _ | with_reducible exact poker_Showdown_1_J4_le_poker_Showdown_1 h_rec_poker_Showdown_1 _ _ _ _ _ _ _ _ | with_reducible refine Le.asrt ?_ | with_reducible refine Le.ite ?_ ?_ | refine Le.bind ?_ (fun _ => ?_) | refine Le.loop2 (fun _ => ?_) | refine Le.elim2 (fun _ => ?_) (fun _ => ?_))

set_option maxRecDepth 100000 in
theorem poker_Showdown_1_J2_le_poker_Showdown_1 {rec_poker_Showdown_11 rec_poker_Showdown_12 : Int → List Int → List Int → List Int → Int → Int → Int → List Int → Option (Int × Int × Int)} (h_rec_poker_Showdown_1 : ∀ a0 a1 a2 a3 a4 a5 a6 a7, Le (rec_poker_Showdown_11 a0 a1 a2 a3 a4 a5 a6 a7) (rec_poker_Showdown_12 a0 a1 a2 a3 a4 a5 a6 a7)) (from1 : Int) (table1 : List Int) (p21 : List Int) (p31 : List Int) (p41 : Int) (p51 : Int) (p61 : Int) (p71 : List Int) : Le (poker_Showdown_1_J2 rec_poker_Showdown_11 from1 table1 p21 p31 p41 p51 p61 p71) (poker_Showdown_1_J2 rec_poker_Showdown_12 from1 table1 p21 p31 p41 p51 p61 p71) := by
  unfold poker_Showdown_1_J2
  repeat' (first | with_reducible exact Le.refl _ | with_reducible exact h_rec_poker_Showdown_1 _ _ _ _ _ _ _ _ | with_reducible exact poker_Showdown_1_L1_le_poker_Showdown_1 h_rec_poker_Showdown_1 _ _ _ _ _ | with_reducible refine Le.asrt ?_ | with_reducible refine Le.ite ?_ ?_ | refine Le.bind ?_ (fun _ => ?_) | refine Le.loop2 (fun _ => ?_) | refine Le.elim2 (fun _ => ?_) (fun _ => ?_))

set_option maxRecDepth 100000 in
theorem poker_Showdown_1_B_le {rec_poker_Showdown_11 rec_poker_Showdown_12 : Int → List Int → List Int → List Int → Int → Int → Int → List Int → Option (Int × Int × Int)} (h_rec_poker_Showdown_1 : ∀ a0 a1 a2 a3 a4 a5 a6 a7, Le (rec_poker_Showdown_11 a0 a1 a2 a3 a4 a5 a6 a7) (rec_poker_Showdown_12 a0 a1 a2 a3 a4 a5 a6 a7)) (from1 : Int) (table1 : List Int) (p21 : List Int) (p31 : List Int) (p41 : Int) (p51 : Int) (p61 : Int) (p71 : List Int) : Le (poker_Showdown_1_B rec_poker_Showdown_11 from1 table1 p21 p31 p41 p51 p61 p71) (poker_Showdown_1_B rec_poker_Showdown_12 from1 table1 p21 p31 p41 p51 p61 p71) := by
  unfold poker_Showdown_1_B
  repeat' (first | with_reducible exact Le.refl _ | with_reducible exact h_rec_poker_Showdown_1 _ _ _ _ _ _ _ _ | with_reducible exact poker_Showdown_1_J2_le_poker_Showdown_1 h_rec_poker_Showdown_1 _ _ _ _ _ _ _ _ | with_reducible refine Le.asrt ?_ | with_reducible refine Le.ite ?_ ?_ | refine Le.bind ?_ (fun _ => ?_) | refine Le.loop2 (fun _ => ?_) | refine Le.elim2 (fun _ => ?_) (fun _ => ?_))

set_option maxRecDepth 100000 in
theorem poker_Showdown_1_mF_le : ∀ (n : Nat) (from1 : Int) (table1 : List Int) (p21 : List Int) (p31 : List Int) (p41 : Int) (p51 : Int) (p61 : Int) (p71 : List Int), Le (poker_Showdown_1_mF n from1 table1 p21 p31 p41 p51 p61 p71) (poker_Showdown_1_mF (n + 1) from1 table1 p21 p31 p41 p51 p61 p71)
  | 0, _, _, _, _, _, _, _, _ => fun _ h => by cases h
  | n + 1, _, _, _, _, _, _, _, _ => poker_Showdown_1_B_le (fun a0 a1 a2 a3 a4 a5 a6 a7 => poker_Showdown_1_mF_le n a0 a1 a2 a3 a4 a5 a6 a7) _ _ _ _ _ _ _ _

set_option maxRecDepth 100000 in
theorem poker_Showdown_1_m_of (N : Nat) (from1 : Int) (table1 : List Int) (p21 : List Int) (p31 : List Int) (p41 : Int) (p51 : Int) (p61 : Int) (p71 : List Int) {r : (Int × Int × Int)} (h : poker_Showdown_1_mF N from1 table1 p21 p31 p41 p51 p61 p71 = some r) : poker_Showdown_1_m from1 table1 p21 p31 p41 p51 p61 p71 = some r :=
  recM_mono (fun n => poker_Showdown_1_mF_le n _ _ _ _ _ _ _ _) h

noncomputable def poker_Showdown_J3  (r3 : (Int × Int × Int)) : Option (Int × Int × Int × Int) :=
  some (r3.2.1, r3.2.2, r3.1, 0)

noncomputable def poker_Showdown_J2  (a1 : List Int) (b1 : List Int) (board1 : List Int) (r1 : (List Int)) : Option (Int × Int × Int × Int) :=
  (poker_Showdown_1_m 0 board1 a1 b1 0 0 0 r1).bind fun r3 => (poker_Showdown_J3 r3)

noncomputable def poker_Showdown_J1  (a1 : List Int) (b1 : List Int) (board1 : List Int) : Option (Int × Int × Int × Int) :=
  (slices_Concat_m ([a1, b1, board1] : List (List Int))).bind fun r1 => (poker_check_m r1).bind fun r2 => if (r2 != 0) then (some (0, 0, 0, r2)) else ((poker_Showdown_J2 a1 b1 board1 r1))

noncomputable def poker_Showdown_m  (a1 : List Int) (b1 : List Int) (board1 : List Int) : Option (Int × Int × Int × Int) :=
  if (((((a1.length : Int) != 2) || ((b1.length : Int) != 2)) || (decide ((board1.length : Int) < 3))) || (decide ((5 : Int) < (board1.length : Int)))) then (some (0, 0, 0, 11)) else ((poker_Showdown_J1 a1 b1 board1))

set_option maxRecDepth 100000 in
set_option maxHeartbeats 4000000 in
theorem poker_Showdown_w  {A1 : Option Addr} {c1 : Nat} {n1 : Nat} {a1 : List Int} {A2 : Option Addr} {c2 : Nat} {n2 : Nat} {b1 : List Int} {A3 : Option Addr} {c3 : Nat} {n3 : Nat} {board1 : List Int} {r : (Int × Int × Int × Int)} {w0 w : World} {B : Nat} {fs : List HP} (hm : poker_Showdown_m a1 b1 board1 = some r) (hS : Sep w0 B w (fs)) (hr_a1 : RdF w0 B fs A1 (vI a1)) (_hc_a1 : a1.length ≤ c1) (_hn_a1 : n1 = a1.length) (hr_b1 : RdF w0 B fs A2 (vI b1)) (_hc_b1 : b1.length ≤ c2) (_hn_b1 : n2 = b1.length) (hr_board1 : RdF w0 B fs A3 (vI board1)) (_hc_board1 : board1.length ≤ c3) (_hn_board1 : n3 = board1.length) :
    Calls Try.prog 38 #[.slice A1 n1 c1, .slice A2 n2 c2, .slice A3 n3 c3] w fun e w' => e = .returned (.tuple #[.int .i64 r.1, .int .i64 r.2.1, .int .i64 r.2.2.1, .int .i64 r.2.2.2]) ∧ Sep w0 B w' (fs) := by
  obtain ⟨i3, hi3, hz3, hs3, hb3⟩ := info_parts Info3
  obtain ⟨i22, hi22, hz22, hs22, hb22⟩ := info_parts Info22
  obtain ⟨i157, hi157, hz157, hs157, hb157⟩ := info_parts Info157
  obtain rfl := _hn_a1
  obtain rfl := _hn_b1
  obtain rfl := _hn_board1
  unfold poker_Showdown_m at hm
  replace hm := start_b hm
  refine enter (l := [.slice A1 a1.length c1, .slice A2 b1.length c2, .slice A3 board1.length c3]) (n := 48) Try.func38 rfl rfl (by simp) (fun a hF => ?_)
  refine seqR ?_
  refine at_do (d := 3) (s := vS (Instr.box 22 (.slice A1 a1.length c1))) (v := .pointer (some ⟨w.heap.size, 0, none⟩)) (w' := w.alloc (.cells #[.slice A1 a1.length c1] 22)) hF (by kernel_rfl) (by kernel_rfl) (by kernel_rfl) (fun a hF => ?_)
  have hS : Sep w0 B (w.alloc (.cells #[.slice A1 a1.length c1] 22)) (blk w.heap.size 22 #[.slice A1 a1.length c1] :: (fs)) := hS.box 22 #[.slice A1 a1.length c1]
  generalize w.heap.size = g1 at hF hS
  generalize w.alloc (.cells #[.slice A1 a1.length c1] 22) = w at hS ⊢
  refine at_do (d := 4) (s := vS (Instr.box 22 (.slice A2 b1.length c2))) (v := .pointer (some ⟨w.heap.size, 0, none⟩)) (w' := w.alloc (.cells #[.slice A2 b1.length c2] 22)) hF (by kernel_rfl) (by kernel_rfl) (by kernel_rfl) (fun a hF => ?_)
  have hS : Sep w0 B (w.alloc (.cells #[.slice A2 b1.length c2] 22)) (blk w.heap.size 22 #[.slice A2 b1.length c2] :: (blk g1 22 #[.slice A1 a1.length c1] :: fs)) := hS.box 22 #[.slice A2 b1.length c2]
  generalize w.heap.size = g2 at hF hS
  generalize w.alloc (.cells #[.slice A2 b1.length c2] 22) = w at hS ⊢
  refine at_do (d := 6) (s := vS (Instr.alloc 3 true (.tuple #[]))) (v := .pointer (some ⟨w.heap.size, 0, none⟩)) (w' := w.alloc (.cells #[.int .i64 0] 3)) hF (by kernel_rfl) (by kernel_rfl) (by kernel_rfl) (fun a hF => ?_)
  have hS : Sep w0 B (w.alloc (.cells #[.int .i64 0] 3)) (blk w.heap.size 3 #[.int .i64 0] :: (blk g2 22 #[.slice A2 b1.length c2] :: blk g1 22 #[.slice A1 a1.length c1] :: fs)) := hS.box 3 #[.int .i64 0]
  generalize w.heap.size = g3 at hF hS
  generalize w.alloc (.cells #[.int .i64 0] 3) = w at hS ⊢
  refine at_do (d := 7) (s := vS (Instr.alloc 3 true (.tuple #[]))) (v := .pointer (some ⟨w.heap.size, 0, none⟩)) (w' := w.alloc (.cells #[.int .i64 0] 3)) hF (by kernel_rfl) (by kernel_rfl) (by kernel_rfl) (fun a hF => ?_)
  have hS : Sep w0 B (w.alloc (.cells #[.int .i64 0] 3)) (blk w.heap.size 3 #[.int .i64 0] :: (blk g3 3 #[.int .i64 0] :: blk g2 22 #[.slice A2 b1.length c2] :: blk g1 22 #[.slice A1 a1.length c1] :: fs)) := hS.box 3 #[.int .i64 0]
  generalize w.heap.size = g4 at hF hS
  generalize w.alloc (.cells #[.int .i64 0] 3) = w at hS ⊢
  refine at_do (d := 8) (s := vS (Instr.alloc 3 true (.tuple #[]))) (v := .pointer (some ⟨w.heap.size, 0, none⟩)) (w' := w.alloc (.cells #[.int .i64 0] 3)) hF (by kernel_rfl) (by kernel_rfl) (by kernel_rfl) (fun a hF => ?_)
  have hS : Sep w0 B (w.alloc (.cells #[.int .i64 0] 3)) (blk w.heap.size 3 #[.int .i64 0] :: (blk g4 3 #[.int .i64 0] :: blk g3 3 #[.int .i64 0] :: blk g2 22 #[.slice A2 b1.length c2] :: blk g1 22 #[.slice A1 a1.length c1] :: fs)) := hS.box 3 #[.int .i64 0]
  generalize w.heap.size = g5 at hF hS
  generalize w.alloc (.cells #[.int .i64 0] 3) = w at hS ⊢
  refine at_run 1 [] [] [2, 3, 4, 6, 7, 8] [pl 2 (.slice A3 board1.length c3), pl 3 (.pointer (some ⟨g1, 0, none⟩)), pl 4 (.pointer (some ⟨g2, 0, none⟩)), pl 6 (.pointer (some ⟨g3, 0, none⟩)), pl 7 (.pointer (some ⟨g4, 0, none⟩)), pl 8 (.pointer (some ⟨g5, 0, none⟩))] hF hS (by kernel_rfl) (by kernel_rfl) ?_ (fun a w hF hS => ?_)
  · exact obs_nil
  refine at_end [2, 3, 4, 6, 7, 8] [pl 2 (.slice A3 board1.length c3), pl 3 (.pointer (some ⟨g1, 0, none⟩)), pl 4 (.pointer (some ⟨g2, 0, none⟩)), pl 6 (.pointer (some ⟨g3, 0, none⟩)), pl 7 (.pointer (some ⟨g4, 0, none⟩)), pl 8 (.pointer (some ⟨g5, 0, none⟩))] hF rfl (by kernel_rfl) (fun hF => ?_)
  refine then_n ?_
  refine seq_cut (fun a w => Fr 48 [pl 2 (.slice A3 board1.length c3), pl 3 (.pointer (some ⟨g1, 0, none⟩)), pl 4 (.pointer (some ⟨g2, 0, none⟩)), pl 6 (.pointer (some ⟨g3, 0, none⟩)), pl 7 (.pointer (some ⟨g4, 0, none⟩)), pl 8 (.pointer (some ⟨g5, 0, none⟩))] a ∧ Sep w0 B w (blk g1 22 #[.slice A1 a1.length c1] :: blk g2 22 #[.slice A2 b1.length c2] :: blk g3 3 #[.int .i64 0] :: blk g4 3 #[.int .i64 0] :: blk g5 3 #[.int .i64 0] :: fs) ∧ ((poker_Showdown_J1 a1 b1 board1)).bind some = some r) ?_ ?_
  · rintro a w ⟨hF, hS, hm⟩
    unfold poker_Showdown_J1 at hm
    refine seqR ?_
    obtain ⟨r1, hr1, hm⟩ := call_b hm
    refine at_run 3 [⟨false, [], vS (Instr.loadAt 22 (.pointer (some ⟨g1, 0, none⟩))), .slice A1 a1.length c1⟩, ⟨false, [], vS (Instr.loadAt 22 (.pointer (some ⟨g2, 0, none⟩))), .slice A2 b1.length c2⟩] [some (.slice A1 a1.length c1), some (.slice A2 b1.length c2), none] [2, 3, 4, 6, 7, 8, 31, 32, 33] [pl 2 (.slice A3 board1.length c3), pl 3 (.pointer (some ⟨g1, 0, none⟩)), pl 4 (.pointer (some ⟨g2, 0, none⟩)), pl 6 (.pointer (some ⟨g3, 0, none⟩)), pl 7 (.pointer (some ⟨g4, 0, none⟩)), pl 8 (.pointer (some ⟨g5, 0, none⟩)), pl 31 (.slice A1 a1.length c1), pl 32 (.slice A2 b1.length c2), pl 33 (.slice A3 board1.length c3)] hF hS (by kernel_rfl) (by kernel_rfl) ?_ (fun a w hF hS => ?_)
    · exact obs_cons (ob_load Agg22 (fun _ _ hS => (hS.at_ 0 rfl).cell rfl)) <| obs_cons (ob_load Agg22 (fun _ _ hS => (hS.at_ 1 rfl).cell rfl)) <| obs_nil
    refine at_do (d := 34) (s := vS (Instr.buildSlice 42 3 #[(0, .slice A1 a1.length c1), (1, .slice A2 b1.length c2), (2, .slice A3 board1.length c3)])) (v := .slice (some ⟨w.heap.size, 0, none⟩) 3 3) (w' := w.alloc (.cells #[.slice A1 a1.length c1, .slice A2 b1.length c2, .slice A3 board1.length c3] 22)) hF (by kernel_rfl) (by kernel_rfl) (by kernel_rfl) (fun a hF => ?_)
    have hS : Sep w0 B (w.alloc (.cells #[.slice A1 a1.length c1, .slice A2 b1.length c2, .slice A3 board1.length c3] 22)) (own 22 (.slice (some (⟨w.heap.size, 0, none⟩ : Addr)) 3 3) [.slice A1 a1.length c1, .slice A2 b1.length c2, .slice A3 board1.length c3] :: (blk g1 22 #[.slice A1 a1.length c1] :: blk g2 22 #[.slice A2 b1.length c2] :: blk g3 3 #[.int .i64 0] :: blk g4 3 #[.int .i64 0] :: blk g5 3 #[.int .i64 0] :: fs)) := hS.lit 22 #[.slice A1 a1.length c1, .slice A2 b1.length c2, .slice A3 board1.length c3] 3 rfl (by omega)
    generalize (some (⟨w.heap.size, 0, none⟩ : Addr)) = g6 at hF hS
    generalize w.alloc (.cells #[.slice A1 a1.length c1, .slice A2 b1.length c2, .slice A3 board1.length c3] 22) = w at hS ⊢
    refine at_call (f := 104) (args := #[.slice g6 3 3]) (d := 35) hF (by kernel_rfl) (by kernel_rfl) Try.func104 (by kernel_rfl) rfl (slices_Concat_w hr1 hS (fun _ hS => (rdLit (hd := ([(A1, c1), (A2, c2), (A3, c3)] : List Hd)) (m := ([a1, b1, board1] : List (List Int))) hS 0 rfl ⟨⟨(hr_a1 _ (hS.dropN 6)), _hc_a1⟩, ⟨(hr_b1 _ (hS.dropN 6)), _hc_b1⟩, ⟨(hr_board1 _ (hS.dropN 6)), _hc_board1⟩, trivial⟩)) (Nat.le_refl _) rfl) (fun v a w hR hF => ?_)
    clear hS
    obtain ⟨A4, c4, rfl, hS⟩ := hR
    have hS : Sep w0 B w (own 3 (.slice A4 r1.length c4) (vI r1) :: own 22 (.slice g6 3 3) [.slice A1 a1.length c1, .slice A2 b1.length c2, .slice A3 board1.length c3] :: blk g1 22 #[.slice A1 a1.length c1] :: blk g2 22 #[.slice A2 b1.length c2] :: blk g3 3 #[.int .i64 0] :: blk g4 3 #[.int .i64 0] :: blk g5 3 #[.int .i64 0] :: fs) := hS
    refine at_do (d := 10) (s := vS (Instr.alloc 22 true (.tuple #[]))) (v := .pointer (some ⟨w.heap.size, 0, none⟩)) (w' := w.alloc (.cells #[.slice none 0 0] 22)) hF (by kernel_rfl) (by kernel_rfl) (by kernel_rfl) (fun a hF => ?_)
    have hS : Sep w0 B (w.alloc (.cells #[.slice none 0 0] 22)) (blk w.heap.size 22 #[.slice none 0 0] :: (own 3 (.slice A4 r1.length c4) (vI r1) :: own 22 (.slice g6 3 3) [.slice A1 a1.length c1, .slice A2 b1.length c2, .slice A3 board1.length c3] :: blk g1 22 #[.slice A1 a1.length c1] :: blk g2 22 #[.slice A2 b1.length c2] :: blk g3 3 #[.int .i64 0] :: blk g4 3 #[.int .i64 0] :: blk g5 3 #[.int .i64 0] :: fs)) := hS.box 22 #[.slice none 0 0]
    generalize w.heap.size = g7 at hF hS
    generalize w.alloc (.cells #[.slice none 0 0] 22) = w at hS ⊢
    obtain ⟨w, hrun, hS⟩ := run_put (P := Try.prog) (t := 22) (u := .slice A4 r1.length c4) (i := 0) (hS.at_ 0 rfl) hi22 hs22 rfl (Nat.lt_of_lt_of_eq (Nat.lt_of_succ_le (Nat.le_of_ble_eq_true (by kernel_rfl))) rfl)
    refine at_skip hF (by kernel_rfl) hrun ?_
    have hS : Sep w0 B w (blk g7 22 #[.slice A4 r1.length c4] :: own 3 (.slice A4 r1.length c4) (vI r1) :: own 22 (.slice g6 3 3) [.slice A1 a1.length c1, .slice A2 b1.length c2, .slice A3 board1.length c3] :: blk g1 22 #[.slice A1 a1.length c1] :: blk g2 22 #[.slice A2 b1.length c2] :: blk g3 3 #[.int .i64 0] :: blk g4 3 #[.int .i64 0] :: blk g5 3 #[.int .i64 0] :: fs) := hS
    refine at_end [2, 3, 4, 6, 7, 8, 10] [pl 2 (.slice A3 board1.length c3), pl 3 (.pointer (some ⟨g1, 0, none⟩)), pl 4 (.pointer (some ⟨g2, 0, none⟩)), pl 6 (.pointer (some ⟨g3, 0, none⟩)), pl 7 (.pointer (some ⟨g4, 0, none⟩)), pl 8 (.pointer (some ⟨g5, 0, none⟩)), pl 10 (.pointer (some ⟨g7, 0, none⟩))] hF rfl (by kernel_rfl) (fun hF => ?_)
    refine then_n ?_
    refine seq_cut (fun a w => Fr 48 [pl 2 (.slice A3 board1.length c3), pl 3 (.pointer (some ⟨g1, 0, none⟩)), pl 4 (.pointer (some ⟨g2, 0, none⟩)), pl 6 (.pointer (some ⟨g3, 0, none⟩)), pl 7 (.pointer (some ⟨g4, 0, none⟩)), pl 8 (.pointer (some ⟨g5, 0, none⟩)), pl 10 (.pointer (some ⟨g7, 0, none⟩))] a ∧ Sep w0 B w (blk g1 22 #[.slice A1 a1.length c1] :: blk g2 22 #[.slice A2 b1.length c2] :: blk g3 3 #[.int .i64 0] :: blk g4 3 #[.int .i64 0] :: blk g5 3 #[.int .i64 0] :: blk g7 22 #[.slice A4 r1.length c4] :: own 3 (.slice A4 r1.length c4) (vI r1) :: fs) ∧ ((poker_Showdown_J2 a1 b1 board1 r1)).bind some = some r) ?_ ?_
    · rintro a w ⟨hF, hS, hm⟩
      unfold poker_Showdown_J2 at hm
      refine seqR ?_
      refine at_do (d := 12) (s := vS (Instr.alloc 157 true (.tuple #[]))) (v := .pointer (some ⟨w.heap.size, 0, none⟩)) (w' := w.alloc (.cells #[.nilFunc] 157)) hF (by kernel_rfl) (by kernel_rfl) (by kernel_rfl) (fun a hF => ?_)
      have hS : Sep w0 B (w.alloc (.cells #[.nilFunc] 157)) (blk w.heap.size 157 #[.nilFunc] :: (blk g1 22 #[.slice A1 a1.length c1] :: blk g2 22 #[.slice A2 b1.length c2] :: blk g3 3 #[.int .i64 0] :: blk g4 3 #[.int .i64 0] :: blk g5 3 #[.int .i64 0] :: blk g7 22 #[.slice A4 r1.length c4] :: own 3 (.slice A4 r1.length c4) (vI r1) :: fs)) := hS.box 157 #[.nilFunc]
      generalize w.heap.size = g8 at hF hS
      generalize w.alloc (.cells #[.nilFunc] 157) = w at hS ⊢
      refine at_end [2, 3, 4, 6, 7, 8, 10, 12] [pl 2 (.slice A3 board1.length c3), pl 3 (.pointer (some ⟨g1, 0, none⟩)), pl 4 (.pointer (some ⟨g2, 0, none⟩)), pl 6 (.pointer (some ⟨g3, 0, none⟩)), pl 7 (.pointer (some ⟨g4, 0, none⟩)), pl 8 (.pointer (some ⟨g5, 0, none⟩)), pl 10 (.pointer (some ⟨g7, 0, none⟩)), pl 12 (.pointer (some ⟨g8, 0, none⟩))] hF rfl (by kernel_rfl) (fun hF => ?_)
      refine then_n ?_
      refine seqR ?_
      refine at_run 1 [] [] [2, 6, 7, 8, 12, 41] [pl 2 (.slice A3 board1.length c3), pl 6 (.pointer (some ⟨g3, 0, none⟩)), pl 7 (.pointer (some ⟨g4, 0, none⟩)), pl 8 (.pointer (some ⟨g5, 0, none⟩)), pl 12 (.pointer (some ⟨g8, 0, none⟩)), pl 41 (.func (.func 113) #[] #[.pointer (some ⟨g1, 0, none⟩), .pointer (some ⟨g2, 0, none⟩), .pointer (some ⟨g5, 0, none⟩), .pointer (some ⟨g3, 0, none⟩), .pointer (some ⟨g4, 0, none⟩), .pointer (some ⟨g7, 0, none⟩), .pointer (some ⟨g8, 0, none⟩)])] hF hS (by kernel_rfl) (by kernel_rfl) ?_ (fun a w hF hS => ?_)
      · exact obs_nil
      obtain ⟨w, hrun, hS⟩ := run_put (P := Try.prog) (t := 157) (u := .func (.func 113) #[] #[.pointer (some ⟨g1, 0, none⟩), .pointer (some ⟨g2, 0, none⟩), .pointer (some ⟨g5, 0, none⟩), .pointer (some ⟨g3, 0, none⟩), .pointer (some ⟨g4, 0, none⟩), .pointer (some ⟨g7, 0, none⟩), .pointer (some ⟨g8, 0, none⟩)]) (i := 0) (hS.at_ 0 rfl) hi157 hs157 rfl (Nat.lt_of_lt_of_eq (Nat.lt_of_succ_le (Nat.le_of_ble_eq_true (by kernel_rfl))) rfl)
      refine at_skip hF (by kernel_rfl) hrun ?_
      have hS : Sep w0 B w (blk g8 157 #[.func (.func 113) #[] #[.pointer (some ⟨g1, 0, none⟩), .pointer (some ⟨g2, 0, none⟩), .pointer (some ⟨g5, 0, none⟩), .pointer (some ⟨g3, 0, none⟩), .pointer (some ⟨g4, 0, none⟩), .pointer (some ⟨g7, 0, none⟩), .pointer (some ⟨g8, 0, none⟩)]] :: blk g1 22 #[.slice A1 a1.length c1] :: blk g2 22 #[.slice A2 b1.length c2] :: blk g3 3 #[.int .i64 0] :: blk g4 3 #[.int .i64 0] :: blk g5 3 #[.int .i64 0] :: blk g7 22 #[.slice A4 r1.length c4] :: own 3 (.slice A4 r1.length c4) (vI r1) :: fs) := hS
      refine at_end [2, 6, 7, 8, 12] [pl 2 (.slice A3 board1.length c3), pl 6 (.pointer (some ⟨g3, 0, none⟩)), pl 7 (.pointer (some ⟨g4, 0, none⟩)), pl 8 (.pointer (some ⟨g5, 0, none⟩)), pl 12 (.pointer (some ⟨g8, 0, none⟩))] hF rfl (by kernel_rfl) (fun hF => ?_)
      refine then_n ?_
      refine seqR ?_
      obtain ⟨r3, hr3, hm⟩ := call_b hm
      refine at_run 2 [⟨false, [], vS (Instr.loadAt 157 (.pointer (some ⟨g8, 0, none⟩))), .func (.func 113) #[] #[.pointer (some ⟨g1, 0, none⟩), .pointer (some ⟨g2, 0, none⟩), .pointer (some ⟨g5, 0, none⟩), .pointer (some ⟨g3, 0, none⟩), .pointer (some ⟨g4, 0, none⟩), .pointer (some ⟨g7, 0, none⟩), .pointer (some ⟨g8, 0, none⟩)]⟩] [some (.func (.func 113) #[] #[.pointer (some ⟨g1, 0, none⟩), .pointer (some ⟨g2, 0, none⟩), .pointer (some ⟨g5, 0, none⟩), .pointer (some ⟨g3, 0, none⟩), .pointer (some ⟨g4, 0, none⟩), .pointer (some ⟨g7, 0, none⟩), .pointer (some ⟨g8, 0, none⟩)]), none] [6, 7, 8, 42, 43] [pl 6 (.pointer (some ⟨g3, 0, none⟩)), pl 7 (.pointer (some ⟨g4, 0, none⟩)), pl 8 (.pointer (some ⟨g5, 0, none⟩)), pl 42 (.func (.func 113) #[] #[.pointer (some ⟨g1, 0, none⟩), .pointer (some ⟨g2, 0, none⟩), .pointer (some ⟨g5, 0, none⟩), .pointer (some ⟨g3, 0, none⟩), .pointer (some ⟨g4, 0, none⟩), .pointer (some ⟨g7, 0, none⟩), .pointer (some ⟨g8, 0, none⟩)]), pl 43 (.slice A3 board1.length c3)] hF hS (by kernel_rfl) (by kernel_rfl) ?_ (fun a w hF hS => ?_)
      · exact obs_cons (ob_load Agg157 (fun _ _ hS => (hS.at_ 0 rfl).cell rfl)) <| obs_nil
      have hS : Sep w0 B w (blk g1 22 #[.slice A1 a1.length c1] :: blk g2 22 #[.slice A2 b1.length c2] :: blk g5 3 #[.int .i64 0] :: blk g3 3 #[.int .i64 0] :: blk g4 3 #[.int .i64 0] :: blk g7 22 #[.slice A4 r1.length c4] :: own 3 (.slice A4 r1.length c4) (vI r1) :: blk g8 157 #[.func (.func 113) #[] #[.pointer (some ⟨g1, 0, none⟩), .pointer (some ⟨g2, 0, none⟩), .pointer (some ⟨g5, 0, none⟩), .pointer (some ⟨g3, 0, none⟩), .pointer (some ⟨g4, 0, none⟩), .pointer (some ⟨g7, 0, none⟩), .pointer (some ⟨g8, 0, none⟩)]] :: fs) := hS.pickN 8 [1, 2, 5, 3, 4, 6, 7, 0] (by decide)
      refine at_call (f := 113) (args := #[.int .i64 0, .slice A3 board1.length c3, .pointer (some ⟨g1, 0, none⟩), .pointer (some ⟨g2, 0, none⟩), .pointer (some ⟨g5, 0, none⟩), .pointer (some ⟨g3, 0, none⟩), .pointer (some ⟨g4, 0, none⟩), .pointer (some ⟨g7, 0, none⟩), .pointer (some ⟨g8, 0, none⟩)]) (d := 44) hF (by kernel_rfl) (by kernel_rfl) Try.func113 (by kernel_rfl) rfl (poker_Showdown_1_w hr3 hS (fun _ hS => (hr_board1 _ (hS.dropN 0))) _hc_board1 rfl (fun _ hS => (hr_a1 _ (hS.dropN 0))) _hc_a1 rfl (fun _ hS => (hr_b1 _ (hS.dropN 0))) _hc_b1 rfl) (fun v a w hR hF => ?_)
      clear hS
      obtain ⟨rfl, hS⟩ := hR
      have hS : Sep w0 B w (blk g1 22 #[.slice A1 a1.length c1] :: blk g2 22 #[.slice A2 b1.length c2] :: blk g5 3 #[.int .i64 r3.1] :: blk g3 3 #[.int .i64 r3.2.1] :: blk g4 3 #[.int .i64 r3.2.2] :: blk g7 22 #[.slice A4 r1.length c4] :: own 3 (.slice A4 r1.length c4) (vI r1) :: blk g8 157 #[.func (.func 113) #[] #[.pointer (some ⟨g1, 0, none⟩), .pointer (some ⟨g2, 0, none⟩), .pointer (some ⟨g5, 0, none⟩), .pointer (some ⟨g3, 0, none⟩), .pointer (some ⟨g4, 0, none⟩), .pointer (some ⟨g7, 0, none⟩), .pointer (some ⟨g8, 0, none⟩)]] :: fs) := hS
      refine at_end [6, 7, 8] [pl 6 (.pointer (some ⟨g3, 0, none⟩)), pl 7 (.pointer (some ⟨g4, 0, none⟩)), pl 8 (.pointer (some ⟨g5, 0, none⟩))] hF rfl (by kernel_rfl) (fun hF => ?_)
      refine then_n ?_
      refine seq_cut (fun a w => Fr 48 [pl 6 (.pointer (some ⟨g3, 0, none⟩)), pl 7 (.pointer (some ⟨g4, 0, none⟩)), pl 8 (.pointer (some ⟨g5, 0, none⟩)), pl 9 (.int .i64 0)] a ∧ Sep w0 B w (blk g3 3 #[.int .i64 r3.2.1] :: blk g4 3 #[.int .i64 r3.2.2] :: blk g5 3 #[.int .i64 r3.1] :: fs) ∧ ((poker_Showdown_J3 r3)).bind some = some r) ?_ ?_
      · rintro a w ⟨hF, hS, hm⟩
        unfold poker_Showdown_J3 at hm
        refine wpIn_ret ?_
        have hld0 := run_loadVar1 (P := Try.prog) (t := 3) Agg3 ((hS.at_ 0 rfl).cell (i := 0) rfl)
        have hld1 := run_loadVar1 (P := Try.prog) (t := 3) Agg3 ((hS.at_ 1 rfl).cell (i := 0) rfl)
        have hld2 := run_loadVar1 (P := Try.prog) (t := 3) Agg3 ((hS.at_ 2 rfl).cell (i := 0) rfl)
        have hS := hS.pickN 3 [] (by decide)
        have hm : some (r3.2.1, r3.2.2, r3.1, 0) = some r := hm
        obtain rfl := Option.some.inj hm
        exact retV (rs := [.cell 6 3, .cell 7 3, .cell 8 3, .tmp 9]) (vs := [.int .i64 r3.2.1, .int .i64 r3.2.2, .int .i64 r3.1, .int .i64 0]) hF rfl (rv_c (by kernel_rfl) hld0 <| rv_c (by kernel_rfl) hld1 <| rv_c (by kernel_rfl) hld2 <| rv_t (by kernel_rfl) <| rv_nil) rfl ⟨rfl, hS⟩
      · refine regMix5 [0] [] 6 #[true, false, false, false, false, false, false] [⟨false, [], vS (Instr.loadAt 3 (.pointer (some ⟨g3, 0, none⟩))), .int .i64 r3.2.1⟩] [some (.int .i64 r3.2.1)] [6, 7, 8, 45] [pl 6 (.pointer (some ⟨g3, 0, none⟩)), pl 7 (.pointer (some ⟨g4, 0, none⟩)), pl 8 (.pointer (some ⟨g5, 0, none⟩)), pl 45 (.int .i64 r3.2.1)] hF hS Fol (by kernel_rfl) (by kernel_rfl) (by kernel_rfl) (by kernel_rfl) ?_ (fun a w hF hS => ?_)
        · exact obs_cons (ob_load Agg3 (fun _ _ hS => (hS.at_ 3 rfl).cell rfl)) <| obs_nil
        refine any_step [1, 2, 3] (by kernel_rfl) rfl ?_
        refine (all_cons ?_ (all_cons ?_ (all_cons ?_ all_nil)))
        · refine any_op (listed' := #[true, true, false, false, false, false, false]) (by kernel_rfl) (by kernel_rfl) ?_
          refine at_runW 1 [⟨false, [], vS (Instr.loadAt 3 (.pointer (some ⟨g4, 0, none⟩))), .int .i64 r3.2.2⟩] [some (.int .i64 r3.2.2)] [6, 7, 8, 45, 46] [pl 6 (.pointer (some ⟨g3, 0, none⟩)), pl 7 (.pointer (some ⟨g4, 0, none⟩)), pl 8 (.pointer (some ⟨g5, 0, none⟩)), pl 45 (.int .i64 r3.2.1), pl 46 (.int .i64 r3.2.2)] hF hS (by kernel_rfl) (by kernel_rfl) ?_ (fun a hF => ?_)
          · exact obs_cons (ob_load Agg3 (fun _ _ hS => (hS.at_ 4 rfl).cell rfl)) <| obs_nil
          refine any_finI rfl (fun h => h) ?_
          refine any_step [2, 3] (by kernel_rfl) rfl ?_
          refine (all_cons ?_ (all_cons ?_ all_nil))
          · refine any_op (listed' := #[true, true, true, false, false, false, false]) (by kernel_rfl) (by kernel_rfl) ?_
            refine at_runW 1 [⟨false, [], vS (Instr.loadAt 3 (.pointer (some ⟨g5, 0, none⟩))), .int .i64 r3.1⟩] [some (.int .i64 r3.1)] [6, 7, 8, 45, 46, 47] [pl 6 (.pointer (some ⟨g3, 0, none⟩)), pl 7 (.pointer (some ⟨g4, 0, none⟩)), pl 8 (.pointer (some ⟨g5, 0, none⟩)), pl 45 (.int .i64 r3.2.1), pl 46 (.int .i64 r3.2.2), pl 47 (.int .i64 r3.1)] hF hS (by kernel_rfl) (by kernel_rfl) ?_ (fun a hF => ?_)
            · exact obs_cons (ob_load Agg3 (fun _ _ hS => (hS.at_ 2 rfl).cell rfl)) <| obs_nil
            refine any_finI rfl (fun h => h) ?_
            refine any_step [3] (by kernel_rfl) rfl ?_
            refine (all_cons ?_ all_nil)
            · refine any_op (listed' := #[true, true, true, true, false, false, false]) (by kernel_rfl) (by kernel_rfl) ?_
              obtain ⟨w, hrun, hS⟩ := run_put (P := Try.prog) (t := 3) (u := .int .i64 r3.2.1) (i := 0) (hS.at_ 3 rfl) hi3 hs3 rfl (Nat.lt_of_lt_of_eq (Nat.lt_of_succ_le (Nat.le_of_ble_eq_true (by kernel_rfl))) rfl)
              refine at_skip hF (by kernel_rfl) hrun ?_
              have hS : Sep w0 B w (blk g1 22 #[.slice A1 a1.length c1] :: blk g2 22 #[.slice A2 b1.length c2] :: blk g5 3 #[.int .i64 r3.1] :: blk g3 3 #[.int .i64 r3.2.1] :: blk g4 3 #[.int .i64 r3.2.2] :: blk g7 22 #[.slice A4 r1.length c4] :: own 3 (.slice A4 r1.length c4) (vI r1) :: blk g8 157 #[.func (.func 113) #[] #[.pointer (some ⟨g1, 0, none⟩), .pointer (some ⟨g2, 0, none⟩), .pointer (some ⟨g5, 0, none⟩), .pointer (some ⟨g3, 0, none⟩), .pointer (some ⟨g4, 0, none⟩), .pointer (some ⟨g7, 0, none⟩), .pointer (some ⟨g8, 0, none⟩)]] :: fs) := hS
              refine any_fin rfl hS ?_
              refine any_step [4] (by kernel_rfl) rfl ?_
              refine (all_cons ?_ all_nil)
              · refine any_op (listed' := #[true, true, true, true, true, false, false]) (by kernel_rfl) (by kernel_rfl) ?_
                obtain ⟨w, hrun, hS⟩ := run_put (P := Try.prog) (t := 3) (u := .int .i64 r3.2.2) (i := 0) (hS.at_ 4 rfl) hi3 hs3 rfl (Nat.lt_of_lt_of_eq (Nat.lt_of_succ_le (Nat.le_of_ble_eq_true (by kernel_rfl))) rfl)
                refine at_skip hF (by kernel_rfl) hrun ?_
                have hS : Sep w0 B w (blk g1 22 #[.slice A1 a1.length c1] :: blk g2 22 #[.slice A2 b1.length c2] :: blk g5 3 #[.int .i64 r3.1] :: blk g3 3 #[.int .i64 r3.2.1] :: blk g4 3 #[.int .i64 r3.2.2] :: blk g7 22 #[.slice A4 r1.length c4] :: own 3 (.slice A4 r1.length c4) (vI r1) :: blk g8 157 #[.func (.func 113) #[] #[.pointer (some ⟨g1, 0, none⟩), .pointer (some ⟨g2, 0, none⟩), .pointer (some ⟨g5, 0, none⟩), .pointer (some ⟨g3, 0, none⟩), .pointer (some ⟨g4, 0, none⟩), .pointer (some ⟨g7, 0, none⟩), .pointer (some ⟨g8, 0, none⟩)]] :: fs) := hS
                refine any_fin rfl hS ?_
                refine any_step [5] (by kernel_rfl) rfl ?_
                refine (all_cons ?_ all_nil)
                · refine any_op (listed' := #[true, true, true, true, true, true, false]) (by kernel_rfl) (by kernel_rfl) ?_
                  obtain ⟨w, hrun, hS⟩ := run_put (P := Try.prog) (t := 3) (u := .int .i64 r3.1) (i := 0) (hS.at_ 2 rfl) hi3 hs3 rfl (Nat.lt_of_lt_of_eq (Nat.lt_of_succ_le (Nat.le_of_ble_eq_true (by kernel_rfl))) rfl)
                  refine at_skip hF (by kernel_rfl) hrun ?_
                  have hS : Sep w0 B w (blk g1 22 #[.slice A1 a1.length c1] :: blk g2 22 #[.slice A2 b1.length c2] :: blk g5 3 #[.int .i64 r3.1] :: blk g3 3 #[.int .i64 r3.2.1] :: blk g4 3 #[.int .i64 r3.2.2] :: blk g7 22 #[.slice A4 r1.length c4] :: own 3 (.slice A4 r1.length c4) (vI r1) :: blk g8 157 #[.func (.func 113) #[] #[.pointer (some ⟨g1, 0, none⟩), .pointer (some ⟨g2, 0, none⟩), .pointer (some ⟨g5, 0, none⟩), .pointer (some ⟨g3, 0, none⟩), .pointer (some ⟨g4, 0, none⟩), .pointer (some ⟨g7, 0, none⟩), .pointer (some ⟨g8, 0, none⟩)]] :: fs) := hS
                  refine any_fin rfl hS ?_
                  refine any_step [6] (by kernel_rfl) rfl ?_
                  refine (all_cons ?_ all_nil)
                  · refine any_op (listed' := #[true, true, true, true, true, true, true]) (by kernel_rfl) (by kernel_rfl) ?_
                    refine at_runW 1 [] [] [6, 7, 8, 9] [pl 6 (.pointer (some ⟨g3, 0, none⟩)), pl 7 (.pointer (some ⟨g4, 0, none⟩)), pl 8 (.pointer (some ⟨g5, 0, none⟩)), pl 9 (.int .i64 0)] hF hS (by kernel_rfl) (by kernel_rfl) ?_ (fun a hF => ?_)
                    · exact obs_nil
                    refine any_finI rfl (fun h => h) ?_
                    refine any_end (by kernel_rfl) ?_
                    refine np_n ?_
                    refine then_n ?_
                    have hS := hS.pickN 8 [3, 4, 2] (by decide)
                    exact ⟨hF.weak [6, 7, 8, 9] (by kernel_rfl), hS, hm⟩
          · refine any_op (listed' := #[true, true, false, true, false, false, false]) (by kernel_rfl) (by kernel_rfl) ?_
            obtain ⟨w, hrun, hS⟩ := run_put (P := Try.prog) (t := 3) (u := .int .i64 r3.2.1) (i := 0) (hS.at_ 3 rfl) hi3 hs3 rfl (Nat.lt_of_lt_of_eq (Nat.lt_of_succ_le (Nat.le_of_ble_eq_true (by kernel_rfl))) rfl)
            refine at_skip hF (by kernel_rfl) hrun ?_
            have hS : Sep w0 B w (blk g1 22 #[.slice A1 a1.length c1] :: blk g2 22 #[.slice A2 b1.length c2] :: blk g5 3 #[.int .i64 r3.1] :: blk g3 3 #[.int .i64 r3.2.1] :: blk g4 3 #[.int .i64 r3.2.2] :: blk g7 22 #[.slice A4 r1.length c4] :: own 3 (.slice A4 r1.length c4) (vI r1) :: blk g8 157 #[.func (.func 113) #[] #[.pointer (some ⟨g1, 0, none⟩), .pointer (some ⟨g2, 0, none⟩), .pointer (some ⟨g5, 0, none⟩), .pointer (some ⟨g3, 0, none⟩), .pointer (some ⟨g4, 0, none⟩), .pointer (some ⟨g7, 0, none⟩), .pointer (some ⟨g8, 0, none⟩)]] :: fs) := hS
            refine any_fin rfl hS ?_
            refine any_step [2, 4] (by kernel_rfl) rfl ?_
            refine (all_cons ?_ (all_cons ?_ all_nil))
            · refine any_op (listed' := #[true, true, true, true, false, false, false]) (by kernel_rfl) (by kernel_rfl) ?_
              refine at_runW 1 [⟨false, [], vS (Instr.loadAt 3 (.pointer (some ⟨g5, 0, none⟩))), .int .i64 r3.1⟩] [some (.int .i64 r3.1)] [6, 7, 8, 46, 47] [pl 6 (.pointer (some ⟨g3, 0, none⟩)), pl 7 (.pointer (some ⟨g4, 0, none⟩)), pl 8 (.pointer (some ⟨g5, 0, none⟩)), pl 46 (.int .i64 r3.2.2), pl 47 (.int .i64 r3.1)] hF hS (by kernel_rfl) (by kernel_rfl) ?_ (fun a hF => ?_)
              · exact obs_cons (ob_load Agg3 (fun _ _ hS => (hS.at_ 2 rfl).cell rfl)) <| obs_nil
              refine any_finI rfl (fun h => h) ?_
              refine any_step [4] (by kernel_rfl) rfl ?_
              refine (all_cons ?_ all_nil)
              · refine any_op (listed' := #[true, true, true, true, true, false, false]) (by kernel_rfl) (by kernel_rfl) ?_
                obtain ⟨w, hrun, hS⟩ := run_put (P := Try.prog) (t := 3) (u := .int .i64 r3.2.2) (i := 0) (hS.at_ 4 rfl) hi3 hs3 rfl (Nat.lt_of_lt_of_eq (Nat.lt_of_succ_le (Nat.le_of_ble_eq_true (by kernel_rfl))) rfl)
                refine at_skip hF (by kernel_rfl) hrun ?_
                have hS : Sep w0 B w (blk g1 22 #[.slice A1 a1.length c1] :: blk g2 22 #[.slice A2 b1.length c2] :: blk g5 3 #[.int .i64 r3.1] :: blk g3 3 #[.int .i64 r3.2.1] :: blk g4 3 #[.int .i64 r3.2.2] :: blk g7 22 #[.slice A4 r1.length c4] :: own 3 (.slice A4 r1.length c4) (vI r1) :: blk g8 157 #[.func (.func 113) #[] #[.pointer (some ⟨g1, 0, none⟩), .pointer (some ⟨g2, 0, none⟩), .pointer (some ⟨g5, 0, none⟩), .pointer (some ⟨g3, 0, none⟩), .pointer (some ⟨g4, 0, none⟩), .pointer (some ⟨g7, 0, none⟩), .pointer (some ⟨g8, 0, none⟩)]] :: fs) := hS
                refine any_fin rfl hS ?_
                refine any_step [5] (by kernel_rfl) rfl ?_
                refine (all_cons ?_ all_nil)
                · refine any_op (listed' := #[true, true, true, true, true, true, false]) (by kernel_rfl) (by kernel_rfl) ?_
                  obtain ⟨w, hrun, hS⟩ := run_put (P := Try.prog) (t := 3) (u := .int .i64 r3.1) (i := 0) (hS.at_ 2 rfl) hi3 hs3 rfl (Nat.lt_of_lt_of_eq (Nat.lt_of_succ_le (Nat.le_of_ble_eq_true (by kernel_rfl))) rfl)
                  refine at_skip hF (by kernel_rfl) hrun ?_
                  have hS : Sep w0 B w (blk g1 22 #[.slice A1 a1.length c1] :: blk g2 22 #[.slice A2 b1.length c2] :: blk g5 3 #[.int .i64 r3.1] :: blk g3 3 #[.int .i64 r3.2.1] :: blk g4 3 #[.int .i64 r3.2.2] :: blk g7 22 #[.slice A4 r1.length c4] :: own 3 (.slice A4 r1.length c4) (vI r1) :: blk g8 157 #[.func (.func 113) #[] #[.pointer (some ⟨g1, 0, none⟩), .pointer (some ⟨g2, 0, none⟩), .pointer (some ⟨g5, 0, none⟩), .pointer (some ⟨g3, 0, none⟩), .pointer (some ⟨g4, 0, none⟩), .pointer (some ⟨g7, 0, none⟩), .pointer (some ⟨g8, 0, none⟩)]] :: fs) := hS
                  refine any_fin rfl hS ?_
                  refine any_step [6] (by kernel_rfl) rfl ?_
                  refine (all_cons ?_ all_nil)
                  · refine any_op (listed' := #[true, true, true, true, true, true, true]) (by kernel_rfl) (by kernel_rfl) ?_
                    refine at_runW 1 [] [] [6, 7, 8, 9] [pl 6 (.pointer (some ⟨g3, 0, none⟩)), pl 7 (.pointer (some ⟨g4, 0, none⟩)), pl 8 (.pointer (some ⟨g5, 0, none⟩)), pl 9 (.int .i64 0)] hF hS (by kernel_rfl) (by kernel_rfl) ?_ (fun a hF => ?_)
                    · exact obs_nil
                    refine any_finI rfl (fun h => h) ?_
                    refine any_end (by kernel_rfl) ?_
                    refine np_n ?_
                    refine then_n ?_
                    have hS := hS.pickN 8 [3, 4, 2] (by decide)
                    exact ⟨hF.weak [6, 7, 8, 9] (by kernel_rfl), hS, hm⟩
            · refine any_op (listed' := #[true, true, false, true, true, false, false]) (by kernel_rfl) (by kernel_rfl) ?_
              obtain ⟨w, hrun, hS⟩ := run_put (P := Try.prog) (t := 3) (u := .int .i64 r3.2.2) (i := 0) (hS.at_ 4 rfl) hi3 hs3 rfl (Nat.lt_of_lt_of_eq (Nat.lt_of_succ_le (Nat.le_of_ble_eq_true (by kernel_rfl))) rfl)
              refine at_skip hF (by kernel_rfl) hrun ?_
              have hS : Sep w0 B w (blk g1 22 #[.slice A1 a1.length c1] :: blk g2 22 #[.slice A2 b1.length c2] :: blk g5 3 #[.int .i64 r3.1] :: blk g3 3 #[.int .i64 r3.2.1] :: blk g4 3 #[.int .i64 r3.2.2] :: blk g7 22 #[.slice A4 r1.length c4] :: own 3 (.slice A4 r1.length c4) (vI r1) :: blk g8 157 #[.func (.func 113) #[] #[.pointer (some ⟨g1, 0, none⟩), .pointer (some ⟨g2, 0, none⟩), .pointer (some ⟨g5, 0, none⟩), .pointer (some ⟨g3, 0, none⟩), .pointer (some ⟨g4, 0, none⟩), .pointer (some ⟨g7, 0, none⟩), .pointer (some ⟨g8, 0, none⟩)]] :: fs) := hS
              refine any_fin rfl hS ?_
              refine any_step [2] (by kernel_rfl) rfl ?_
              refine (all_cons ?_ all_nil)
              · refine any_op (listed' := #[true, true, true, true, true, false, false]) (by kernel_rfl) (by kernel_rfl) ?_
                refine at_runW 1 [⟨false, [], vS (Instr.loadAt 3 (.pointer (some ⟨g5, 0, none⟩))), .int .i64 r3.1⟩] [some (.int .i64 r3.1)] [6, 7, 8, 47] [pl 6 (.pointer (some ⟨g3, 0, none⟩)), pl 7 (.pointer (some ⟨g4, 0, none⟩)), pl 8 (.pointer (some ⟨g5, 0, none⟩)), pl 47 (.int .i64 r3.1)] hF hS (by kernel_rfl) (by kernel_rfl) ?_ (fun a hF => ?_)
                · exact obs_cons (ob_load Agg3 (fun _ _ hS => (hS.at_ 2 rfl).cell rfl)) <| obs_nil
                refine any_finI rfl (fun h => h) ?_
                refine any_step [5] (by kernel_rfl) rfl ?_
                refine (all_cons ?_ all_nil)
                · refine any_op (listed' := #[true, true, true, true, true, true, false]) (by kernel_rfl) (by kernel_rfl) ?_
                  obtain ⟨w, hrun, hS⟩ := run_put (P := Try.prog) (t := 3) (u := .int .i64 r3.1) (i := 0) (hS.at_ 2 rfl) hi3 hs3 rfl (Nat.lt_of_lt_of_eq (Nat.lt_of_succ_le (Nat.le_of_ble_eq_true (by kernel_rfl))) rfl)
                  refine at_skip hF (by kernel_rfl) hrun ?_
                  have hS : Sep w0 B w (blk g1 22 #[.slice A1 a1.length c1] :: blk g2 22 #[.slice A2 b1.length c2] :: blk g5 3 #[.int .i64 r3.1] :: blk g3 3 #[.int .i64 r3.2.1] :: blk g4 3 #[.int .i64 r3.2.2] :: blk g7 22 #[.slice A4 r1.length c4] :: own 3 (.slice A4 r1.length c4) (vI r1) :: blk g8 157 #[.func (.func 113) #[] #[.pointer (some ⟨g1, 0, none⟩), .pointer (some ⟨g2, 0, none⟩), .pointer (some ⟨g5, 0, none⟩), .pointer (some ⟨g3, 0, none⟩), .pointer (some ⟨g4, 0, none⟩), .pointer (some ⟨g7, 0, none⟩), .pointer (some ⟨g8, 0, none⟩)]] :: fs) := hS
                  refine any_fin rfl hS ?_
                  refine any_step [6] (by kernel_rfl) rfl ?_
                  refine (all_cons ?_ all_nil)
                  · refine any_op (listed' := #[true, true, true, true, true, true, true]) (by kernel_rfl) (by kernel_rfl) ?_
                    refine at_runW 1 [] [] [6, 7, 8, 9] [pl 6 (.pointer (some ⟨g3, 0, none⟩)), pl 7 (.pointer (some ⟨g4, 0, none⟩)), pl 8 (.pointer (some ⟨g5, 0, none⟩)), pl 9 (.int .i64 0)] hF hS (by kernel_rfl) (by kernel_rfl) ?_ (fun a hF => ?_)
                    · exact obs_nil
                    refine any_finI rfl (fun h => h) ?_
                    refine any_end (by kernel_rfl) ?_
                    refine np_n ?_
                    refine then_n ?_
                    have hS := hS.pickN 8 [3, 4, 2] (by decide)
                    exact ⟨hF.weak [6, 7, 8, 9] (by kernel_rfl), hS, hm⟩
        · refine any_op (listed' := #[true, false, true, false, false, false, false]) (by kernel_rfl) (by kernel_rfl) ?_
          refine at_runW 1 [⟨false, [], vS (Instr.loadAt 3 (.pointer (some ⟨g5, 0, none⟩))), .int .i64 r3.1⟩] [some (.int .i64 r3.1)] [6, 7, 8, 45, 47] [pl 6 (.pointer (some ⟨g3, 0, none⟩)), pl 7 (.pointer (some ⟨g4, 0, none⟩)), pl 8 (.pointer (some ⟨g5, 0, none⟩)), pl 45 (.int .i64 r3.2.1), pl 47 (.int .i64 r3.1)] hF hS (by kernel_rfl) (by kernel_rfl) ?_ (fun a hF => ?_)
          · exact obs_cons (ob_load Agg3 (fun _ _ hS => (hS.at_ 2 rfl).cell rfl)) <| obs_nil
          refine any_finI rfl (fun h => h) ?_
          refine any_step [1, 3] (by kernel_rfl) rfl ?_
          refine (all_cons ?_ (all_cons ?_ all_nil))
          · refine any_op (listed' := #[true, true, true, false, false, false, false]) (by kernel_rfl) (by kernel_rfl) ?_
            refine at_runW 1 [⟨false, [], vS (Instr.loadAt 3 (.pointer (some ⟨g4, 0, none⟩))), .int .i64 r3.2.2⟩] [some (.int .i64 r3.2.2)] [6, 7, 8, 45, 46, 47] [pl 6 (.pointer (some ⟨g3, 0, none⟩)), pl 7 (.pointer (some ⟨g4, 0, none⟩)), pl 8 (.pointer (some ⟨g5, 0, none⟩)), pl 45 (.int .i64 r3.2.1), pl 46 (.int .i64 r3.2.2), pl 47 (.int .i64 r3.1)] hF hS (by kernel_rfl) (by kernel_rfl) ?_ (fun a hF => ?_)
            · exact obs_cons (ob_load Agg3 (fun _ _ hS => (hS.at_ 4 rfl).cell rfl)) <| obs_nil
            refine any_finI rfl (fun h => h) ?_
            refine any_step [3] (by kernel_rfl) rfl ?_
            refine (all_cons ?_ all_nil)
            · refine any_op (listed' := #[true, true, true, true, false, false, false]) (by kernel_rfl) (by kernel_rfl) ?_
              obtain ⟨w, hrun, hS⟩ := run_put (P := Try.prog) (t := 3) (u := .int .i64 r3.2.1) (i := 0) (hS.at_ 3 rfl) hi3 hs3 rfl (Nat.lt_of_lt_of_eq (Nat.lt_of_succ_le (Nat.le_of_ble_eq_true (by kernel_rfl))) rfl)
              refine at_skip hF (by kernel_rfl) hrun ?_
              have hS : Sep w0 B w (blk g1 22 #[.slice A1 a1.length c1] :: blk g2 22 #[.slice A2 b1.length c2] :: blk g5 3 #[.int .i64 r3.1] :: blk g3 3 #[.int .i64 r3.2.1] :: blk g4 3 #[.int .i64 r3.2.2] :: blk g7 22 #[.slice A4 r1.length c4] :: own 3 (.slice A4 r1.length c4) (vI r1) :: blk g8 157 #[.func (.func 113) #[] #[.pointer (some ⟨g1, 0, none⟩), .pointer (some ⟨g2, 0, none⟩), .pointer (some ⟨g5, 0, none⟩), .pointer (some ⟨g3, 0, none⟩), .pointer (some ⟨g4, 0, none⟩), .pointer (some ⟨g7, 0, none⟩), .pointer (some ⟨g8, 0, none⟩)]] :: fs) := hS
              refine any_fin rfl hS ?_
              refine any_step [4] (by kernel_rfl) rfl ?_
              refine (all_cons ?_ all_nil)
              · refine any_op (listed' := #[true, true, true, true, true, false, false]) (by kernel_rfl) (by kernel_rfl) ?_
                obtain ⟨w, hrun, hS⟩ := run_put (P := Try.prog) (t := 3) (u := .int .i64 r3.2.2) (i := 0) (hS.at_ 4 rfl) hi3 hs3 rfl (Nat.lt_of_lt_of_eq (Nat.lt_of_succ_le (Nat.le_of_ble_eq_true (by kernel_rfl))) rfl)
                refine at_skip hF (by kernel_rfl) hrun ?_
                have hS : Sep w0 B w (blk g1 22 #[.slice A1 a1.length c1] :: blk g2 22 #[.slice A2 b1.length c2] :: blk g5 3 #[.int .i64 r3.1] :: blk g3 3 #[.int .i64 r3.2.1] :: blk g4 3 #[.int .i64 r3.2.2] :: blk g7 22 #[.slice A4 r1.length c4] :: own 3 (.slice A4 r1.length c4) (vI r1) :: blk g8 157 #[.func (.func 113) #[] #[.pointer (some ⟨g1, 0, none⟩), .pointer (some ⟨g2, 0, none⟩), .pointer (some ⟨g5, 0, none⟩), .pointer (some ⟨g3, 0, none⟩), .pointer (some ⟨g4, 0, none⟩), .pointer (some ⟨g7, 0, none⟩), .pointer (some ⟨g8, 0, none⟩)]] :: fs) := hS
                refine any_fin rfl hS ?_
                refine any_step [5] (by kernel_rfl) rfl ?_
                refine (all_cons ?_ all_nil)
                · refine any_op (listed' := #[true, true, true, true, true, true, false]) (by kernel_rfl) (by kernel_rfl) ?_
                  obtain ⟨w, hrun, hS⟩ := run_put (P := Try.prog) (t := 3) (u := .int .i64 r3.1) (i := 0) (hS.at_ 2 rfl) hi3 hs3 rfl (Nat.lt_of_lt_of_eq (Nat.lt_of_succ_le (Nat.le_of_ble_eq_true (by kernel_rfl))) rfl)
                  refine at_skip hF (by kernel_rfl) hrun ?_
                  have hS : Sep w0 B w (blk g1 22 #[.slice A1 a1.length c1] :: blk g2 22 #[.slice A2 b1.length c2] :: blk g5 3 #[.int .i64 r3.1] :: blk g3 3 #[.int .i64 r3.2.1] :: blk g4 3 #[.int .i64 r3.2.2] :: blk g7 22 #[.slice A4 r1.length c4] :: own 3 (.slice A4 r1.length c4) (vI r1) :: blk g8 157 #[.func (.func 113) #[] #[.pointer (some ⟨g1, 0, none⟩), .pointer (some ⟨g2, 0, none⟩), .pointer (some ⟨g5, 0, none⟩), .pointer (some ⟨g3, 0, none⟩), .pointer (some ⟨g4, 0, none⟩), .pointer (some ⟨g7, 0, none⟩), .pointer (some ⟨g8, 0, none⟩)]] :: fs) := hS
                  refine any_fin rfl hS ?_
                  refine any_step [6] (by kernel_rfl) rfl ?_
                  refine (all_cons ?_ all_nil)
                  · refine any_op (listed' := #[true, true, true, true, true, true, true]) (by kernel_rfl) (by kernel_rfl) ?_
                    refine at_runW 1 [] [] [6, 7, 8, 9] [pl 6 (.pointer (some ⟨g3, 0, none⟩)), pl 7 (.pointer (some ⟨g4, 0, none⟩)), pl 8 (.pointer (some ⟨g5, 0, none⟩)), pl 9 (.int .i64 0)] hF hS (by kernel_rfl) (by kernel_rfl) ?_ (fun a hF => ?_)
                    · exact obs_nil
                    refine any_finI rfl (fun h => h) ?_
                    refine any_end (by kernel_rfl) ?_
                    refine np_n ?_
                    refine then_n ?_
                    have hS := hS.pickN 8 [3, 4, 2] (by decide)
                    exact ⟨hF.weak [6, 7, 8, 9] (by kernel_rfl), hS, hm⟩
          · refine any_op (listed' := #[true, false, true, true, false, false, false]) (by kernel_rfl) (by kernel_rfl) ?_
            obtain ⟨w, hrun, hS⟩ := run_put (P := Try.prog) (t := 3) (u := .int .i64 r3.2.1) (i := 0) (hS.at_ 3 rfl) hi3 hs3 rfl (Nat.lt_of_lt_of_eq (Nat.lt_of_succ_le (Nat.le_of_ble_eq_true (by kernel_rfl))) rfl)
            refine at_skip hF (by kernel_rfl) hrun ?_
            have hS : Sep w0 B w (blk g1 22 #[.slice A1 a1.length c1] :: blk g2 22 #[.slice A2 b1.length c2] :: blk g5 3 #[.int .i64 r3.1] :: blk g3 3 #[.int .i64 r3.2.1] :: blk g4 3 #[.int .i64 r3.2.2] :: blk g7 22 #[.slice A4 r1.length c4] :: own 3 (.slice A4 r1.length c4) (vI r1) :: blk g8 157 #[.func (.func 113) #[] #[.pointer (some ⟨g1, 0, none⟩), .pointer (some ⟨g2, 0, none⟩), .pointer (some ⟨g5, 0, none⟩), .pointer (some ⟨g3, 0, none⟩), .pointer (some ⟨g4, 0, none⟩), .pointer (some ⟨g7, 0, none⟩), .pointer (some ⟨g8, 0, none⟩)]] :: fs) := hS
            refine any_fin rfl hS ?_
            refine any_step [1] (by kernel_rfl) rfl ?_
            refine (all_cons ?_ all_nil)
            · refine any_op (listed' := #[true, true, true, true, false, false, false]) (by kernel_rfl) (by kernel_rfl) ?_
              refine at_runW 1 [⟨false, [], vS (Instr.loadAt 3 (.pointer (some ⟨g4, 0, none⟩))), .int .i64 r3.2.2⟩] [some (.int .i64 r3.2.2)] [6, 7, 8, 46, 47] [pl 6 (.pointer (some ⟨g3, 0, none⟩)), pl 7 (.pointer (some ⟨g4, 0, none⟩)), pl 8 (.pointer (some ⟨g5, 0, none⟩)), pl 46 (.int .i64 r3.2.2), pl 47 (.int .i64 r3.1)] hF hS (by kernel_rfl) (by kernel_rfl) ?_ (fun a hF => ?_)
              · exact obs_cons (ob_load Agg3 (fun _ _ hS => (hS.at_ 4 rfl).cell rfl)) <| obs_nil
              refine any_finI rfl (fun h => h) ?_
              refine any_step [4] (by kernel_rfl) rfl ?_
              refine (all_cons ?_ all_nil)
              · refine any_op (listed' := #[true, true, true, true, true, false, false]) (by kernel_rfl) (by kernel_rfl) ?_
                obtain ⟨w, hrun, hS⟩ := run_put (P := Try.prog) (t := 3) (u := .int .i64 r3.2.2) (i := 0) (hS.at_ 4 rfl) hi3 hs3 rfl (Nat.lt_of_lt_of_eq (Nat.lt_of_succ_le (Nat.le_of_ble_eq_true (by kernel_rfl))) rfl)
                refine at_skip hF (by kernel_rfl) hrun ?_
                have hS : Sep w0 B w (blk g1 22 #[.slice A1 a1.length c1] :: blk g2 22 #[.slice A2 b1.length c2] :: blk g5 3 #[.int .i64 r3.1] :: blk g3 3 #[.int .i64 r3.2.1] :: blk g4 3 #[.int .i64 r3.2.2] :: blk g7 22 #[.slice A4 r1.length c4] :: own 3 (.slice A4 r1.length c4) (vI r1) :: blk g8 157 #[.func (.func 113) #[] #[.pointer (some ⟨g1, 0, none⟩), .pointer (some ⟨g2, 0, none⟩), .pointer (some ⟨g5, 0, none⟩), .pointer (some ⟨g3, 0, none⟩), .pointer (some ⟨g4, 0, none⟩), .pointer (some ⟨g7, 0, none⟩), .pointer (some ⟨g8, 0, none⟩)]] :: fs) := hS
                refine any_fin rfl hS ?_
                refine any_step [5] (by kernel_rfl) rfl ?_
                refine (all_cons ?_ all_nil)
                · refine any_op (listed' := #[true, true, true, true, true, true, false]) (by kernel_rfl) (by kernel_rfl) ?_
                  obtain ⟨w, hrun, hS⟩ := run_put (P := Try.prog) (t := 3) (u := .int .i64 r3.1) (i := 0) (hS.at_ 2 rfl) hi3 hs3 rfl (Nat.lt_of_lt_of_eq (Nat.lt_of_succ_le (Nat.le_of_ble_eq_true (by kernel_rfl))) rfl)
                  refine at_skip hF (by kernel_rfl) hrun ?_
                  have hS : Sep w0 B w (blk g1 22 #[.slice A1 a1.length c1] :: blk g2 22 #[.slice A2 b1.length c2] :: blk g5 3 #[.int .i64 r3.1] :: blk g3 3 #[.int .i64 r3.2.1] :: blk g4 3 #[.int .i64 r3.2.2] :: blk g7 22 #[.slice A4 r1.length c4] :: own 3 (.slice A4 r1.length c4) (vI r1) :: blk g8 157 #[.func (.func 113) #[] #[.pointer (some ⟨g1, 0, none⟩), .pointer (some ⟨g2, 0, none⟩), .pointer (some ⟨g5, 0, none⟩), .pointer (some ⟨g3, 0, none⟩), .pointer (some ⟨g4, 0, none⟩), .pointer (some ⟨g7, 0, none⟩), .pointer (some ⟨g8, 0, none⟩)]] :: fs) := hS
                  refine any_fin rfl hS ?_
                  refine any_step [6] (by kernel_rfl) rfl ?_
                  refine (all_cons ?_ all_nil)
                  · refine any_op (listed' := #[true, true, true, true, true, true, true]) (by kernel_rfl) (by kernel_rfl) ?_
                    refine at_runW 1 [] [] [6, 7, 8, 9] [pl 6 (.pointer (some ⟨g3, 0, none⟩)), pl 7 (.pointer (some ⟨g4, 0, none⟩)), pl 8 (.pointer (some ⟨g5, 0, none⟩)), pl 9 (.int .i64 0)] hF hS (by kernel_rfl) (by kernel_rfl) ?_ (fun a hF => ?_)
                    · exact obs_nil
                    refine any_finI rfl (fun h => h) ?_
                    refine any_end (by kernel_rfl) ?_
                    refine np_n ?_
                    refine then_n ?_
                    have hS := hS.pickN 8 [3, 4, 2] (by decide)
                    exact ⟨hF.weak [6, 7, 8, 9] (by kernel_rfl), hS, hm⟩
        · refine any_op (listed' := #[true, false, false, true, false, false, false]) (by kernel_rfl) (by kernel_rfl) ?_
          obtain ⟨w, hrun, hS⟩ := run_put (P := Try.prog) (t := 3) (u := .int .i64 r3.2.1) (i := 0) (hS.at_ 3 rfl) hi3 hs3 rfl (Nat.lt_of_lt_of_eq (Nat.lt_of_succ_le (Nat.le_of_ble_eq_true (by kernel_rfl))) rfl)
          refine at_skip hF (by kernel_rfl) hrun ?_
          have hS : Sep w0 B w (blk g1 22 #[.slice A1 a1.length c1] :: blk g2 22 #[.slice A2 b1.length c2] :: blk g5 3 #[.int .i64 r3.1] :: blk g3 3 #[.int .i64 r3.2.1] :: blk g4 3 #[.int .i64 r3.2.2] :: blk g7 22 #[.slice A4 r1.length c4] :: own 3 (.slice A4 r1.length c4) (vI r1) :: blk g8 157 #[.func (.func 113) #[] #[.pointer (some ⟨g1, 0, none⟩), .pointer (some ⟨g2, 0, none⟩), .pointer (some ⟨g5, 0, none⟩), .pointer (some ⟨g3, 0, none⟩), .pointer (some ⟨g4, 0, none⟩), .pointer (some ⟨g7, 0, none⟩), .pointer (some ⟨g8, 0, none⟩)]] :: fs) := hS
          refine any_fin rfl hS ?_
          refine any_step [1, 2] (by kernel_rfl) rfl ?_
          refine (all_cons ?_ (all_cons ?_ all_nil))
          · refine any_op (listed' := #[true, true, false, true, false, false, false]) (by kernel_rfl) (by kernel_rfl) ?_
            refine at_runW 1 [⟨false, [], vS (Instr.loadAt 3 (.pointer (some ⟨g4, 0, none⟩))), .int .i64 r3.2.2⟩] [some (.int .i64 r3.2.2)] [6, 7, 8, 46] [pl 6 (.pointer (some ⟨g3, 0, none⟩)), pl 7 (.pointer (some ⟨g4, 0, none⟩)), pl 8 (.pointer (some ⟨g5, 0, none⟩)), pl 46 (.int .i64 r3.2.2)] hF hS (by kernel_rfl) (by kernel_rfl) ?_ (fun a hF => ?_)
            · exact obs_cons (ob_load Agg3 (fun _ _ hS => (hS.at_ 4 rfl).cell rfl)) <| obs_nil
            refine any_finI rfl (fun h => h) ?_
            refine any_step [2, 4] (by kernel_rfl) rfl ?_
            refine (all_cons ?_ (all_cons ?_ all_nil))
            · refine any_op (listed' := #[true, true, true, true, false, false, false]) (by kernel_rfl) (by kernel_rfl) ?_
              refine at_runW 1 [⟨false, [], vS (Instr.loadAt 3 (.pointer (some ⟨g5, 0, none⟩))), .int .i64 r3.1⟩] [some (.int .i64 r3.1)] [6, 7, 8, 46, 47] [pl 6 (.pointer (some ⟨g3, 0, none⟩)), pl 7 (.pointer (some ⟨g4, 0, none⟩)), pl 8 (.pointer (some ⟨g5, 0, none⟩)), pl 46 (.int .i64 r3.2.2), pl 47 (.int .i64 r3.1)] hF hS (by kernel_rfl) (by kernel_rfl) ?_ (fun a hF => ?_)
              · exact obs_cons (ob_load Agg3 (fun _ _ hS => (hS.at_ 2 rfl).cell rfl)) <| obs_nil
              refine any_finI rfl (fun h => h) ?_
              refine any_step [4] (by kernel_rfl) rfl ?_
              refine (all_cons ?_ all_nil)
              · refine any_op (listed' := #[true, true, true, true, true, false, false]) (by kernel_rfl) (by kernel_rfl) ?_
                obtain ⟨w, hrun, hS⟩ := run_put (P := Try.prog) (t := 3) (u := .int .i64 r3.2.2) (i := 0) (hS.at_ 4 rfl) hi3 hs3 rfl (Nat.lt_of_lt_of_eq (Nat.lt_of_succ_le (Nat.le_of_ble_eq_true (by kernel_rfl))) rfl)
                refine at_skip hF (by kernel_rfl) hrun ?_
                have hS : Sep w0 B w (blk g1 22 #[.slice A1 a1.length c1] :: blk g2 22 #[.slice A2 b1.length c2] :: blk g5 3 #[.int .i64 r3.1] :: blk g3 3 #[.int .i64 r3.2.1] :: blk g4 3 #[.int .i64 r3.2.2] :: blk g7 22 #[.slice A4 r1.length c4] :: own 3 (.slice A4 r1.length c4) (vI r1) :: blk g8 157 #[.func (.func 113) #[] #[.pointer (some ⟨g1, 0, none⟩), .pointer (some ⟨g2, 0, none⟩), .pointer (some ⟨g5, 0, none⟩), .pointer (some ⟨g3, 0, none⟩), .pointer (some ⟨g4, 0, none⟩), .pointer (some ⟨g7, 0, none⟩), .pointer (some ⟨g8, 0, none⟩)]] :: fs) := hS
                refine any_fin rfl hS ?_
                refine any_step [5] (by kernel_rfl) rfl ?_
                refine (all_cons ?_ all_nil)
                · refine any_op (listed' := #[true, true, true, true, true, true, false]) (by kernel_rfl) (by kernel_rfl) ?_
                  obtain ⟨w, hrun, hS⟩ := run_put (P := Try.prog) (t := 3) (u := .int .i64 r3.1) (i := 0) (hS.at_ 2 rfl) hi3 hs3 rfl (Nat.lt_of_lt_of_eq (Nat.lt_of_succ_le (Nat.le_of_ble_eq_true (by kernel_rfl))) rfl)
                  refine at_skip hF (by kernel_rfl) hrun ?_
                  have hS : Sep w0 B w (blk g1 22 #[.slice A1 a1.length c1] :: blk g2 22 #[.slice A2 b1.length c2] :: blk g5 3 #[.int .i64 r3.1] :: blk g3 3 #[.int .i64 r3.2.1] :: blk g4 3 #[.int .i64 r3.2.2] :: blk g7 22 #[.slice A4 r1.length c4] :: own 3 (.slice A4 r1.length c4) (vI r1) :: blk g8 157 #[.func (.func 113) #[] #[.pointer (some ⟨g1, 0, none⟩), .pointer (some ⟨g2, 0, none⟩), .pointer (some ⟨g5, 0, none⟩), .pointer (some ⟨g3, 0, none⟩), .pointer (some ⟨g4, 0, none⟩), .pointer (some ⟨g7, 0, none⟩), .pointer (some ⟨g8, 0, none⟩)]] :: fs) := hS
                  refine any_fin rfl hS ?_
                  refine any_step [6] (by kernel_rfl) rfl ?_
                  refine (all_cons ?_ all_nil)
                  · refine any_op (listed' := #[true, true, true, true, true, true, true]) (by kernel_rfl) (by kernel_rfl) ?_
                    refine at_runW 1 [] [] [6, 7, 8, 9] [pl 6 (.pointer (some ⟨g3, 0, none⟩)), pl 7 (.pointer (some ⟨g4, 0, none⟩)), pl 8 (.pointer (some ⟨g5, 0, none⟩)), pl 9 (.int .i64 0)] hF hS (by kernel_rfl) (by kernel_rfl) ?_ (fun a hF => ?_)
                    · exact obs_nil
                    refine any_finI rfl (fun h => h) ?_
                    refine any_end (by kernel_rfl) ?_
                    refine np_n ?_
                    refine then_n ?_
                    have hS := hS.pickN 8 [3, 4, 2] (by decide)
                    exact ⟨hF.weak [6, 7, 8, 9] (by kernel_rfl), hS, hm⟩
            · refine any_op (listed' := #[true, true, false, true, true, false, false]) (by kernel_rfl) (by kernel_rfl) ?_
              obtain ⟨w, hrun, hS⟩ := run_put (P := Try.prog) (t := 3) (u := .int .i64 r3.2.2) (i := 0) (hS.at_ 4 rfl) hi3 hs3 rfl (Nat.lt_of_lt_of_eq (Nat.lt_of_succ_le (Nat.le_of_ble_eq_true (by kernel_rfl))) rfl)
              refine at_skip hF (by kernel_rfl) hrun ?_
              have hS : Sep w0 B w (blk g1 22 #[.slice A1 a1.length c1] :: blk g2 22 #[.slice A2 b1.length c2] :: blk g5 3 #[.int .i64 r3.1] :: blk g3 3 #[.int .i64 r3.2.1] :: blk g4 3 #[.int .i64 r3.2.2] :: blk g7 22 #[.slice A4 r1.length c4] :: own 3 (.slice A4 r1.length c4) (vI r1) :: blk g8 157 #[.func (.func 113) #[] #[.pointer (some ⟨g1, 0, none⟩), .pointer (some ⟨g2, 0, none⟩), .pointer (some ⟨g5, 0, none⟩), .pointer (some ⟨g3, 0, none⟩), .pointer (some ⟨g4, 0, none⟩), .pointer (some ⟨g7, 0, none⟩), .pointer (some ⟨g8, 0, none⟩)]] :: fs) := hS
              refine any_fin rfl hS ?_
              refine any_step [2] (by kernel_rfl) rfl ?_
              refine (all_cons ?_ all_nil)
              · refine any_op (listed' := #[true, true, true, true, true, false, false]) (by kernel_rfl) (by kernel_rfl) ?_
                refine at_runW 1 [⟨false, [], vS (Instr.loadAt 3 (.pointer (some ⟨g5, 0, none⟩))), .int .i64 r3.1⟩] [some (.int .i64 r3.1)] [6, 7, 8, 47] [pl 6 (.pointer (some ⟨g3, 0, none⟩)), pl 7 (.pointer (some ⟨g4, 0, none⟩)), pl 8 (.pointer (some ⟨g5, 0, none⟩)), pl 47 (.int .i64 r3.1)] hF hS (by kernel_rfl) (by kernel_rfl) ?_ (fun a hF => ?_)
                · exact obs_cons (ob_load Agg3 (fun _ _ hS => (hS.at_ 2 rfl).cell rfl)) <| obs_nil
                refine any_finI rfl (fun h => h) ?_
                refine any_step [5] (by kernel_rfl) rfl ?_
                refine (all_cons ?_ all_nil)
                · refine any_op (listed' := #[true, true, true, true, true, true, false]) (by kernel_rfl) (by kernel_rfl) ?_
                  obtain ⟨w, hrun, hS⟩ := run_put (P := Try.prog) (t := 3) (u := .int .i64 r3.1) (i := 0) (hS.at_ 2 rfl) hi3 hs3 rfl (Nat.lt_of_lt_of_eq (Nat.lt_of_succ_le (Nat.le_of_ble_eq_true (by kernel_rfl))) rfl)
                  refine at_skip hF (by kernel_rfl) hrun ?_
                  have hS : Sep w0 B w (blk g1 22 #[.slice A1 a1.length c1] :: blk g2 22 #[.slice A2 b1.length c2] :: blk g5 3 #[.int .i64 r3.1] :: blk g3 3 #[.int .i64 r3.2.1] :: blk g4 3 #[.int .i64 r3.2.2] :: blk g7 22 #[.slice A4 r1.length c4] :: own 3 (.slice A4 r1.length c4) (vI r1) :: blk g8 157 #[.func (.func 113) #[] #[.pointer (some ⟨g1, 0, none⟩), .pointer (some ⟨g2, 0, none⟩), .pointer (some ⟨g5, 0, none⟩), .pointer (some ⟨g3, 0, none⟩), .pointer (some ⟨g4, 0, none⟩), .pointer (some ⟨g7, 0, none⟩), .pointer (some ⟨g8, 0, none⟩)]] :: fs) := hS
                  refine any_fin rfl hS ?_
                  refine any_step [6] (by kernel_rfl) rfl ?_
                  refine (all_cons ?_ all_nil)
                  · refine any_op (listed' := #[true, true, true, true, true, true, true]) (by kernel_rfl) (by kernel_rfl) ?_
                    refine at_runW 1 [] [] [6, 7, 8, 9] [pl 6 (.pointer (some ⟨g3, 0, none⟩)), pl 7 (.pointer (some ⟨g4, 0, none⟩)), pl 8 (.pointer (some ⟨g5, 0, none⟩)), pl 9 (.int .i64 0)] hF hS (by kernel_rfl) (by kernel_rfl) ?_ (fun a hF => ?_)
                    · exact obs_nil
                    refine any_finI rfl (fun h => h) ?_
                    refine any_end (by kernel_rfl) ?_
                    refine np_n ?_
                    refine then_n ?_
                    have hS := hS.pickN 8 [3, 4, 2] (by decide)
                    exact ⟨hF.weak [6, 7, 8, 9] (by kernel_rfl), hS, hm⟩
          · refine any_op (listed' := #[true, false, true, true, false, false, false]) (by kernel_rfl) (by kernel_rfl) ?_
            refine at_runW 1 [⟨false, [], vS (Instr.loadAt 3 (.pointer (some ⟨g5, 0, none⟩))), .int .i64 r3.1⟩] [some (.int .i64 r3.1)] [6, 7, 8, 47] [pl 6 (.pointer (some ⟨g3, 0, none⟩)), pl 7 (.pointer (some ⟨g4, 0, none⟩)), pl 8 (.pointer (some ⟨g5, 0, none⟩)), pl 47 (.int .i64 r3.1)] hF hS (by kernel_rfl) (by kernel_rfl) ?_ (fun a hF => ?_)
            · exact obs_cons (ob_load Agg3 (fun _ _ hS => (hS.at_ 2 rfl).cell rfl)) <| obs_nil
            refine any_finI rfl (fun h => h) ?_
            refine any_step [1] (by kernel_rfl) rfl ?_
            refine (all_cons ?_ all_nil)
            · refine any_op (listed' := #[true, true, true, true, false, false, false]) (by kernel_rfl) (by kernel_rfl) ?_
              refine at_runW 1 [⟨false, [], vS (Instr.loadAt 3 (.pointer (some ⟨g4, 0, none⟩))), .int .i64 r3.2.2⟩] [some (.int .i64 r3.2.2)] [6, 7, 8, 46, 47] [pl 6 (.pointer (some ⟨g3, 0, none⟩)), pl 7 (.pointer (some ⟨g4, 0, none⟩)), pl 8 (.pointer (some ⟨g5, 0, none⟩)), pl 46 (.int .i64 r3.2.2), pl 47 (.int .i64 r3.1)] hF hS (by kernel_rfl) (by kernel_rfl) ?_ (fun a hF => ?_)
              · exact obs_cons (ob_load Agg3 (fun _ _ hS => (hS.at_ 4 rfl).cell rfl)) <| obs_nil
              refine any_finI rfl (fun h => h) ?_
              refine any_step [4] (by kernel_rfl) rfl ?_
              refine (all_cons ?_ all_nil)
              · refine any_op (listed' := #[true, true, true, true, true, false, false]) (by kernel_rfl) (by kernel_rfl) ?_
                obtain ⟨w, hrun, hS⟩ := run_put (P := Try.prog) (t := 3) (u := .int .i64 r3.2.2) (i := 0) (hS.at_ 4 rfl) hi3 hs3 rfl (Nat.lt_of_lt_of_eq (Nat.lt_of_succ_le (Nat.le_of_ble_eq_true (by kernel_rfl))) rfl)
                refine at_skip hF (by kernel_rfl) hrun ?_
                have hS : Sep w0 B w (blk g1 22 #[.slice A1 a1.length c1] :: blk g2 22 #[.slice A2 b1.length c2] :: blk g5 3 #[.int .i64 r3.1] :: blk g3 3 #[.int .i64 r3.2.1] :: blk g4 3 #[.int .i64 r3.2.2] :: blk g7 22 #[.slice A4 r1.length c4] :: own 3 (.slice A4 r1.length c4) (vI r1) :: blk g8 157 #[.func (.func 113) #[] #[.pointer (some ⟨g1, 0, none⟩), .pointer (some ⟨g2, 0, none⟩), .pointer (some ⟨g5, 0, none⟩), .pointer (some ⟨g3, 0, none⟩), .pointer (some ⟨g4, 0, none⟩), .pointer (some ⟨g7, 0, none⟩), .pointer (some ⟨g8, 0, none⟩)]] :: fs) := hS
                refine any_fin rfl hS ?_
                refine any_step [5] (by kernel_rfl) rfl ?_
                refine (all_cons ?_ all_nil)
                · refine any_op (listed' := #[true, true, true, true, true, true, false]) (by kernel_rfl) (by kernel_rfl) ?_
                  obtain ⟨w, hrun, hS⟩ := run_put (P := Try.prog) (t := 3) (u := .int .i64 r3.1) (i := 0) (hS.at_ 2 rfl) hi3 hs3 rfl (Nat.lt_of_lt_of_eq (Nat.lt_of_succ_le (Nat.le_of_ble_eq_true (by kernel_rfl))) rfl)
                  refine at_skip hF (by kernel_rfl) hrun ?_
                  have hS : Sep w0 B w (blk g1 22 #[.slice A1 a1.length c1] :: blk g2 22 #[.slice A2 b1.length c2] :: blk g5 3 #[.int .i64 r3.1] :: blk g3 3 #[.int .i64 r3.2.1] :: blk g4 3 #[.int .i64 r3.2.2] :: blk g7 22 #[.slice A4 r1.length c4] :: own 3 (.slice A4 r1.length c4) (vI r1) :: blk g8 157 #[.func (.func 113) #[] #[.pointer (some ⟨g1, 0, none⟩), .pointer (some ⟨g2, 0, none⟩), .pointer (some ⟨g5, 0, none⟩), .pointer (some ⟨g3, 0, none⟩), .pointer (some ⟨g4, 0, none⟩), .pointer (some ⟨g7, 0, none⟩), .pointer (some ⟨g8, 0, none⟩)]] :: fs) := hS
                  refine any_fin rfl hS ?_
                  refine any_step [6] (by kernel_rfl) rfl ?_
                  refine (all_cons ?_ all_nil)
                  · refine any_op (listed' := #[true, true, true, true, true, true, true]) (by kernel_rfl) (by kernel_rfl) ?_
                    refine at_runW 1 [] [] [6, 7, 8, 9] [pl 6 (.pointer (some ⟨g3, 0, none⟩)), pl 7 (.pointer (some ⟨g4, 0, none⟩)), pl 8 (.pointer (some ⟨g5, 0, none⟩)), pl 9 (.int .i64 0)] hF hS (by kernel_rfl) (by kernel_rfl) ?_ (fun a hF => ?_)
                    · exact obs_nil
                    refine any_finI rfl (fun h => h) ?_
                    refine any_end (by kernel_rfl) ?_
                    refine np_n ?_
                    refine then_n ?_
                    have hS := hS.pickN 8 [3, 4, 2] (by decide)
                    exact ⟨hF.weak [6, 7, 8, 9] (by kernel_rfl), hS, hm⟩
    · obtain ⟨r2, hr2, hm⟩ := call_b hm
      refine reg [⟨false, [], vS (Instr.loadAt 22 (.pointer (some ⟨g7, 0, none⟩))), .slice A4 r1.length c4⟩, ⟨false, [], callFunc 112 #[.slice A4 r1.length c4], .int .i64 r2⟩] [some (.slice A4 r1.length c4), some (.int .i64 r2), none] [2, 3, 4, 6, 7, 8, 10, 11] [pl 2 (.slice A3 board1.length c3), pl 3 (.pointer (some ⟨g1, 0, none⟩)), pl 4 (.pointer (some ⟨g2, 0, none⟩)), pl 6 (.pointer (some ⟨g3, 0, none⟩)), pl 7 (.pointer (some ⟨g4, 0, none⟩)), pl 8 (.pointer (some ⟨g5, 0, none⟩)), pl 10 (.pointer (some ⟨g7, 0, none⟩)), pl 11 (.int .i64 r2)] hF hS Fol (by kernel_rfl) (by kernel_rfl) (by kernel_rfl) ?_ (fun a w hF hS => ?_)
      · exact obs_cons (ob_load Agg22 (fun _ _ hS => (hS.at_ 0 rfl).cell rfl)) <| obs_cons (ob_call Try.func112 (by kernel_rfl) rfl (fun _ _ hS => poker_check_w hr2 hS (fun _ hS => (hS.at_ 1 rfl).rd) ((hS.at_ 1 rfl).cap1) rfl)) <| obs_nil
      refine reg [] [] [2, 3, 4, 6, 7, 8, 10, 11, 39] [pl 2 (.slice A3 board1.length c3), pl 3 (.pointer (some ⟨g1, 0, none⟩)), pl 4 (.pointer (some ⟨g2, 0, none⟩)), pl 6 (.pointer (some ⟨g3, 0, none⟩)), pl 7 (.pointer (some ⟨g4, 0, none⟩)), pl 8 (.pointer (some ⟨g5, 0, none⟩)), pl 10 (.pointer (some ⟨g7, 0, none⟩)), pl 11 (.int .i64 r2), pl 39 (.bool (r2 != 0))] hF hS Fol (by kernel_rfl) (by kernel_rfl) (by kernel_rfl) ?_ (fun a w hF hS => ?_)
      · exact obs_nil
      refine cond_ev (t := 39) (b := (r2 != 0)) hF (by kernel_rfl) (fun hb => ?_) (fun hb => ?_)
      · replace hm := if_t hm hb
        refine seqR ?_
        refine at_run 1 [] [] [6, 7, 8, 40] [pl 6 (.pointer (some ⟨g3, 0, none⟩)), pl 7 (.pointer (some ⟨g4, 0, none⟩)), pl 8 (.pointer (some ⟨g5, 0, none⟩)), pl 40 (.int .i64 r2)] hF hS (by kernel_rfl) (by kernel_rfl) ?_ (fun a w hF hS => ?_)
        · exact obs_nil
        obtain ⟨w, hrun, hS⟩ := run_put (P := Try.prog) (t := 3) (u := .int .i64 0) (i := 0) (hS.at_ 5 rfl) hi3 hs3 rfl (Nat.lt_of_lt_of_eq (Nat.lt_of_succ_le (Nat.le_of_ble_eq_true (by kernel_rfl))) rfl)
        refine at_skip hF (by kernel_rfl) hrun ?_
        have hS : Sep w0 B w (blk g7 22 #[.slice A4 r1.length c4] :: own 3 (.slice A4 r1.length c4) (vI r1) :: own 22 (.slice g6 3 3) [.slice A1 a1.length c1, .slice A2 b1.length c2, .slice A3 board1.length c3] :: blk g1 22 #[.slice A1 a1.length c1] :: blk g2 22 #[.slice A2 b1.length c2] :: blk g3 3 #[.int .i64 0] :: blk g4 3 #[.int .i64 0] :: blk g5 3 #[.int .i64 0] :: fs) := hS
        obtain ⟨w, hrun, hS⟩ := run_put (P := Try.prog) (t := 3) (u := .int .i64 0) (i := 0) (hS.at_ 6 rfl) hi3 hs3 rfl (Nat.lt_of_lt_of_eq (Nat.lt_of_succ_le (Nat.le_of_ble_eq_true (by kernel_rfl))) rfl)
        refine at_skip hF (by kernel_rfl) hrun ?_
        have hS : Sep w0 B w (blk g7 22 #[.slice A4 r1.length c4] :: own 3 (.slice A4 r1.length c4) (vI r1) :: own 22 (.slice g6 3 3) [.slice A1 a1.length c1, .slice A2 b1.length c2, .slice A3 board1.length c3] :: blk g1 22 #[.slice A1 a1.length c1] :: blk g2 22 #[.slice A2 b1.length c2] :: blk g3 3 #[.int .i64 0] :: blk g4 3 #[.int .i64 0] :: blk g5 3 #[.int .i64 0] :: fs) := hS
        obtain ⟨w, hrun, hS⟩ := run_put (P := Try.prog) (t := 3) (u := .int .i64 0) (i := 0) (hS.at_ 7 rfl) hi3 hs3 rfl (Nat.lt_of_lt_of_eq (Nat.lt_of_succ_le (Nat.le_of_ble_eq_true (by kernel_rfl))) rfl)
        refine at_skip hF (by kernel_rfl) hrun ?_
        have hS : Sep w0 B w (blk g7 22 #[.slice A4 r1.length c4] :: own 3 (.slice A4 r1.length c4) (vI r1) :: own 22 (.slice g6 3 3) [.slice A1 a1.length c1, .slice A2 b1.length c2, .slice A3 board1.length c3] :: blk g1 22 #[.slice A1 a1.length c1] :: blk g2 22 #[.slice A2 b1.length c2] :: blk g3 3 #[.int .i64 0] :: blk g4 3 #[.int .i64 0] :: blk g5 3 #[.int .i64 0] :: fs) := hS
        refine at_run 1 [] [] [6, 7, 8, 9] [pl 6 (.pointer (some ⟨g3, 0, none⟩)), pl 7 (.pointer (some ⟨g4, 0, none⟩)), pl 8 (.pointer (some ⟨g5, 0, none⟩)), pl 9 (.int .i64 r2)] hF hS (by kernel_rfl) (by kernel_rfl) ?_ (fun a w hF hS => ?_)
        · exact obs_nil
        refine at_end [6, 7, 8, 9] [pl 6 (.pointer (some ⟨g3, 0, none⟩)), pl 7 (.pointer (some ⟨g4, 0, none⟩)), pl 8 (.pointer (some ⟨g5, 0, none⟩)), pl 9 (.int .i64 r2)] hF rfl (by kernel_rfl) (fun hF => ?_)
        refine then_n ?_
        refine wpIn_ret ?_
        refine then_r ?_
        have hld0 := run_loadVar1 (P := Try.prog) (t := 3) Agg3 ((hS.at_ 5 rfl).cell (i := 0) rfl)
        have hld1 := run_loadVar1 (P := Try.prog) (t := 3) Agg3 ((hS.at_ 6 rfl).cell (i := 0) rfl)
        have hld2 := run_loadVar1 (P := Try.prog) (t := 3) Agg3 ((hS.at_ 7 rfl).cell (i := 0) rfl)
        have hS := hS.pickN 8 [] (by decide)
        have hm : some (0, 0, 0, r2) = some r := hm
        obtain rfl := Option.some.inj hm
        exact retV (rs := [.cell 6 3, .cell 7 3, .cell 8 3, .tmp 9]) (vs := [.int .i64 0, .int .i64 0, .int .i64 0, .int .i64 r2]) hF rfl (rv_c (by kernel_rfl) hld0 <| rv_c (by kernel_rfl) hld1 <| rv_c (by kernel_rfl) hld2 <| rv_t (by kernel_rfl) <| rv_nil) rfl ⟨rfl, hS⟩
      · replace hm := if_f hm hb
        refine wpIn_skip ?_
        refine then_n ?_
        have hS := hS.pickN 8 [3, 4, 5, 6, 7, 0, 1] (by decide)
        exact ⟨hF.weak [2, 3, 4, 6, 7, 8, 10] (by kernel_rfl), hS, hm⟩
  · refine reg [⟨false, [], vS (Instr.loadAt 22 (.pointer (some ⟨g1, 0, none⟩))), .slice A1 a1.length c1⟩, ⟨false, [(((a1.length : Int) != 2), false)], vS (Instr.loadAt 22 (.pointer (some ⟨g2, 0, none⟩))), .slice A2 b1.length c2⟩] [some (.slice A1 a1.length c1), none, none, none, some (.slice A2 b1.length c2), none, none, none, none, none, none, none, none, none, none, none, none, none] [2, 3, 4, 6, 7, 8, 30] [pl 2 (.slice A3 board1.length c3), pl 3 (.pointer (some ⟨g1, 0, none⟩)), pl 4 (.pointer (some ⟨g2, 0, none⟩)), pl 6 (.pointer (some ⟨g3, 0, none⟩)), pl 7 (.pointer (some ⟨g4, 0, none⟩)), pl 8 (.pointer (some ⟨g5, 0, none⟩)), pl 30 (.bool (((((a1.length : Int) != 2) || ((b1.length : Int) != 2)) || (decide ((board1.length : Int) < 3))) || (decide ((5 : Int) < (board1.length : Int)))))] hF hS Fol (by kernel_rfl) (by kernel_rfl) (by kernel_rfl) ?_ (fun a w hF hS => ?_)
    · exact obs_cons (ob_load Agg22 (fun _ _ hS => (hS.at_ 4 rfl).cell rfl)) <| obs_cons (ob_load Agg22 (fun _ _ hS => (hS.at_ 3 rfl).cell rfl)) <| obs_nil
    refine cond_ev (t := 30) (b := ((((a1.length : Int) != 2) || ((b1.length : Int) != 2)) || (decide ((board1.length : Int) < 3))) || (decide ((5 : Int) < (board1.length : Int)))) hF (by kernel_rfl) (fun hb => ?_) (fun hb => ?_)
    · replace hm := if_t hm hb
      refine seqR ?_
      obtain ⟨w, hrun, hS⟩ := run_put (P := Try.prog) (t := 3) (u := .int .i64 0) (i := 0) (hS.at_ 2 rfl) hi3 hs3 rfl (Nat.lt_of_lt_of_eq (Nat.lt_of_succ_le (Nat.le_of_ble_eq_true (by kernel_rfl))) rfl)
      refine at_skip hF (by kernel_rfl) hrun ?_
      have hS : Sep w0 B w (blk g5 3 #[.int .i64 0] :: blk g4 3 #[.int .i64 0] :: blk g3 3 #[.int .i64 0] :: blk g2 22 #[.slice A2 b1.length c2] :: blk g1 22 #[.slice A1 a1.length c1] :: fs) := hS
      obtain ⟨w, hrun, hS⟩ := run_put (P := Try.prog) (t := 3) (u := .int .i64 0) (i := 0) (hS.at_ 1 rfl) hi3 hs3 rfl (Nat.lt_of_lt_of_eq (Nat.lt_of_succ_le (Nat.le_of_ble_eq_true (by kernel_rfl))) rfl)
      refine at_skip hF (by kernel_rfl) hrun ?_
      have hS : Sep w0 B w (blk g5 3 #[.int .i64 0] :: blk g4 3 #[.int .i64 0] :: blk g3 3 #[.int .i64 0] :: blk g2 22 #[.slice A2 b1.length c2] :: blk g1 22 #[.slice A1 a1.length c1] :: fs) := hS
      obtain ⟨w, hrun, hS⟩ := run_put (P := Try.prog) (t := 3) (u := .int .i64 0) (i := 0) (hS.at_ 0 rfl) hi3 hs3 rfl (Nat.lt_of_lt_of_eq (Nat.lt_of_succ_le (Nat.le_of_ble_eq_true (by kernel_rfl))) rfl)
      refine at_skip hF (by kernel_rfl) hrun ?_
      have hS : Sep w0 B w (blk g5 3 #[.int .i64 0] :: blk g4 3 #[.int .i64 0] :: blk g3 3 #[.int .i64 0] :: blk g2 22 #[.slice A2 b1.length c2] :: blk g1 22 #[.slice A1 a1.length c1] :: fs) := hS
      refine at_run 1 [] [] [6, 7, 8, 9] [pl 6 (.pointer (some ⟨g3, 0, none⟩)), pl 7 (.pointer (some ⟨g4, 0, none⟩)), pl 8 (.pointer (some ⟨g5, 0, none⟩)), pl 9 (.int .i64 11)] hF hS (by kernel_rfl) (by kernel_rfl) ?_ (fun a w hF hS => ?_)
      · exact obs_nil
      refine at_end [6, 7, 8, 9] [pl 6 (.pointer (some ⟨g3, 0, none⟩)), pl 7 (.pointer (some ⟨g4, 0, none⟩)), pl 8 (.pointer (some ⟨g5, 0, none⟩)), pl 9 (.int .i64 11)] hF rfl (by kernel_rfl) (fun hF => ?_)
      refine then_n ?_
      refine wpIn_ret ?_
      refine then_r ?_
      have hld0 := run_loadVar1 (P := Try.prog) (t := 3) Agg3 ((hS.at_ 2 rfl).cell (i := 0) rfl)
      have hld1 := run_loadVar1 (P := Try.prog) (t := 3) Agg3 ((hS.at_ 1 rfl).cell (i := 0) rfl)
      have hld2 := run_loadVar1 (P := Try.prog) (t := 3) Agg3 ((hS.at_ 0 rfl).cell (i := 0) rfl)
      have hS := hS.pickN 5 [] (by decide)
      have hm : some (0, 0, 0, 11) = some r := hm
      obtain rfl := Option.some.inj hm
      exact retV (rs := [.cell 6 3, .cell 7 3, .cell 8 3, .tmp 9]) (vs := [.int .i64 0, .int .i64 0, .int .i64 0, .int .i64 11]) hF rfl (rv_c (by kernel_rfl) hld0 <| rv_c (by kernel_rfl) hld1 <| rv_c (by kernel_rfl) hld2 <| rv_t (by kernel_rfl) <| rv_nil) rfl ⟨rfl, hS⟩
    · replace hm := if_f hm hb
      refine wpIn_skip ?_
      refine then_n ?_
      have hS := hS.pickN 5 [4, 3, 2, 1, 0] (by decide)
      exact ⟨hF.weak [2, 3, 4, 6, 7, 8] (by kernel_rfl), hS, hm⟩

noncomputable def gameroomref_Ints_m  (l1 : List Int) : Option (List Int) :=
  asrt ((0 : Int) + (l1.length : Int) ≤ bigN) <| some ([] ++ l1)

set_option maxRecDepth 100000 in
set_option maxHeartbeats 4000000 in
theorem gameroomref_Ints_w  {A1 : Option Addr} {c1 : Nat} {n1 : Nat} {l1 : List Int} {r : (List Int)} {w0 w : World} {B : Nat} {fs : List HP} (hm : gameroomref_Ints_m l1 = some r) (hS : Sep w0 B w (fs)) (hr_l1 : RdF w0 B fs A1 (vI l1)) (_hc_l1 : l1.length ≤ c1) (_hn_l1 : n1 = l1.length) :
    Calls Try.prog 84 #[.slice A1 n1 c1] w fun e w' => ∃ v, e = .returned v ∧ ∃ (A3 : Option Addr) (c3 : Nat), v = .slice A3 r.length c3 ∧ Sep w0 B w' (own 3 (.slice A3 r.length c3) (vI r) :: fs) := by
  obtain ⟨i3, hi3, hz3, hs3, hb3⟩ := info_parts Info3
  obtain rfl := _hn_l1
  unfold gameroomref_Ints_m at hm
  replace hm := start_b hm
  refine enter (l := [.slice A1 l1.length c1]) (n := 5) Try.func84 rfl rfl (by simp) (fun a hF => ?_)
  refine reg [] [] [0] [pl 0 (.slice A1 l1.length c1)] hF hS Fol (by kernel_rfl) (by kernel_rfl) (by kernel_rfl) ?_ (fun a w hF hS => ?_)
  · exact obs_nil
  refine seqR ?_
  obtain ⟨hp1, hm⟩ := asrt_b hm
  refine at_run 1 [] [] [3] [pl 3 (.slice A1 l1.length c1)] hF hS (by kernel_rfl) (by kernel_rfl) ?_ (fun a w hF hS => ?_)
  · exact obs_nil
  have hS : Sep w0 B w (own 3 (.slice none 0 0) (vI ([] : List Int)) :: fs) := hS.nil 3
  obtain ⟨A2, c2, w, hrun, hS⟩ := run_app1 (P := Try.prog) (t := 22) (m := ([] : List Int)) (ys := l1) (A2 := A1) (m2 := l1.length) (c2 := c1) (Value.int .i64) (0 : Int) (hS.at_ 0 rfl) (hr_l1 _ (hS.dropN 1)) rfl 22 Und22 hi3 hz3 hs3 (by omega) rfl (fun _ => rfl) hp1
  have hS : Sep w0 B w (own 3 (.slice A2 (([] ++ l1).length) c2) (vI ([] ++ l1)) :: fs) := hS
  refine at_do (d := 4) hF (by kernel_rfl) (by kernel_rfl) hrun (fun a hF => ?_)
  refine at_run 1 [] [] [2] [pl 2 (.slice A2 (([] ++ l1).length) c2)] hF hS (by kernel_rfl) (by kernel_rfl) ?_ (fun a w hF hS => ?_)
  · exact obs_nil
  refine at_end [2] [pl 2 (.slice A2 (([] ++ l1).length) c2)] hF rfl (by kernel_rfl) (fun hF => ?_)
  refine then_n ?_
  refine wpIn_ret ?_
  have hm : some ([] ++ l1) = some r := hm
  obtain rfl := Option.some.inj hm
  exact retV (rs := [.tmp 2]) (vs := [.slice A2 (([] ++ l1).length) c2]) hF rfl (rv_t (by kernel_rfl) <| rv_nil) rfl ⟨_, rfl, A2, c2, rfl, hS⟩

noncomputable def gameroomref_ShowdownOf_J3  (c5 : Int) (left3 : List Int) : Option (St (List Int × Int) (List Int)) :=
  some (.next (left3, (w64 (c5 + 1))))

noncomputable def gameroomref_ShowdownOf_J2  (a1 : List Int) (b1 : List Int) (board1 : List Int) (left1 : List Int) (c5 : Int) : Option (St (List Int × Int) (List Int)) :=
  (gameroomref_at_m a1 c5).bind fun r1 => ((if (decide (r1 < 0)) then gameroomref_at_m b1 c5 else some 0)).bind fun r2 => ((if ((decide (r1 < 0)) && (decide (r2 < 0))) then gameroomref_at_m board1 c5 else some 0)).bind fun r3 => if (((decide (r1 < 0)) && (decide (r2 < 0))) && (decide (r3 < 0))) then (asrt ((left1.length : Int) + 1 ≤ bigN) <| (gameroomref_ShowdownOf_J3 c5) (left1 ++ ([c5] : List Int))) else ((gameroomref_ShowdownOf_J3 c5) left1)

noncomputable def gameroomref_ShowdownOf_J13  (i3 : Int) (wins4 : Int) (ties3 : Int) : Option (St (Int × Int × Int) (Int × Int)) :=
  some (.next (wins4, ties3, (w64 (i3 + 1))))

noncomputable def gameroomref_ShowdownOf_J15  (ties1 : Int) (i3 : Int) (r6 : (Int × List Int)) (r8 : (Int × List Int)) (wins3 : Int) : Option (St (Int × Int × Int) (Int × Int)) :=
  if (r6.1 == r8.1) then ((gameroomref_ShowdownOf_J13 i3) wins3 (w64 (ties1 + 1))) else ((gameroomref_ShowdownOf_J13 i3) wins3 ties1)

noncomputable def gameroomref_ShowdownOf_J14  (a1 : List Int) (b1 : List Int) (wins1 : Int) (ties1 : Int) (i3 : Int) (t1 : List Int) : Option (St (Int × Int × Int) (Int × Int)) :=
  (gameroomref_Ints_m a1).bind fun r5 => asrt ((r5.length : Int) + (t1.length : Int) ≤ bigN) <| (gameroomref_BestFive_m (r5 ++ t1)).bind fun r6 => (gameroomref_Ints_m b1).bind fun r7 => asrt ((r7.length : Int) + (t1.length : Int) ≤ bigN) <| (gameroomref_BestFive_m (r7 ++ t1)).bind fun r8 => if (decide (r8.1 < r6.1)) then ((gameroomref_ShowdownOf_J15 ties1 i3 r6 r8) (w64 (wins1 + 1))) else ((gameroomref_ShowdownOf_J15 ties1 i3 r6 r8) wins1)

noncomputable def gameroomref_ShowdownOf_J12  (a1 : List Int) (b1 : List Int) (board1 : List Int) (fills1 : List (List Int)) (wins1 : Int) (ties1 : Int) (i3 : Int) : Option (St (Int × Int × Int) (Int × Int)) :=
  asrt (0 ≤ i3 ∧ i3 < (fills1.length : Int)) <| (gameroomref_Ints_m board1).bind fun r4 => asrt ((r4.length : Int) + (((geti2 fills1 i3).length : Nat) : Int) ≤ bigN) <| (gameroomref_ShowdownOf_J14 a1 b1 wins1 ties1 i3) (r4 ++ (geti2 fills1 i3))

noncomputable def gameroomref_ShowdownOf_L5  (a1 : List Int) (b1 : List Int) (board1 : List Int) (fills1 : List (List Int)) : (Int × Int × Int) → Option (St (Int × Int × Int) (Int × Int)) :=
  fun (x : (Int × Int × Int)) => match x with | (wins1, ties1, i3) => if (decide (i3 < (fills1.length : Int))) then ((gameroomref_ShowdownOf_J12 a1 b1 board1 fills1 wins1 ties1 i3)) else (some (.done (wins1, ties1)))

noncomputable def gameroomref_ShowdownOf_J11  (fills1 : List (List Int)) (wins2 : Int) (ties2 : Int) : Option (Int × Int × Int) :=
  some (wins2, ties2, (fills1.length : Int))

noncomputable def gameroomref_ShowdownOf_K5  (fills1 : List (List Int)) : (Int × Int) → Option (Int × Int × Int) :=
  fun (x : (Int × Int)) => match x with | (wins2, ties2) => (gameroomref_ShowdownOf_J11 fills1) wins2 ties2

noncomputable def gameroomref_ShowdownOf_J4  (a1 : List Int) (b1 : List Int) (board1 : List Int) (fills1 : List (List Int)) : Option (Int × Int × Int) :=
  (loop (gameroomref_ShowdownOf_L5 a1 b1 board1 fills1) (0, 0, 0)).bind (gameroomref_ShowdownOf_K5 fills1)

noncomputable def gameroomref_ShowdownOf_J6  (i1 : Int) (fills3 : List (List Int)) : Option (St (List (List Int) × Int) (List (List Int))) :=
  some (.next (fills3, (w64 (i1 + 1))))

noncomputable def gameroomref_ShowdownOf_J5  (left2 : List Int) (fills2 : List (List Int)) (i1 : Int) : Option (St (List (List Int) × Int) (List (List Int))) :=
  asrt (0 ≤ i1 ∧ i1 < (left2.length : Int)) <| asrt (((fills2.length : Int) : Int) + 1 ≤ bigR) <| (gameroomref_ShowdownOf_J6 i1) (fills2 ++ [([geti left2 i1] : List Int)])

noncomputable def gameroomref_ShowdownOf_L2  (left2 : List Int) : (List (List Int) × Int) → Option (St (List (List Int) × Int) (List (List Int))) :=
  fun (x : (List (List Int) × Int)) => match x with | (fills2, i1) => if (decide (i1 < (left2.length : Int))) then ((gameroomref_ShowdownOf_J5 left2 fills2 i1)) else (some (.done fills2))

noncomputable def gameroomref_ShowdownOf_K2  (a1 : List Int) (b1 : List Int) (board1 : List Int) : (List (List Int)) → Option (Int × Int × Int) :=
  fun (x : (List (List Int))) => match x with | fills1 => (gameroomref_ShowdownOf_J4 a1 b1 board1) fills1

noncomputable def gameroomref_ShowdownOf_J10  (k1 : Int) (fills7 : List (List Int)) : Option (St (List (List Int) × Int) (List (List Int))) :=
  some (.next (fills7, (w64 (k1 + 1))))

noncomputable def gameroomref_ShowdownOf_J9  (left2 : List Int) (i2 : Int) (fills5 : List (List Int)) (k1 : Int) : Option (St (List (List Int) × Int) (List (List Int))) :=
  asrt (0 ≤ i2 ∧ i2 < (left2.length : Int)) <| asrt (0 ≤ k1 ∧ k1 < (left2.length : Int)) <| asrt (((fills5.length : Int) : Int) + 1 ≤ bigR) <| (gameroomref_ShowdownOf_J10 k1) (fills5 ++ [([geti left2 i2, geti left2 k1] : List Int)])

noncomputable def gameroomref_ShowdownOf_L4  (left2 : List Int) (i2 : Int) : (List (List Int) × Int) → Option (St (List (List Int) × Int) (List (List Int))) :=
  fun (x : (List (List Int) × Int)) => match x with | (fills5, k1) => if (decide (k1 < i2)) then ((gameroomref_ShowdownOf_J9 left2 i2 fills5 k1)) else (some (.done fills5))

noncomputable def gameroomref_ShowdownOf_J8  (i2 : Int) (fills6 : List (List Int)) : Option (St (List (List Int) × Int) (List (List Int))) :=
  some (.next (fills6, (w64 (i2 + 1))))

noncomputable def gameroomref_ShowdownOf_K4  (i2 : Int) : (List (List Int)) → Option (St (List (List Int) × Int) (List (List Int))) :=
  fun (x : (List (List Int))) => match x with | fills6 => (gameroomref_ShowdownOf_J8 i2) fills6

noncomputable def gameroomref_ShowdownOf_J7  (left2 : List Int) (fills4 : List (List Int)) (i2 : Int) : Option (St (List (List Int) × Int) (List (List Int))) :=
  (loop (gameroomref_ShowdownOf_L4 left2 i2) (fills4, 0)).bind (gameroomref_ShowdownOf_K4 i2)

noncomputable def gameroomref_ShowdownOf_L3  (left2 : List Int) : (List (List Int) × Int) → Option (St (List (List Int) × Int) (List (List Int))) :=
  fun (x : (List (List Int) × Int)) => match x with | (fills4, i2) => if (decide (i2 < (left2.length : Int))) then ((gameroomref_ShowdownOf_J7 left2 fills4 i2)) else (some (.done fills4))

noncomputable def gameroomref_ShowdownOf_K3  (a1 : List Int) (b1 : List Int) (board1 : List Int) : (List (List Int)) → Option (Int × Int × Int) :=
  fun (x : (List (List Int))) => match x with | fills1 => (gameroomref_ShowdownOf_J4 a1 b1 board1) fills1

noncomputable def gameroomref_ShowdownOf_J1  (a1 : List Int) (b1 : List Int) (board1 : List Int) (left2 : List Int) : Option (Int × Int × Int) :=
  if ((board1.length : Int) == 5) then (asrt ((0 : Int) + 1 ≤ bigR) <| (gameroomref_ShowdownOf_J4 a1 b1 board1) (([] : List (List Int)) ++ [([] : List Int)])) else (if ((board1.length : Int) == 4) then ((loop (gameroomref_ShowdownOf_L2 left2) (([] : List (List Int)), 0)).bind (gameroomref_ShowdownOf_K2 a1 b1 board1)) else (if ((board1.length : Int) == 3) then ((loop (gameroomref_ShowdownOf_L3 left2) (([] : List (List Int)), 0)).bind (gameroomref_ShowdownOf_K3 a1 b1 board1)) else ((gameroomref_ShowdownOf_J4 a1 b1 board1) ([] : List (List Int)))))

noncomputable def gameroomref_ShowdownOf_K1  (a1 : List Int) (b1 : List Int) (board1 : List Int) : (List Int) → Option (Int × Int × Int) :=
  fun (x : (List Int)) => match x with | left2 => (gameroomref_ShowdownOf_J1 a1 b1 board1) left2

noncomputable def gameroomref_ShowdownOf_L1  (a1 : List Int) (b1 : List Int) (board1 : List Int) : (List Int × Int) → Option (St (List Int × Int) (List Int)) :=
  fun (x : (List Int × Int)) => match x with | (left1, c5) => if (decide (c5 < 52)) then ((gameroomref_ShowdownOf_J2 a1 b1 board1 left1 c5)) else (some (.done left1))

noncomputable def gameroomref_ShowdownOf_m  (a1 : List Int) (b1 : List Int) (board1 : List Int) : Option (Int × Int × Int) :=
  (loop (gameroomref_ShowdownOf_L1 a1 b1 board1) (([] : List Int), 0)).bind (gameroomref_ShowdownOf_K1 a1 b1 board1)

set_option maxRecDepth 100000 in
set_option maxHeartbeats 4000000 in
theorem gameroomref_ShowdownOf_w  {A1 : Option Addr} {c1 : Nat} {n1 : Nat} {a1 : List Int} {A2 : Option Addr} {c2 : Nat} {n2 : Nat} {b1 : List Int} {A3 : Option Addr} {c3 : Nat} {n3 : Nat} {board1 : List Int} {r : (Int × Int × Int)} {w0 w : World} {B : Nat} {fs : List HP} (hm : gameroomref_ShowdownOf_m a1 b1 board1 = some r) (hS : Sep w0 B w (fs)) (hr_a1 : RdF w0 B fs A1 (vI a1)) (_hc_a1 : a1.length ≤ c1) (_hn_a1 : n1 = a1.length) (hr_b1 : RdF w0 B fs A2 (vI b1)) (_hc_b1 : b1.length ≤ c2) (_hn_b1 : n2 = b1.length) (hr_board1 : RdF w0 B fs A3 (vI board1)) (_hc_board1 : board1.length ≤ c3) (_hn_board1 : n3 = board1.length) :
    Calls Try.prog 39 #[.slice A1 n1 c1, .slice A2 n2 c2, .slice A3 n3 c3] w fun e w' => e = .returned (.tuple #[.int .i64 r.1, .int .i64 r.2.1, .int .i64 r.2.2]) ∧ Sep w0 B w' (fs) := by
  obtain ⟨i3, hi3, hz3, hs3, hb3⟩ := info_parts Info3
  obtain ⟨i22, hi22, hz22, hs22, hb22⟩ := info_parts Info22
  obtain rfl := _hn_a1
  obtain rfl := _hn_b1
  obtain rfl := _hn_board1
  unfold gameroomref_ShowdownOf_m at hm
  replace hm := start_b hm
  refine enter (l := [.slice A1 a1.length c1, .slice A2 b1.length c2, .slice A3 board1.length c3]) (n := 138) Try.func39 rfl rfl (by simp) (fun a hF => ?_)
  refine reg [] [] [0, 1, 2] [pl 0 (.slice A1 a1.length c1), pl 1 (.slice A2 b1.length c2), pl 2 (.slice A3 board1.length c3)] hF hS Fol (by kernel_rfl) (by kernel_rfl) (by kernel_rfl) ?_ (fun a w hF hS => ?_)
  · exact obs_nil
  refine reg [] [] [0, 1, 2, 9] [pl 0 (.slice A1 a1.length c1), pl 1 (.slice A2 b1.length c2), pl 2 (.slice A3 board1.length c3), pl 9 (.slice none 0 0)] hF hS Fol (by kernel_rfl) (by kernel_rfl) (by kernel_rfl) ?_ (fun a w hF hS => ?_)
  · exact obs_nil
  refine seq_cut (fun a w => ∃ (left2 : List Int) (A5 : Option Addr) (c6 : Nat), Fr 138 [pl 0 (.slice A1 a1.length c1), pl 1 (.slice A2 b1.length c2), pl 2 (.slice A3 board1.length c3), pl 9 (.slice A5 left2.length c6)] a ∧ Sep w0 B w (own 3 (.slice A5 left2.length c6) (vI left2) :: fs) ∧ ((gameroomref_ShowdownOf_J1 a1 b1 board1) left2).bind some = some r) ?_ ?_
  · rintro a w ⟨left2, A5, c6, hF, hS, hm⟩
    unfold gameroomref_ShowdownOf_J1 at hm
    refine reg [] [] [0, 1, 2, 9, 11] [pl 0 (.slice A1 a1.length c1), pl 1 (.slice A2 b1.length c2), pl 2 (.slice A3 board1.length c3), pl 9 (.slice A5 left2.length c6), pl 11 (.slice none 0 0)] hF hS Fol (by kernel_rfl) (by kernel_rfl) (by kernel_rfl) ?_ (fun a w hF hS => ?_)
    · exact obs_nil
    refine seq_cut (fun a w => ∃ (fills1 : List (List Int)) (A9 : Option Addr) (c10 : Nat) (hd1 : List Hd), Fr 138 [pl 0 (.slice A1 a1.length c1), pl 1 (.slice A2 b1.length c2), pl 2 (.slice A3 board1.length c3), pl 11 (.slice A9 fills1.length c10)] a ∧ Sep w0 B w (rows 22 3 (.slice A9 fills1.length c10) hd1 fills1 :: fs) ∧ ((gameroomref_ShowdownOf_J4 a1 b1 board1) fills1).bind some = some r) ?_ ?_
    · rintro a w ⟨fills1, A9, c10, hd1, hF, hS, hm⟩
      unfold gameroomref_ShowdownOf_J4 at hm
      refine reg [] [] [0, 1, 2, 11, 15, 16] [pl 0 (.slice A1 a1.length c1), pl 1 (.slice A2 b1.length c2), pl 2 (.slice A3 board1.length c3), pl 11 (.slice A9 fills1.length c10), pl 15 (.int .i64 0), pl 16 (.int .i64 0)] hF hS Fol (by kernel_rfl) (by kernel_rfl) (by kernel_rfl) ?_ (fun a w hF hS => ?_)
      · exact obs_nil
      refine seq_cut (fun a w => ∃ (wins2 : Int) (ties2 : Int), Fr 138 [pl 11 (.slice A9 fills1.length c10), pl 15 (.int .i64 wins2), pl 16 (.int .i64 ties2)] a ∧ Sep w0 B w (rows 22 3 (.slice A9 fills1.length c10) hd1 fills1 :: fs) ∧ ((gameroomref_ShowdownOf_J11 fills1) wins2 ties2).bind some = some r) ?_ ?_
      · rintro a w ⟨wins2, ties2, hF, hS, hm⟩
        unfold gameroomref_ShowdownOf_J11 at hm
        refine reg [] [] [6, 7, 8] [pl 6 (.int .i64 wins2), pl 7 (.int .i64 ties2), pl 8 (.int .i64 (fills1.length : Int))] hF hS Fol (by kernel_rfl) (by kernel_rfl) (by kernel_rfl) ?_ (fun a w hF hS => ?_)
        · exact obs_nil
        refine wpIn_ret ?_
        have hS := hS.pickN 1 [] (by decide)
        have hm : some (wins2, ties2, (fills1.length : Int)) = some r := hm
        obtain rfl := Option.some.inj hm
        exact retV (rs := [.tmp 6, .tmp 7, .tmp 8]) (vs := [.int .i64 wins2, .int .i64 ties2, .int .i64 (fills1.length : Int)]) hF rfl (rv_t (by kernel_rfl) <| rv_t (by kernel_rfl) <| rv_t (by kernel_rfl) <| rv_nil) rfl ⟨rfl, hS⟩
      · refine reg [] [] [0, 1, 2, 11, 15, 16, 17] [pl 0 (.slice A1 a1.length c1), pl 1 (.slice A2 b1.length c2), pl 2 (.slice A3 board1.length c3), pl 11 (.slice A9 fills1.length c10), pl 15 (.int .i64 0), pl 16 (.int .i64 0), pl 17 (.int .i64 0)] hF hS Fol (by kernel_rfl) (by kernel_rfl) (by kernel_rfl) ?_ (fun a w hF hS => ?_)
        · exact obs_nil
        refine wpIn_block ?_
        refine wp_loop_model (S := (Int × Int × Int)) (R := (Int × Int)) (gameroomref_ShowdownOf_L5 a1 b1 board1 fills1) (fun x => ((gameroomref_ShowdownOf_K5 fills1) x).bind some) r (fun (x : (Int × Int × Int)) a w => Fr 138 [pl 0 (.slice A1 a1.length c1), pl 1 (.slice A2 b1.length c2), pl 2 (.slice A3 board1.length c3), pl 11 (.slice A9 fills1.length c10), pl 15 (.int .i64 x.1), pl 16 (.int .i64 x.2.1), pl 17 (.int .i64 x.2.2)] a ∧ Sep w0 B w (rows 22 3 (.slice A9 fills1.length c10) hd1 fills1 :: fs)) (assoc_b hm) ⟨hF.weak [0, 1, 2, 11, 15, 16, 17] (by kernel_rfl), hS⟩ ?_
        clear hF hS hm
        rintro nn5 ⟨wins1, ties1, i3⟩ a w ⟨hF, hS⟩ hm
        generalize hφ5 : stK (gameroomref_ShowdownOf_L5 a1 b1 board1 fills1) nn5 (fun x => ((gameroomref_ShowdownOf_K5 fills1) x).bind some) = φ5 at hm
        unfold gameroomref_ShowdownOf_L5 at hm
        dsimp only at hF hS hm
        refine seq_cut (fun a w => Fr 138 [pl 0 (.slice A1 a1.length c1), pl 1 (.slice A2 b1.length c2), pl 2 (.slice A3 board1.length c3), pl 11 (.slice A9 fills1.length c10), pl 15 (.int .i64 wins1), pl 16 (.int .i64 ties1), pl 17 (.int .i64 i3)] a ∧ Sep w0 B w (rows 22 3 (.slice A9 fills1.length c10) hd1 fills1 :: fs) ∧ ((gameroomref_ShowdownOf_J12 a1 b1 board1 fills1 wins1 ties1 i3)).bind φ5 = some r) ?_ ?_
        · rintro a w ⟨hF, hS, hm⟩
          unfold gameroomref_ShowdownOf_J12 at hm
          refine seq_cut (fun a w => ∃ (wins4 : Int) (ties3 : Int), Fr 138 [pl 0 (.slice A1 a1.length c1), pl 1 (.slice A2 b1.length c2), pl 2 (.slice A3 board1.length c3), pl 11 (.slice A9 fills1.length c10), pl 15 (.int .i64 wins4), pl 16 (.int .i64 ties3), pl 17 (.int .i64 i3)] a ∧ Sep w0 B w (rows 22 3 (.slice A9 fills1.length c10) hd1 fills1 :: fs) ∧ ((gameroomref_ShowdownOf_J13 i3) wins4 ties3).bind φ5 = some r) ?_ ?_
          · rintro a w ⟨wins4, ties3, hF, hS, hm⟩
            unfold gameroomref_ShowdownOf_J13 at hm
            refine reg1 [] [] [0, 1, 2, 11, 15, 16, 17] [pl 0 (.slice A1 a1.length c1), pl 1 (.slice A2 b1.length c2), pl 2 (.slice A3 board1.length c3), pl 11 (.slice A9 fills1.length c10), pl 15 (.int .i64 wins4), pl 16 (.int .i64 ties3), pl 17 (.int .i64 (w64 (i3 + 1)))] hF hS Fol (by kernel_rfl) (by kernel_rfl) (by kernel_rfl) ?_ (fun a w hF hS => ?_)
            · exact obs_nil
            refine then_n ?_
            rw [← hφ5] at hm
            exact ⟨(wins4, ties3, (w64 (i3 + 1))), ⟨hF.weak [0, 1, 2, 11, 15, 16, 17] (by kernel_rfl), hS⟩, hm⟩
          · refine wpIn_block ?_
            refine seq_cut (fun a w => ∃ (t1 : List Int) (A21 : Option Addr) (c22 : Nat), Fr 138 [pl 0 (.slice A1 a1.length c1), pl 1 (.slice A2 b1.length c2), pl 2 (.slice A3 board1.length c3), pl 11 (.slice A9 fills1.length c10), pl 15 (.int .i64 wins1), pl 16 (.int .i64 ties1), pl 17 (.int .i64 i3), pl 18 (.slice A21 t1.length c22)] a ∧ Sep w0 B w (rows 22 3 (.slice A9 fills1.length c10) hd1 fills1 :: own 3 (.slice A21 t1.length c22) (vI t1) :: fs) ∧ ((gameroomref_ShowdownOf_J14 a1 b1 wins1 ties1 i3) t1).bind φ5 = some r) ?_ ?_
            · rintro a w ⟨t1, A21, c22, hF, hS, hm⟩
              unfold gameroomref_ShowdownOf_J14 at hm
              refine seqR ?_
              obtain ⟨r5, hr5, hm⟩ := call_b hm
              obtain ⟨hp10, hm⟩ := asrt_b hm
              obtain ⟨r6, hr6, hm⟩ := call_b hm
              refine at_run 1 [] [] [0, 1, 2, 11, 15, 16, 17, 18, 109] [pl 0 (.slice A1 a1.length c1), pl 1 (.slice A2 b1.length c2), pl 2 (.slice A3 board1.length c3), pl 11 (.slice A9 fills1.length c10), pl 15 (.int .i64 wins1), pl 16 (.int .i64 ties1), pl 17 (.int .i64 i3), pl 18 (.slice A21 t1.length c22), pl 109 (.slice A1 a1.length c1)] hF hS (by kernel_rfl) (by kernel_rfl) ?_ (fun a w hF hS => ?_)
              · exact obs_nil
              refine at_call (f := 84) (args := #[.slice A1 a1.length c1]) (d := 110) hF (by kernel_rfl) (by kernel_rfl) Try.func84 (by kernel_rfl) rfl (gameroomref_Ints_w hr5 hS (fun _ hS => (hr_a1 _ (hS.dropN 2))) _hc_a1 rfl) (fun v a w hR hF => ?_)
              clear hS
              obtain ⟨A22, c23, rfl, hS⟩ := hR
              have hS : Sep w0 B w (own 3 (.slice A22 r5.length c23) (vI r5) :: rows 22 3 (.slice A9 fills1.length c10) hd1 fills1 :: own 3 (.slice A21 t1.length c22) (vI t1) :: fs) := hS
              refine at_run 1 [] [] [0, 1, 2, 11, 15, 16, 17, 18, 110, 111] [pl 0 (.slice A1 a1.length c1), pl 1 (.slice A2 b1.length c2), pl 2 (.slice A3 board1.length c3), pl 11 (.slice A9 fills1.length c10), pl 15 (.int .i64 wins1), pl 16 (.int .i64 ties1), pl 17 (.int .i64 i3), pl 18 (.slice A21 t1.length c22), pl 110 (.slice A22 r5.length c23), pl 111 (.slice A21 t1.length c22)] hF hS (by kernel_rfl) (by kernel_rfl) ?_ (fun a w hF hS => ?_)
              · exact obs_nil
              obtain ⟨A23, c24, w, hrun, hS⟩ := run_app1 (P := Try.prog) (t := 22) (m := r5) (ys := t1) (A2 := A21) (m2 := t1.length) (c2 := c22) (Value.int .i64) (0 : Int) (hS.at_ 0 rfl) (hS.at_ 2 rfl).rd rfl 22 Und22 hi3 hz3 hs3 (by omega) rfl (fun _ => rfl) hp10
              have hS : Sep w0 B w (own 3 (.slice A23 ((r5 ++ t1).length) c24) (vI (r5 ++ t1)) :: rows 22 3 (.slice A9 fills1.length c10) hd1 fills1 :: own 3 (.slice A21 t1.length c22) (vI t1) :: fs) := hS
              refine at_do (d := 112) hF (by kernel_rfl) (by kernel_rfl) hrun (fun a hF => ?_)
              refine at_call (f := 37) (args := #[.slice A23 ((r5 ++ t1).length) c24]) (d := 113) hF (by kernel_rfl) (by kernel_rfl) Try.func37 (by kernel_rfl) rfl (gameroomref_BestFive_w hr6 hS (fun _ hS => (hS.at_ 0 rfl).rd) ((hS.at_ 0 rfl).cap1) rfl) (fun v a w hR hF => ?_)
              clear hS
              obtain ⟨A24, c25, rfl, hS⟩ := hR
              have hS : Sep w0 B w (own 3 (.slice A24 r6.2.length c25) (vI r6.2) :: own 3 (.slice A23 ((r5 ++ t1).length) c24) (vI (r5 ++ t1)) :: rows 22 3 (.slice A9 fills1.length c10) hd1 fills1 :: own 3 (.slice A21 t1.length c22) (vI t1) :: fs) := hS
              refine at_run 5 [] [] [0, 1, 2, 11, 15, 16, 17, 18, 19] [pl 0 (.slice A1 a1.length c1), pl 1 (.slice A2 b1.length c2), pl 2 (.slice A3 board1.length c3), pl 11 (.slice A9 fills1.length c10), pl 15 (.int .i64 wins1), pl 16 (.int .i64 ties1), pl 17 (.int .i64 i3), pl 18 (.slice A21 t1.length c22), pl 19 (.int .i64 r6.1)] hF hS (by kernel_rfl) (by kernel_rfl) ?_ (fun a w hF hS => ?_)
              · exact obs_nil
              refine at_end [0, 1, 2, 11, 15, 16, 17, 18, 19] [pl 0 (.slice A1 a1.length c1), pl 1 (.slice A2 b1.length c2), pl 2 (.slice A3 board1.length c3), pl 11 (.slice A9 fills1.length c10), pl 15 (.int .i64 wins1), pl 16 (.int .i64 ties1), pl 17 (.int .i64 i3), pl 18 (.slice A21 t1.length c22), pl 19 (.int .i64 r6.1)] hF rfl (by kernel_rfl) (fun hF => ?_)
              refine then_n ?_
              refine seqR ?_
              obtain ⟨r7, hr7, hm⟩ := call_b hm
              obtain ⟨hp11, hm⟩ := asrt_b hm
              obtain ⟨r8, hr8, hm⟩ := call_b hm
              refine at_run 1 [] [] [0, 1, 2, 11, 15, 16, 17, 18, 19, 117] [pl 0 (.slice A1 a1.length c1), pl 1 (.slice A2 b1.length c2), pl 2 (.slice A3 board1.length c3), pl 11 (.slice A9 fills1.length c10), pl 15 (.int .i64 wins1), pl 16 (.int .i64 ties1), pl 17 (.int .i64 i3), pl 18 (.slice A21 t1.length c22), pl 19 (.int .i64 r6.1), pl 117 (.slice A2 b1.length c2)] hF hS (by kernel_rfl) (by kernel_rfl) ?_ (fun a w hF hS => ?_)
              · exact obs_nil
              refine at_call (f := 84) (args := #[.slice A2 b1.length c2]) (d := 118) hF (by kernel_rfl) (by kernel_rfl) Try.func84 (by kernel_rfl) rfl (gameroomref_Ints_w hr7 hS (fun _ hS => (hr_b1 _ (hS.dropN 4))) _hc_b1 rfl) (fun v a w hR hF => ?_)
              clear hS
              obtain ⟨A25, c26, rfl, hS⟩ := hR
              have hS : Sep w0 B w (own 3 (.slice A25 r7.length c26) (vI r7) :: own 3 (.slice A24 r6.2.length c25) (vI r6.2) :: own 3 (.slice A23 ((r5 ++ t1).length) c24) (vI (r5 ++ t1)) :: rows 22 3 (.slice A9 fills1.length c10) hd1 fills1 :: own 3 (.slice A21 t1.length c22) (vI t1) :: fs) := hS
              refine at_run 1 [] [] [0, 1, 2, 11, 15, 16, 17, 19, 118, 119] [pl 0 (.slice A1 a1.length c1), pl 1 (.slice A2 b1.length c2), pl 2 (.slice A3 board1.length c3), pl 11 (.slice A9 fills1.length c10), pl 15 (.int .i64 wins1), pl 16 (.int .i64 ties1), pl 17 (.int .i64 i3), pl 19 (.int .i64 r6.1), pl 118 (.slice A25 r7.length c26), pl 119 (.slice A21 t1.length c22)] hF hS (by kernel_rfl) (by kernel_rfl) ?_ (fun a w hF hS => ?_)
              · exact obs_nil
              obtain ⟨A26, c27, w, hrun, hS⟩ := run_app1 (P := Try.prog) (t := 22) (m := r7) (ys := t1) (A2 := A21) (m2 := t1.length) (c2 := c22) (Value.int .i64) (0 : Int) (hS.at_ 0 rfl) (hS.at_ 4 rfl).rd rfl 22 Und22 hi3 hz3 hs3 (by omega) rfl (fun _ => rfl) hp11
              have hS : Sep w0 B w (own 3 (.slice A26 ((r7 ++ t1).length) c27) (vI (r7 ++ t1)) :: own 3 (.slice A24 r6.2.length c25) (vI r6.2) :: own 3 (.slice A23 ((r5 ++ t1).length) c24) (vI (r5 ++ t1)) :: rows 22 3 (.slice A9 fills1.length c10) hd1 fills1 :: own 3 (.slice A21 t1.length c22) (vI t1) :: fs) := hS
              refine at_do (d := 120) hF (by kernel_rfl) (by kernel_rfl) hrun (fun a hF => ?_)
              refine at_call (f := 37) (args := #[.slice A26 ((r7 ++ t1).length) c27]) (d := 121) hF (by kernel_rfl) (by kernel_rfl) Try.func37 (by kernel_rfl) rfl (gameroomref_BestFive_w hr8 hS (fun _ hS => (hS.at_ 0 rfl).rd) ((hS.at_ 0 rfl).cap1) rfl) (fun v a w hR hF => ?_)
              clear hS
              obtain ⟨A27, c28, rfl, hS⟩ := hR
              have hS : Sep w0 B w (own 3 (.slice A27 r8.2.length c28) (vI r8.2) :: own 3 (.slice A26 ((r7 ++ t1).length) c27) (vI (r7 ++ t1)) :: own 3 (.slice A24 r6.2.length c25) (vI r6.2) :: own 3 (.slice A23 ((r5 ++ t1).length) c24) (vI (r5 ++ t1)) :: rows 22 3 (.slice A9 fills1.length c10) hd1 fills1 :: own 3 (.slice A21 t1.length c22) (vI t1) :: fs) := hS
              refine at_run 5 [] [] [0, 1, 2, 11, 15, 16, 17, 19, 21] [pl 0 (.slice A1 a1.length c1), pl 1 (.slice A2 b1.length c2), pl 2 (.slice A3 board1.length c3), pl 11 (.slice A9 fills1.length c10), pl 15 (.int .i64 wins1), pl 16 (.int .i64 ties1), pl 17 (.int .i64 i3), pl 19 (.int .i64 r6.1), pl 21 (.int .i64 r8.1)] hF hS (by kernel_rfl) (by kernel_rfl) ?_ (fun a w hF hS => ?_)
              · exact obs_nil
              refine at_end [0, 1, 2, 11, 15, 16, 17, 19, 21] [pl 0 (.slice A1 a1.length c1), pl 1 (.slice A2 b1.length c2), pl 2 (.slice A3 board1.length c3), pl 11 (.slice A9 fills1.length c10), pl 15 (.int .i64 wins1), pl 16 (.int .i64 ties1), pl 17 (.int .i64 i3), pl 19 (.int .i64 r6.1), pl 21 (.int .i64 r8.1)] hF rfl (by kernel_rfl) (fun hF => ?_)
              refine then_n ?_
              refine seq_cut (fun a w => ∃ (wins3 : Int), Fr 138 [pl 0 (.slice A1 a1.length c1), pl 1 (.slice A2 b1.length c2), pl 2 (.slice A3 board1.length c3), pl 11 (.slice A9 fills1.length c10), pl 15 (.int .i64 wins3), pl 16 (.int .i64 ties1), pl 17 (.int .i64 i3), pl 19 (.int .i64 r6.1), pl 21 (.int .i64 r8.1)] a ∧ Sep w0 B w (rows 22 3 (.slice A9 fills1.length c10) hd1 fills1 :: fs) ∧ ((gameroomref_ShowdownOf_J15 ties1 i3 r6 r8) wins3).bind φ5 = some r) ?_ ?_
              · rintro a w ⟨wins3, hF, hS, hm⟩
                unfold gameroomref_ShowdownOf_J15 at hm
                refine reg [] [] [0, 1, 2, 11, 15, 16, 17, 131] [pl 0 (.slice A1 a1.length c1), pl 1 (.slice A2 b1.length c2), pl 2 (.slice A3 board1.length c3), pl 11 (.slice A9 fills1.length c10), pl 15 (.int .i64 wins3), pl 16 (.int .i64 ties1), pl 17 (.int .i64 i3), pl 131 (.bool (r6.1 == r8.1))] hF hS Fol (by kernel_rfl) (by kernel_rfl) (by kernel_rfl) ?_ (fun a w hF hS => ?_)
                · exact obs_nil
                refine cond_ev (t := 131) (b := (r6.1 == r8.1)) hF (by kernel_rfl) (fun hb => ?_) (fun hb => ?_)
                · replace hm := if_t hm hb
                  refine reg1 [] [] [0, 1, 2, 11, 15, 16, 17] [pl 0 (.slice A1 a1.length c1), pl 1 (.slice A2 b1.length c2), pl 2 (.slice A3 board1.length c3), pl 11 (.slice A9 fills1.length c10), pl 15 (.int .i64 wins3), pl 16 (.int .i64 (w64 (ties1 + 1))), pl 17 (.int .i64 i3)] hF hS Fol (by kernel_rfl) (by kernel_rfl) (by kernel_rfl) ?_ (fun a w hF hS => ?_)
                  · exact obs_nil
                  refine block_n ?_
                  refine then_n ?_
                  exact ⟨wins3, (w64 (ties1 + 1)), hF.weak [0, 1, 2, 11, 15, 16, 17] (by kernel_rfl), hS, hm⟩
                · replace hm := if_f hm hb
                  refine wpIn_skip ?_
                  refine block_n ?_
                  refine then_n ?_
                  exact ⟨wins3, ties1, hF.weak [0, 1, 2, 11, 15, 16, 17] (by kernel_rfl), hS, hm⟩
              · refine reg [] [] [0, 1, 2, 11, 15, 16, 17, 19, 21, 126] [pl 0 (.slice A1 a1.length c1), pl 1 (.slice A2 b1.length c2), pl 2 (.slice A3 board1.length c3), pl 11 (.slice A9 fills1.length c10), pl 15 (.int .i64 wins1), pl 16 (.int .i64 ties1), pl 17 (.int .i64 i3), pl 19 (.int .i64 r6.1), pl 21 (.int .i64 r8.1), pl 126 (.bool (decide (r8.1 < r6.1)))] hF hS Fol (by kernel_rfl) (by kernel_rfl) (by kernel_rfl) ?_ (fun a w hF hS => ?_)
                · exact obs_nil
                refine cond_ev (t := 126) (b := decide (r8.1 < r6.1)) hF (by kernel_rfl) (fun hb => ?_) (fun hb => ?_)
                · replace hm := if_t hm hb
                  refine reg1 [] [] [0, 1, 2, 11, 15, 16, 17, 19, 21] [pl 0 (.slice A1 a1.length c1), pl 1 (.slice A2 b1.length c2), pl 2 (.slice A3 board1.length c3), pl 11 (.slice A9 fills1.length c10), pl 15 (.int .i64 (w64 (wins1 + 1))), pl 16 (.int .i64 ties1), pl 17 (.int .i64 i3), pl 19 (.int .i64 r6.1), pl 21 (.int .i64 r8.1)] hF hS Fol (by kernel_rfl) (by kernel_rfl) (by kernel_rfl) ?_ (fun a w hF hS => ?_)
                  · exact obs_nil
                  refine then_n ?_
                  have hS := hS.pickN 6 [4] (by decide)
                  exact ⟨(w64 (wins1 + 1)), hF.weak [0, 1, 2, 11, 15, 16, 17, 19, 21] (by kernel_rfl), hS, hm⟩
                · replace hm := if_f hm hb
                  refine wpIn_skip ?_
                  refine then_n ?_
                  have hS := hS.pickN 6 [4] (by decide)
                  exact ⟨wins1, hF.weak [0, 1, 2, 11, 15, 16, 17, 19, 21] (by kernel_rfl), hS, hm⟩
            · obtain ⟨hp8, hm⟩ := asrt_b hm
              obtain ⟨r4, hr4, hm⟩ := call_b hm
              obtain ⟨hp9, hm⟩ := asrt_b hm
              have hb1 := rowb (n := fills1.length) (hS.at_ 0 rfl).lenR hp8
              refine regMix5 [0, 2, 3, 4, 5] [] 3 #[true, false, true, true, true, true, false, false] [⟨true, [], vS (Instr.indexAt 42 (.slice A9 fills1.length c10) (.int .i64 i3)), .pointer (some (sAddr A9 i3))⟩, ⟨false, [], vS (Instr.loadAt 22 (.pointer (some (sAddr A9 i3)))), .slice (hdA hd1 i3) ((geti2 fills1 i3).length) (hdC hd1 i3)⟩] [none, none, none, some (.pointer (some (sAddr A9 i3))), some (.slice (hdA hd1 i3) ((geti2 fills1 i3).length) (hdC hd1 i3))] [0, 1, 2, 11, 15, 16, 17, 101, 106] [pl 0 (.slice A1 a1.length c1), pl 1 (.slice A2 b1.length c2), pl 2 (.slice A3 board1.length c3), pl 11 (.slice A9 fills1.length c10), pl 15 (.int .i64 wins1), pl 16 (.int .i64 ties1), pl 17 (.int .i64 i3), pl 101 (.slice A3 board1.length c3), pl 106 (.slice (hdA hd1 i3) ((geti2 fills1 i3).length) (hdC hd1 i3))] hF hS Fol (by kernel_rfl) (by kernel_rfl) (by kernel_rfl) (by kernel_rfl) ?_ (fun a w hF hS => ?_)
              · exact obs_cons (ob_ixRn Und42 hi22 hs22 (hS.at_ 0 rfl).rdRows (hS.at_ 0 rfl).lenR (fun _ => hp8)) <| obs_cons (ob_getR Agg22 (fun _ hS => ⟨_, (hS.at_ 0 rfl).rdRows⟩) (fun _ => hb1)) <| obs_nil
              refine any_step [1] (by kernel_rfl) rfl ?_
              refine (all_cons ?_ all_nil)
              · refine any_op (listed' := #[true, true, true, true, true, true, false, false]) (by kernel_rfl) (by kernel_rfl) ?_
                refine at_call (f := 84) (args := #[.slice A3 board1.length c3]) (d := 102) hF (by kernel_rfl) (by kernel_rfl) Try.func84 (by kernel_rfl) rfl (gameroomref_Ints_w hr4 hS (fun _ hS => (hr_board1 _ (hS.dropN 1))) _hc_board1 rfl) (fun v a w hR hF => ?_)
                clear hS
                obtain ⟨A20, c21, rfl, hS⟩ := hR
                have hS : Sep w0 B w (own 3 (.slice A20 r4.length c21) (vI r4) :: rows 22 3 (.slice A9 fills1.length c10) hd1 fills1 :: fs) := hS
                refine any_fin rfl (hS.pickN 2 [1] (by decide)) ?_
                refine any_step [6] (by kernel_rfl) rfl ?_
                refine (all_cons ?_ all_nil)
                · refine any_op (listed' := #[true, true, true, true, true, true, true, false]) (by kernel_rfl) (by kernel_rfl) ?_
                  obtain ⟨A19, c20, w, hrun, hS⟩ := run_app1 (P := Try.prog) (t := 22) (m := r4) (ys := (geti2 fills1 i3)) (A2 := (hdA hd1 i3)) (m2 := (geti2 fills1 i3).length) (c2 := (hdC hd1 i3)) (Value.int .i64) (0 : Int) (hS.at_ 0 rfl) ((hS.at_ 1 rfl).rdRows.row _ hb1).1 rfl 22 Und22 hi3 hz3 hs3 (by omega) rfl (fun _ => rfl) hp9
                  have hS : Sep w0 B w (own 3 (.slice A19 ((r4 ++ (geti2 fills1 i3)).length) c20) (vI (r4 ++ (geti2 fills1 i3))) :: rows 22 3 (.slice A9 fills1.length c10) hd1 fills1 :: fs) := hS
                  refine at_do (d := 107) hF (by kernel_rfl) (by kernel_rfl) hrun (fun a hF => ?_)
                  refine any_fin rfl (hS.pickN 2 [1] (by decide)) ?_
                  refine any_step [7] (by kernel_rfl) rfl ?_
                  refine (all_cons ?_ all_nil)
                  · refine any_op (listed' := #[true, true, true, true, true, true, true, true]) (by kernel_rfl) (by kernel_rfl) ?_
                    refine at_runW 1 [] [] [0, 1, 2, 11, 15, 16, 17, 18] [pl 0 (.slice A1 a1.length c1), pl 1 (.slice A2 b1.length c2), pl 2 (.slice A3 board1.length c3), pl 11 (.slice A9 fills1.length c10), pl 15 (.int .i64 wins1), pl 16 (.int .i64 ties1), pl 17 (.int .i64 i3), pl 18 (.slice A19 ((r4 ++ (geti2 fills1 i3)).length) c20)] hF hS (by kernel_rfl) (by kernel_rfl) ?_ (fun a hF => ?_)
                    · exact obs_nil
                    refine any_finI rfl (fun h => h) ?_
                    refine any_end (by kernel_rfl) ?_
                    refine np_n ?_
                    refine then_n ?_
                    have hS := hS.pickN 2 [1, 0] (by decide)
                    exact ⟨(r4 ++ (geti2 fills1 i3)), A19, c20, hF.weak [0, 1, 2, 11, 15, 16, 17, 18] (by kernel_rfl), hS, hm⟩
        · refine reg [] [] [0, 1, 2, 11, 15, 16, 17, 98] [pl 0 (.slice A1 a1.length c1), pl 1 (.slice A2 b1.length c2), pl 2 (.slice A3 board1.length c3), pl 11 (.slice A9 fills1.length c10), pl 15 (.int .i64 wins1), pl 16 (.int .i64 ties1), pl 17 (.int .i64 i3), pl 98 (.bool (decide (i3 < (fills1.length : Int))))] hF hS Fol (by kernel_rfl) (by kernel_rfl) (by kernel_rfl) ?_ (fun a w hF hS => ?_)
          · exact obs_nil
          refine cond_ev (t := 98) (b := decide (i3 < (fills1.length : Int))) hF (by kernel_rfl) (fun hb => ?_) (fun hb => ?_)
          · replace hm := if_t hm hb
            refine wpIn_skip ?_
            refine then_n ?_
            exact ⟨hF.weak [0, 1, 2, 11, 15, 16, 17] (by kernel_rfl), hS, hm⟩
          · replace hm := if_f hm hb
            refine wpIn_exit ?_
            refine then_e (then_e (block_e (then_n ?_)))
            rw [← hφ5] at hm
            replace hm := done_b hm
            unfold gameroomref_ShowdownOf_K5 at hm
            try dsimp only at hm
            have hm : ((gameroomref_ShowdownOf_J11 fills1) wins1 ties1).bind some = some r := hm
            exact ⟨wins1, ties1, hF.weak [11, 15, 16] (by kernel_rfl), hS, hm⟩
    · refine reg [] [] [0, 1, 2, 9, 11, 48] [pl 0 (.slice A1 a1.length c1), pl 1 (.slice A2 b1.length c2), pl 2 (.slice A3 board1.length c3), pl 9 (.slice A5 left2.length c6), pl 11 (.slice none 0 0), pl 48 (.int .i64 (board1.length : Int))] hF hS Fol (by kernel_rfl) (by kernel_rfl) (by kernel_rfl) ?_ (fun a w hF hS => ?_)
      · exact obs_nil
      refine wpIn_block ?_
      refine reg [] [] [0, 1, 2, 9, 11, 48, 49] [pl 0 (.slice A1 a1.length c1), pl 1 (.slice A2 b1.length c2), pl 2 (.slice A3 board1.length c3), pl 9 (.slice A5 left2.length c6), pl 11 (.slice none 0 0), pl 48 (.int .i64 (board1.length : Int)), pl 49 (.bool ((board1.length : Int) == 5))] hF hS Fol (by kernel_rfl) (by kernel_rfl) (by kernel_rfl) ?_ (fun a w hF hS => ?_)
      · exact obs_nil
      refine cond_ev (t := 49) (b := ((board1.length : Int) == 5)) hF (by kernel_rfl) (fun hb => ?_) (fun hb => ?_)
      · replace hm := if_t hm hb
        refine oneR ?_
        obtain ⟨hp2, hm⟩ := asrt_b hm
        refine at_run 1 [] [] [0, 1, 2, 51] [pl 0 (.slice A1 a1.length c1), pl 1 (.slice A2 b1.length c2), pl 2 (.slice A3 board1.length c3), pl 51 (.slice none 0 0)] hF hS (by kernel_rfl) (by kernel_rfl) ?_ (fun a w hF hS => ?_)
        · exact obs_nil
        refine at_do (d := 52) (s := vS (Instr.buildSlice 42 1 #[(0, .slice none 0 0)])) (v := .slice (some ⟨w.heap.size, 0, none⟩) 1 1) (w' := w.alloc (.cells #[.slice none 0 0] 22)) hF (by kernel_rfl) (by kernel_rfl) (by kernel_rfl) (fun a hF => ?_)
        have hS : Sep w0 B (w.alloc (.cells #[.slice none 0 0] 22)) (own 22 (.slice (some (⟨w.heap.size, 0, none⟩ : Addr)) 1 1) [.slice none 0 0] :: (own 3 (.slice A5 left2.length c6) (vI left2) :: fs)) := hS.lit 22 #[.slice none 0 0] 1 rfl (by omega)
        generalize (some (⟨w.heap.size, 0, none⟩ : Addr)) = g2 at hF hS
        generalize w.alloc (.cells #[.slice none 0 0] 22) = w at hS ⊢
        have hS : Sep w0 B w (rows 22 3 (.slice none 0 0) ([]) ([] : List (List Int)) :: own 22 (.slice g2 1 1) [.slice none 0 0] :: own 3 (.slice A5 left2.length c6) (vI left2) :: fs) := hS.nilRows0 22 3
        have hS : Sep w0 B w (own 3 (.slice none (([] : List Int).length) 0) (vI ([] : List Int)) :: rows 22 3 (.slice none 0 0) ([]) ([] : List (List Int)) :: own 22 (.slice g2 1 1) [.slice none 0 0] :: own 3 (.slice A5 left2.length c6) (vI left2) :: fs) := hS.nil 3
        have hS : Sep w0 B w (own 3 (.slice none (([] : List Int).length) 0) (vI ([] : List Int)) :: rows 22 3 (.slice none 0 0) ([]) ([] : List (List Int)) :: own 22 (.slice g2 1 1) [.slice none 0 0] :: own 3 (.slice A5 left2.length c6) (vI left2) :: fs) := hS
        obtain ⟨A8, c9, w, hrun, hS⟩ := run_appRow (P := Try.prog) (t := 42) (A2 := g2) (c2 := 1) (hS.at2 0 rfl) (hS.at_ 2 rfl).rd 42 Und42 hi22 hz22 hs22 hb22 hp2
        have hS : Sep w0 B w (rows 22 3 (.slice A8 ((([] : List (List Int)) ++ [([] : List Int)]).length) c9) (([]) ++ [((none : Option Addr), 0)]) (([] : List (List Int)) ++ [([] : List Int)]) :: own 22 (.slice g2 1 1) [.slice none 0 0] :: own 3 (.slice A5 left2.length c6) (vI left2) :: fs) := hS
        refine at_do (d := 53) hF (by kernel_rfl) (by kernel_rfl) hrun (fun a hF => ?_)
        refine at_run 1 [] [] [0, 1, 2, 11] [pl 0 (.slice A1 a1.length c1), pl 1 (.slice A2 b1.length c2), pl 2 (.slice A3 board1.length c3), pl 11 (.slice A8 ((([] : List (List Int)) ++ [([] : List Int)]).length) c9)] hF hS (by kernel_rfl) (by kernel_rfl) ?_ (fun a w hF hS => ?_)
        · exact obs_nil
        refine at_end [0, 1, 2, 11] [pl 0 (.slice A1 a1.length c1), pl 1 (.slice A2 b1.length c2), pl 2 (.slice A3 board1.length c3), pl 11 (.slice A8 ((([] : List (List Int)) ++ [([] : List Int)]).length) c9)] hF rfl (by kernel_rfl) (fun hF => ?_)
        refine block_n ?_
        refine then_n ?_
        have hS := hS.pickN 3 [0] (by decide)
        exact ⟨(([] : List (List Int)) ++ [([] : List Int)]), A8, c9, (([]) ++ [((none : Option Addr), 0)]), hF.weak [0, 1, 2, 11] (by kernel_rfl), hS, hm⟩
      · replace hm := if_f hm hb
        refine reg [] [] [0, 1, 2, 9, 11, 48, 54] [pl 0 (.slice A1 a1.length c1), pl 1 (.slice A2 b1.length c2), pl 2 (.slice A3 board1.length c3), pl 9 (.slice A5 left2.length c6), pl 11 (.slice none 0 0), pl 48 (.int .i64 (board1.length : Int)), pl 54 (.bool ((board1.length : Int) == 4))] hF hS Fol (by kernel_rfl) (by kernel_rfl) (by kernel_rfl) ?_ (fun a w hF hS => ?_)
        · exact obs_nil
        refine cond_ev (t := 54) (b := ((board1.length : Int) == 4)) hF (by kernel_rfl) (fun hb => ?_) (fun hb => ?_)
        · replace hm := if_t hm hb
          refine reg [] [] [0, 1, 2, 9, 11, 12] [pl 0 (.slice A1 a1.length c1), pl 1 (.slice A2 b1.length c2), pl 2 (.slice A3 board1.length c3), pl 9 (.slice A5 left2.length c6), pl 11 (.slice none 0 0), pl 12 (.int .i64 0)] hF hS Fol (by kernel_rfl) (by kernel_rfl) (by kernel_rfl) ?_ (fun a w hF hS => ?_)
          · exact obs_nil
          refine wpIn_block ?_
          have hS := hS.nilRows0 22 3
          have hl2 := (hS.at_ 0 rfl).lenR
          have hS := (hS.at_ 0 rfl).reNR hl2
          have hS : Sep w0 B w (rows 22 3 (.slice none (([] : List (List Int)).length) 0) ([]) ([] : List (List Int)) :: own 3 (.slice A5 left2.length c6) (vI left2) :: fs) := hS
          have hF := hF.cast (t := 11) (v := .slice none 0 0) (v' := .slice none (([] : List (List Int)).length) 0) rfl rfl (congrArg (fun k => Value.slice none k 0) hl2)
          have hS := hS.pickN 2 [1, 0] (by decide)
          refine wp_loop_model (S := (List (List Int) × Int)) (R := (List (List Int))) (gameroomref_ShowdownOf_L2 left2) (fun x => ((gameroomref_ShowdownOf_K2 a1 b1 board1) x).bind some) r (fun (x : (List (List Int) × Int)) a w => ∃ (A10 : Option Addr) (c11 : Nat) (hd2 : List Hd), Fr 138 [pl 0 (.slice A1 a1.length c1), pl 1 (.slice A2 b1.length c2), pl 2 (.slice A3 board1.length c3), pl 9 (.slice A5 left2.length c6), pl 11 (.slice A10 x.1.length c11), pl 12 (.int .i64 x.2)] a ∧ Sep w0 B w (own 3 (.slice A5 left2.length c6) (vI left2) :: rows 22 3 (.slice A10 x.1.length c11) hd2 x.1 :: fs)) (assoc_b hm) ⟨none, 0, ([]), hF.weak [0, 1, 2, 9, 11, 12] (by kernel_rfl), hS⟩ ?_
          clear hF hS hm
          rintro nn2 ⟨fills2, i1⟩ a w ⟨A10, c11, hd2, hF, hS⟩ hm
          generalize hφ2 : stK (gameroomref_ShowdownOf_L2 left2) nn2 (fun x => ((gameroomref_ShowdownOf_K2 a1 b1 board1) x).bind some) = φ2 at hm
          unfold gameroomref_ShowdownOf_L2 at hm
          dsimp only at hF hS hm
          refine seq_cut (fun a w => Fr 138 [pl 0 (.slice A1 a1.length c1), pl 1 (.slice A2 b1.length c2), pl 2 (.slice A3 board1.length c3), pl 9 (.slice A5 left2.length c6), pl 11 (.slice A10 fills2.length c11), pl 12 (.int .i64 i1)] a ∧ Sep w0 B w (own 3 (.slice A5 left2.length c6) (vI left2) :: rows 22 3 (.slice A10 fills2.length c11) hd2 fills2 :: fs) ∧ ((gameroomref_ShowdownOf_J5 left2 fills2 i1)).bind φ2 = some r) ?_ ?_
          · rintro a w ⟨hF, hS, hm⟩
            unfold gameroomref_ShowdownOf_J5 at hm
            refine seq_cut (fun a w => ∃ (fills3 : List (List Int)) (A12 : Option Addr) (c13 : Nat) (hd3 : List Hd), Fr 138 [pl 0 (.slice A1 a1.length c1), pl 1 (.slice A2 b1.length c2), pl 2 (.slice A3 board1.length c3), pl 9 (.slice A5 left2.length c6), pl 11 (.slice A12 fills3.length c13), pl 12 (.int .i64 i1)] a ∧ Sep w0 B w (own 3 (.slice A5 left2.length c6) (vI left2) :: rows 22 3 (.slice A12 fills3.length c13) hd3 fills3 :: fs) ∧ ((gameroomref_ShowdownOf_J6 i1) fills3).bind φ2 = some r) ?_ ?_
            · rintro a w ⟨fills3, A12, c13, hd3, hF, hS, hm⟩
              unfold gameroomref_ShowdownOf_J6 at hm
              refine reg1 [] [] [0, 1, 2, 9, 11, 12] [pl 0 (.slice A1 a1.length c1), pl 1 (.slice A2 b1.length c2), pl 2 (.slice A3 board1.length c3), pl 9 (.slice A5 left2.length c6), pl 11 (.slice A12 fills3.length c13), pl 12 (.int .i64 (w64 (i1 + 1)))] hF hS Fol (by kernel_rfl) (by kernel_rfl) (by kernel_rfl) ?_ (fun a w hF hS => ?_)
              · exact obs_nil
              refine then_n ?_
              rw [← hφ2] at hm
              exact ⟨(fills3, (w64 (i1 + 1))), ⟨A12, c13, hd3, hF.weak [0, 1, 2, 9, 11, 12] (by kernel_rfl), hS⟩, hm⟩
            · refine wpIn_block ?_
              refine oneR ?_
              obtain ⟨hp3, hm⟩ := asrt_b hm
              obtain ⟨hp4, hm⟩ := asrt_b hm
              refine at_run 5 [⟨true, [], vS (Instr.indexAt 22 (.slice A5 left2.length c6) (.int .i64 i1)), .pointer (some (sAddr A5 i1))⟩, ⟨false, [], vS (Instr.loadAt 3 (.pointer (some (sAddr A5 i1)))), .int .i64 (geti left2 i1)⟩] [none, none, none, some (.pointer (some (sAddr A5 i1))), some (.int .i64 (geti left2 i1))] [0, 1, 2, 9, 12, 62, 66] [pl 0 (.slice A1 a1.length c1), pl 1 (.slice A2 b1.length c2), pl 2 (.slice A3 board1.length c3), pl 9 (.slice A5 left2.length c6), pl 12 (.int .i64 i1), pl 62 (.slice A10 fills2.length c11), pl 66 (.int .i64 (geti left2 i1))] hF hS (by kernel_rfl) (by kernel_rfl) ?_ (fun a w hF hS => ?_)
              · exact obs_cons (ob_ix1 (f := (Value.int .i64)) (m := left2) Und22 hi3 hs3 (hS.at_ 0 rfl).rd rfl (fun _ => hp3)) <| obs_cons (ob_get1 (n := left2.length) (m := left2) (Value.int .i64) (0 : Int) Agg3 (fun _ hS => ⟨_, (hS.at_ 0 rfl).rd⟩) (fun _ hS => rfl) (fun _ => hp3)) <| obs_nil
              refine at_do (d := 67) (s := vS (Instr.buildSlice 22 1 #[(0, .int .i64 (geti left2 i1))])) (v := .slice (some ⟨w.heap.size, 0, none⟩) 1 1) (w' := w.alloc (.cells #[.int .i64 (geti left2 i1)] 3)) hF (by kernel_rfl) (by kernel_rfl) (by kernel_rfl) (fun a hF => ?_)
              have hS : Sep w0 B (w.alloc (.cells #[.int .i64 (geti left2 i1)] 3)) (own 3 (.slice (some (⟨w.heap.size, 0, none⟩ : Addr)) 1 1) (vI ([geti left2 i1] : List Int)) :: (own 3 (.slice A5 left2.length c6) (vI left2) :: rows 22 3 (.slice A10 fills2.length c11) hd2 fills2 :: fs)) := hS.lit 3 #[.int .i64 (geti left2 i1)] 1 rfl (by omega)
              generalize (some (⟨w.heap.size, 0, none⟩ : Addr)) = g3 at hF hS
              generalize w.alloc (.cells #[.int .i64 (geti left2 i1)] 3) = w at hS ⊢
              refine at_do (d := 68) (s := vS (Instr.buildSlice 42 1 #[(0, .slice g3 1 1)])) (v := .slice (some ⟨w.heap.size, 0, none⟩) 1 1) (w' := w.alloc (.cells #[.slice g3 1 1] 22)) hF (by kernel_rfl) (by kernel_rfl) (by kernel_rfl) (fun a hF => ?_)
              have hS : Sep w0 B (w.alloc (.cells #[.slice g3 1 1] 22)) (own 22 (.slice (some (⟨w.heap.size, 0, none⟩ : Addr)) 1 1) [.slice g3 1 1] :: (own 3 (.slice g3 1 1) (vI ([geti left2 i1] : List Int)) :: own 3 (.slice A5 left2.length c6) (vI left2) :: rows 22 3 (.slice A10 fills2.length c11) hd2 fills2 :: fs)) := hS.lit 22 #[.slice g3 1 1] 1 rfl (by omega)
              generalize (some (⟨w.heap.size, 0, none⟩ : Addr)) = g4 at hF hS
              generalize w.alloc (.cells #[.slice g3 1 1] 22) = w at hS ⊢
              have hl3 := (hS.at_ 1 rfl).len1
              have hS := (hS.at_ 1 rfl).reN hl3
              have hS : Sep w0 B w (own 22 (.slice g4 1 1) [.slice g3 1 1] :: own 3 (.slice g3 (([geti left2 i1] : List Int).length) 1) (vI ([geti left2 i1] : List Int)) :: own 3 (.slice A5 left2.length c6) (vI left2) :: rows 22 3 (.slice A10 fills2.length c11) hd2 fills2 :: fs) := hS
              have hS := (hS.at_ 0 rfl).reOwn (congrArg (fun k => [Value.slice g3 k 1]) hl3)
              have hS : Sep w0 B w (own 22 (.slice g4 1 1) [.slice g3 ([geti left2 i1] : List Int).length 1] :: own 3 (.slice g3 (([geti left2 i1] : List Int).length) 1) (vI ([geti left2 i1] : List Int)) :: own 3 (.slice A5 left2.length c6) (vI left2) :: rows 22 3 (.slice A10 fills2.length c11) hd2 fills2 :: fs) := hS
              have hS := hS.pickN 4 [1, 0, 2, 3] (by decide)
              have hS : Sep w0 B w (own 3 (.slice g3 (([geti left2 i1] : List Int).length) 1) (vI ([geti left2 i1] : List Int)) :: own 22 (.slice g4 1 1) [.slice g3 ([geti left2 i1] : List Int).length 1] :: own 3 (.slice A5 left2.length c6) (vI left2) :: rows 22 3 (.slice A10 fills2.length c11) hd2 fills2 :: fs) := hS
              obtain ⟨A11, c12, w, hrun, hS⟩ := run_appRow (P := Try.prog) (t := 42) (A2 := g4) (c2 := 1) (hS.at2 2 rfl) (hS.at_ 1 rfl).rd 42 Und42 hi22 hz22 hs22 hb22 hp4
              have hS : Sep w0 B w (own 22 (.slice g4 1 1) [.slice g3 ([geti left2 i1] : List Int).length 1] :: own 3 (.slice A5 left2.length c6) (vI left2) :: rows 22 3 (.slice A11 ((fills2 ++ [([geti left2 i1] : List Int)]).length) c12) (hd2 ++ [(g3, 1)]) (fills2 ++ [([geti left2 i1] : List Int)]) :: fs) := hS
              refine at_do (d := 69) hF (by kernel_rfl) (by kernel_rfl) hrun (fun a hF => ?_)
              refine at_run 1 [] [] [0, 1, 2, 9, 11, 12] [pl 0 (.slice A1 a1.length c1), pl 1 (.slice A2 b1.length c2), pl 2 (.slice A3 board1.length c3), pl 9 (.slice A5 left2.length c6), pl 11 (.slice A11 ((fills2 ++ [([geti left2 i1] : List Int)]).length) c12), pl 12 (.int .i64 i1)] hF hS (by kernel_rfl) (by kernel_rfl) ?_ (fun a w hF hS => ?_)
              · exact obs_nil
              refine at_end [0, 1, 2, 9, 11, 12] [pl 0 (.slice A1 a1.length c1), pl 1 (.slice A2 b1.length c2), pl 2 (.slice A3 board1.length c3), pl 9 (.slice A5 left2.length c6), pl 11 (.slice A11 ((fills2 ++ [([geti left2 i1] : List Int)]).length) c12), pl 12 (.int .i64 i1)] hF rfl (by kernel_rfl) (fun hF => ?_)
              refine block_n ?_
              refine then_n ?_
              have hS := hS.pickN 3 [1, 2] (by decide)
              exact ⟨(fills2 ++ [([geti left2 i1] : List Int)]), A11, c12, (hd2 ++ [(g3, 1)]), hF.weak [0, 1, 2, 9, 11, 12] (by kernel_rfl), hS, hm⟩
          · refine reg [] [] [0, 1, 2, 9, 11, 12, 59] [pl 0 (.slice A1 a1.length c1), pl 1 (.slice A2 b1.length c2), pl 2 (.slice A3 board1.length c3), pl 9 (.slice A5 left2.length c6), pl 11 (.slice A10 fills2.length c11), pl 12 (.int .i64 i1), pl 59 (.bool (decide (i1 < (left2.length : Int))))] hF hS Fol (by kernel_rfl) (by kernel_rfl) (by kernel_rfl) ?_ (fun a w hF hS => ?_)
            · exact obs_nil
            refine cond_ev (t := 59) (b := decide (i1 < (left2.length : Int))) hF (by kernel_rfl) (fun hb => ?_) (fun hb => ?_)
            · replace hm := if_t hm hb
              refine wpIn_skip ?_
              refine then_n ?_
              exact ⟨hF.weak [0, 1, 2, 9, 11, 12] (by kernel_rfl), hS, hm⟩
            · replace hm := if_f hm hb
              refine wpIn_exit ?_
              refine then_e (then_e (block_e (block_n (then_n ?_))))
              have hS := hS.pickN 2 [1] (by decide)
              rw [← hφ2] at hm
              replace hm := done_b hm
              unfold gameroomref_ShowdownOf_K2 at hm
              try dsimp only at hm
              have hm : ((gameroomref_ShowdownOf_J4 a1 b1 board1) fills2).bind some = some r := hm
              exact ⟨fills2, A10, c11, hd2, hF.weak [0, 1, 2, 11] (by kernel_rfl), hS, hm⟩
        · replace hm := if_f hm hb
          refine reg [] [] [0, 1, 2, 9, 11, 70] [pl 0 (.slice A1 a1.length c1), pl 1 (.slice A2 b1.length c2), pl 2 (.slice A3 board1.length c3), pl 9 (.slice A5 left2.length c6), pl 11 (.slice none 0 0), pl 70 (.bool ((board1.length : Int) == 3))] hF hS Fol (by kernel_rfl) (by kernel_rfl) (by kernel_rfl) ?_ (fun a w hF hS => ?_)
          · exact obs_nil
          refine cond_ev (t := 70) (b := ((board1.length : Int) == 3)) hF (by kernel_rfl) (fun hb => ?_) (fun hb => ?_)
          · replace hm := if_t hm hb
            refine reg [] [] [0, 1, 2, 9, 11, 13] [pl 0 (.slice A1 a1.length c1), pl 1 (.slice A2 b1.length c2), pl 2 (.slice A3 board1.length c3), pl 9 (.slice A5 left2.length c6), pl 11 (.slice none 0 0), pl 13 (.int .i64 0)] hF hS Fol (by kernel_rfl) (by kernel_rfl) (by kernel_rfl) ?_ (fun a w hF hS => ?_)
            · exact obs_nil
            refine wpIn_block ?_
            have hS := hS.nilRows0 22 3
            have hl4 := (hS.at_ 0 rfl).lenR
            have hS := (hS.at_ 0 rfl).reNR hl4
            have hS : Sep w0 B w (rows 22 3 (.slice none (([] : List (List Int)).length) 0) ([]) ([] : List (List Int)) :: own 3 (.slice A5 left2.length c6) (vI left2) :: fs) := hS
            have hF := hF.cast (t := 11) (v := .slice none 0 0) (v' := .slice none (([] : List (List Int)).length) 0) rfl rfl (congrArg (fun k => Value.slice none k 0) hl4)
            have hS := hS.pickN 2 [1, 0] (by decide)
            refine wp_loop_model (S := (List (List Int) × Int)) (R := (List (List Int))) (gameroomref_ShowdownOf_L3 left2) (fun x => ((gameroomref_ShowdownOf_K3 a1 b1 board1) x).bind some) r (fun (x : (List (List Int) × Int)) a w => ∃ (A13 : Option Addr) (c14 : Nat) (hd4 : List Hd), Fr 138 [pl 0 (.slice A1 a1.length c1), pl 1 (.slice A2 b1.length c2), pl 2 (.slice A3 board1.length c3), pl 9 (.slice A5 left2.length c6), pl 11 (.slice A13 x.1.length c14), pl 13 (.int .i64 x.2)] a ∧ Sep w0 B w (own 3 (.slice A5 left2.length c6) (vI left2) :: rows 22 3 (.slice A13 x.1.length c14) hd4 x.1 :: fs)) (assoc_b hm) ⟨none, 0, ([]), hF.weak [0, 1, 2, 9, 11, 13] (by kernel_rfl), hS⟩ ?_
            clear hF hS hm
            rintro nn3 ⟨fills4, i2⟩ a w ⟨A13, c14, hd4, hF, hS⟩ hm
            generalize hφ3 : stK (gameroomref_ShowdownOf_L3 left2) nn3 (fun x => ((gameroomref_ShowdownOf_K3 a1 b1 board1) x).bind some) = φ3 at hm
            unfold gameroomref_ShowdownOf_L3 at hm
            dsimp only at hF hS hm
            refine seq_cut (fun a w => Fr 138 [pl 0 (.slice A1 a1.length c1), pl 1 (.slice A2 b1.length c2), pl 2 (.slice A3 board1.length c3), pl 9 (.slice A5 left2.length c6), pl 11 (.slice A13 fills4.length c14), pl 13 (.int .i64 i2)] a ∧ Sep w0 B w (own 3 (.slice A5 left2.length c6) (vI left2) :: rows 22 3 (.slice A13 fills4.length c14) hd4 fills4 :: fs) ∧ ((gameroomref_ShowdownOf_J7 left2 fills4 i2)).bind φ3 = some r) ?_ ?_
            · rintro a w ⟨hF, hS, hm⟩
              unfold gameroomref_ShowdownOf_J7 at hm
              refine seq_cut (fun a w => ∃ (fills6 : List (List Int)) (A15 : Option Addr) (c16 : Nat) (hd6 : List Hd), Fr 138 [pl 0 (.slice A1 a1.length c1), pl 1 (.slice A2 b1.length c2), pl 2 (.slice A3 board1.length c3), pl 9 (.slice A5 left2.length c6), pl 11 (.slice A15 fills6.length c16), pl 13 (.int .i64 i2)] a ∧ Sep w0 B w (own 3 (.slice A5 left2.length c6) (vI left2) :: rows 22 3 (.slice A15 fills6.length c16) hd6 fills6 :: fs) ∧ ((gameroomref_ShowdownOf_J8 i2) fills6).bind φ3 = some r) ?_ ?_
              · rintro a w ⟨fills6, A15, c16, hd6, hF, hS, hm⟩
                unfold gameroomref_ShowdownOf_J8 at hm
                refine reg1 [] [] [0, 1, 2, 9, 11, 13] [pl 0 (.slice A1 a1.length c1), pl 1 (.slice A2 b1.length c2), pl 2 (.slice A3 board1.length c3), pl 9 (.slice A5 left2.length c6), pl 11 (.slice A15 fills6.length c16), pl 13 (.int .i64 (w64 (i2 + 1)))] hF hS Fol (by kernel_rfl) (by kernel_rfl) (by kernel_rfl) ?_ (fun a w hF hS => ?_)
                · exact obs_nil
                refine then_n ?_
                rw [← hφ3] at hm
                exact ⟨(fills6, (w64 (i2 + 1))), ⟨A15, c16, hd6, hF.weak [0, 1, 2, 9, 11, 13] (by kernel_rfl), hS⟩, hm⟩
              · refine wpIn_block ?_
                refine reg [] [] [0, 1, 2, 9, 11, 13, 14] [pl 0 (.slice A1 a1.length c1), pl 1 (.slice A2 b1.length c2), pl 2 (.slice A3 board1.length c3), pl 9 (.slice A5 left2.length c6), pl 11 (.slice A13 fills4.length c14), pl 13 (.int .i64 i2), pl 14 (.int .i64 0)] hF hS Fol (by kernel_rfl) (by kernel_rfl) (by kernel_rfl) ?_ (fun a w hF hS => ?_)
                · exact obs_nil
                refine wpIn_block ?_
                refine wp_loop_model (S := (List (List Int) × Int)) (R := (List (List Int))) (gameroomref_ShowdownOf_L4 left2 i2) (fun x => ((gameroomref_ShowdownOf_K4 i2) x).bind φ3) r (fun (x : (List (List Int) × Int)) a w => ∃ (A14 : Option Addr) (c15 : Nat) (hd5 : List Hd), Fr 138 [pl 0 (.slice A1 a1.length c1), pl 1 (.slice A2 b1.length c2), pl 2 (.slice A3 board1.length c3), pl 9 (.slice A5 left2.length c6), pl 11 (.slice A14 x.1.length c15), pl 13 (.int .i64 i2), pl 14 (.int .i64 x.2)] a ∧ Sep w0 B w (own 3 (.slice A5 left2.length c6) (vI left2) :: rows 22 3 (.slice A14 x.1.length c15) hd5 x.1 :: fs)) (assoc_b hm) ⟨A13, c14, hd4, hF.weak [0, 1, 2, 9, 11, 13, 14] (by kernel_rfl), hS⟩ ?_
                clear hF hS hm
                rintro nn4 ⟨fills5, k1⟩ a w ⟨A14, c15, hd5, hF, hS⟩ hm
                generalize hφ4 : stK (gameroomref_ShowdownOf_L4 left2 i2) nn4 (fun x => ((gameroomref_ShowdownOf_K4 i2) x).bind φ3) = φ4 at hm
                unfold gameroomref_ShowdownOf_L4 at hm
                dsimp only at hF hS hm
                refine seq_cut (fun a w => Fr 138 [pl 0 (.slice A1 a1.length c1), pl 1 (.slice A2 b1.length c2), pl 2 (.slice A3 board1.length c3), pl 9 (.slice A5 left2.length c6), pl 11 (.slice A14 fills5.length c15), pl 13 (.int .i64 i2), pl 14 (.int .i64 k1)] a ∧ Sep w0 B w (own 3 (.slice A5 left2.length c6) (vI left2) :: rows 22 3 (.slice A14 fills5.length c15) hd5 fills5 :: fs) ∧ ((gameroomref_ShowdownOf_J9 left2 i2 fills5 k1)).bind φ4 = some r) ?_ ?_
                · rintro a w ⟨hF, hS, hm⟩
                  unfold gameroomref_ShowdownOf_J9 at hm
                  refine seq_cut (fun a w => ∃ (fills7 : List (List Int)) (A17 : Option Addr) (c18 : Nat) (hd7 : List Hd), Fr 138 [pl 0 (.slice A1 a1.length c1), pl 1 (.slice A2 b1.length c2), pl 2 (.slice A3 board1.length c3), pl 9 (.slice A5 left2.length c6), pl 11 (.slice A17 fills7.length c18), pl 13 (.int .i64 i2), pl 14 (.int .i64 k1)] a ∧ Sep w0 B w (own 3 (.slice A5 left2.length c6) (vI left2) :: rows 22 3 (.slice A17 fills7.length c18) hd7 fills7 :: fs) ∧ ((gameroomref_ShowdownOf_J10 k1) fills7).bind φ4 = some r) ?_ ?_
                  · rintro a w ⟨fills7, A17, c18, hd7, hF, hS, hm⟩
                    unfold gameroomref_ShowdownOf_J10 at hm
                    refine reg1 [] [] [0, 1, 2, 9, 11, 13, 14] [pl 0 (.slice A1 a1.length c1), pl 1 (.slice A2 b1.length c2), pl 2 (.slice A3 board1.length c3), pl 9 (.slice A5 left2.length c6), pl 11 (.slice A17 fills7.length c18), pl 13 (.int .i64 i2), pl 14 (.int .i64 (w64 (k1 + 1)))] hF hS Fol (by kernel_rfl) (by kernel_rfl) (by kernel_rfl) ?_ (fun a w hF hS => ?_)
                    · exact obs_nil
                    refine then_n ?_
                    rw [← hφ4] at hm
                    exact ⟨(fills7, (w64 (k1 + 1))), ⟨A17, c18, hd7, hF.weak [0, 1, 2, 9, 11, 13, 14] (by kernel_rfl), hS⟩, hm⟩
                  · refine wpIn_block ?_
                    obtain ⟨hp5, hm⟩ := asrt_b hm
                    obtain ⟨hp6, hm⟩ := asrt_b hm
                    obtain ⟨hp7, hm⟩ := asrt_b hm
                    refine regMix4 [0, 1, 2, 3, 4, 5, 6, 7, 8] [9, 10, 11, 12] [⟨true, [], vS (Instr.indexAt 22 (.slice A5 left2.length c6) (.int .i64 i2)), .pointer (some (sAddr A5 i2))⟩, ⟨false, [], vS (Instr.loadAt 3 (.pointer (some (sAddr A5 i2)))), .int .i64 (geti left2 i2)⟩, ⟨true, [], vS (Instr.indexAt 22 (.slice A5 left2.length c6) (.int .i64 k1)), .pointer (some (sAddr A5 k1))⟩, ⟨false, [], vS (Instr.loadAt 3 (.pointer (some (sAddr A5 k1)))), .int .i64 (geti left2 k1)⟩] [none, none, none, some (.pointer (some (sAddr A5 i2))), some (.int .i64 (geti left2 i2)), none, none, some (.pointer (some (sAddr A5 k1))), some (.int .i64 (geti left2 k1))] [0, 1, 2, 9, 13, 14, 83, 87, 91] [pl 0 (.slice A1 a1.length c1), pl 1 (.slice A2 b1.length c2), pl 2 (.slice A3 board1.length c3), pl 9 (.slice A5 left2.length c6), pl 13 (.int .i64 i2), pl 14 (.int .i64 k1), pl 83 (.slice A14 fills5.length c15), pl 87 (.int .i64 (geti left2 i2)), pl 91 (.int .i64 (geti left2 k1))] hF hS Fol (by kernel_rfl) (by kernel_rfl) (by kernel_rfl) (by kernel_rfl) (by kernel_rfl) ?_ (fun a w hF hS => ?_)
                    · exact obs_cons (ob_ix1 (f := (Value.int .i64)) (m := left2) Und22 hi3 hs3 (hS.at_ 0 rfl).rd rfl (fun _ => hp5)) <| obs_cons (ob_get1 (n := left2.length) (m := left2) (Value.int .i64) (0 : Int) Agg3 (fun _ hS => ⟨_, (hS.at_ 0 rfl).rd⟩) (fun _ hS => rfl) (fun _ => hp5)) <| obs_cons (ob_ix1 (f := (Value.int .i64)) (m := left2) Und22 hi3 hs3 (hS.at_ 0 rfl).rd rfl (fun _ => hp6)) <| obs_cons (ob_get1 (n := left2.length) (m := left2) (Value.int .i64) (0 : Int) Agg3 (fun _ hS => ⟨_, (hS.at_ 0 rfl).rd⟩) (fun _ hS => rfl) (fun _ => hp6)) <| obs_nil
                    refine at_do (d := 92) (s := vS (Instr.buildSlice 22 2 #[(0, .int .i64 (geti left2 i2)), (1, .int .i64 (geti left2 k1))])) (v := .slice (some ⟨w.heap.size, 0, none⟩) 2 2) (w' := w.alloc (.cells #[.int .i64 (geti left2 i2), .int .i64 (geti left2 k1)] 3)) hF (by kernel_rfl) (by kernel_rfl) (by kernel_rfl) (fun a hF => ?_)
                    have hS : Sep w0 B (w.alloc (.cells #[.int .i64 (geti left2 i2), .int .i64 (geti left2 k1)] 3)) (own 3 (.slice (some (⟨w.heap.size, 0, none⟩ : Addr)) 2 2) (vI ([geti left2 i2, geti left2 k1] : List Int)) :: (own 3 (.slice A5 left2.length c6) (vI left2) :: rows 22 3 (.slice A14 fills5.length c15) hd5 fills5 :: fs)) := hS.lit 3 #[.int .i64 (geti left2 i2), .int .i64 (geti left2 k1)] 2 rfl (by omega)
                    generalize (some (⟨w.heap.size, 0, none⟩ : Addr)) = g5 at hF hS
                    generalize w.alloc (.cells #[.int .i64 (geti left2 i2), .int .i64 (geti left2 k1)] 3) = w at hS ⊢
                    refine at_do (d := 93) (s := vS (Instr.buildSlice 42 1 #[(0, .slice g5 2 2)])) (v := .slice (some ⟨w.heap.size, 0, none⟩) 1 1) (w' := w.alloc (.cells #[.slice g5 2 2] 22)) hF (by kernel_rfl) (by kernel_rfl) (by kernel_rfl) (fun a hF => ?_)
                    have hS : Sep w0 B (w.alloc (.cells #[.slice g5 2 2] 22)) (own 22 (.slice (some (⟨w.heap.size, 0, none⟩ : Addr)) 1 1) [.slice g5 2 2] :: (own 3 (.slice g5 2 2) (vI ([geti left2 i2, geti left2 k1] : List Int)) :: own 3 (.slice A5 left2.length c6) (vI left2) :: rows 22 3 (.slice A14 fills5.length c15) hd5 fills5 :: fs)) := hS.lit 22 #[.slice g5 2 2] 1 rfl (by omega)
                    generalize (some (⟨w.heap.size, 0, none⟩ : Addr)) = g6 at hF hS
                    generalize w.alloc (.cells #[.slice g5 2 2] 22) = w at hS ⊢
                    have hl5 := (hS.at_ 1 rfl).len1
                    have hS := (hS.at_ 1 rfl).reN hl5
                    have hS : Sep w0 B w (own 22 (.slice g6 1 1) [.slice g5 2 2] :: own 3 (.slice g5 (([geti left2 i2, geti left2 k1] : List Int).length) 2) (vI ([geti left2 i2, geti left2 k1] : List Int)) :: own 3 (.slice A5 left2.length c6) (vI left2) :: rows 22 3 (.slice A14 fills5.length c15) hd5 fills5 :: fs) := hS
                    have hS := (hS.at_ 0 rfl).reOwn (congrArg (fun k => [Value.slice g5 k 2]) hl5)
                    have hS : Sep w0 B w (own 22 (.slice g6 1 1) [.slice g5 ([geti left2 i2, geti left2 k1] : List Int).length 2] :: own 3 (.slice g5 (([geti left2 i2, geti left2 k1] : List Int).length) 2) (vI ([geti left2 i2, geti left2 k1] : List Int)) :: own 3 (.slice A5 left2.length c6) (vI left2) :: rows 22 3 (.slice A14 fills5.length c15) hd5 fills5 :: fs) := hS
                    have hS := hS.pickN 4 [1, 0, 2, 3] (by decide)
                    have hS : Sep w0 B w (own 3 (.slice g5 (([geti left2 i2, geti left2 k1] : List Int).length) 2) (vI ([geti left2 i2, geti left2 k1] : List Int)) :: own 22 (.slice g6 1 1) [.slice g5 ([geti left2 i2, geti left2 k1] : List Int).length 2] :: own 3 (.slice A5 left2.length c6) (vI left2) :: rows 22 3 (.slice A14 fills5.length c15) hd5 fills5 :: fs) := hS
                    obtain ⟨A16, c17, w, hrun, hS⟩ := run_appRow (P := Try.prog) (t := 42) (A2 := g6) (c2 := 1) (hS.at2 2 rfl) (hS.at_ 1 rfl).rd 42 Und42 hi22 hz22 hs22 hb22 hp7
                    have hS : Sep w0 B w (own 22 (.slice g6 1 1) [.slice g5 ([geti left2 i2, geti left2 k1] : List Int).length 2] :: own 3 (.slice A5 left2.length c6) (vI left2) :: rows 22 3 (.slice A16 ((fills5 ++ [([geti left2 i2, geti left2 k1] : List Int)]).length) c17) (hd5 ++ [(g5, 2)]) (fills5 ++ [([geti left2 i2, geti left2 k1] : List Int)]) :: fs) := hS
                    refine at_do (d := 94) hF (by kernel_rfl) (by kernel_rfl) hrun (fun a hF => ?_)
                    refine at_run 1 [] [] [0, 1, 2, 9, 11, 13, 14] [pl 0 (.slice A1 a1.length c1), pl 1 (.slice A2 b1.length c2), pl 2 (.slice A3 board1.length c3), pl 9 (.slice A5 left2.length c6), pl 11 (.slice A16 ((fills5 ++ [([geti left2 i2, geti left2 k1] : List Int)]).length) c17), pl 13 (.int .i64 i2), pl 14 (.int .i64 k1)] hF hS (by kernel_rfl) (by kernel_rfl) ?_ (fun a w hF hS => ?_)
                    · exact obs_nil
                    refine at_end [0, 1, 2, 9, 11, 13, 14] [pl 0 (.slice A1 a1.length c1), pl 1 (.slice A2 b1.length c2), pl 2 (.slice A3 board1.length c3), pl 9 (.slice A5 left2.length c6), pl 11 (.slice A16 ((fills5 ++ [([geti left2 i2, geti left2 k1] : List Int)]).length) c17), pl 13 (.int .i64 i2), pl 14 (.int .i64 k1)] hF rfl (by kernel_rfl) (fun hF => ?_)
                    refine np_n ?_
                    refine block_n ?_
                    refine then_n ?_
                    have hS := hS.pickN 3 [1, 2] (by decide)
                    exact ⟨(fills5 ++ [([geti left2 i2, geti left2 k1] : List Int)]), A16, c17, (hd5 ++ [(g5, 2)]), hF.weak [0, 1, 2, 9, 11, 13, 14] (by kernel_rfl), hS, hm⟩
                · refine reg [] [] [0, 1, 2, 9, 11, 13, 14, 80] [pl 0 (.slice A1 a1.length c1), pl 1 (.slice A2 b1.length c2), pl 2 (.slice A3 board1.length c3), pl 9 (.slice A5 left2.length c6), pl 11 (.slice A14 fills5.length c15), pl 13 (.int .i64 i2), pl 14 (.int .i64 k1), pl 80 (.bool (decide (k1 < i2)))] hF hS Fol (by kernel_rfl) (by kernel_rfl) (by kernel_rfl) ?_ (fun a w hF hS => ?_)
                  · exact obs_nil
                  refine cond_ev (t := 80) (b := decide (k1 < i2)) hF (by kernel_rfl) (fun hb => ?_) (fun hb => ?_)
                  · replace hm := if_t hm hb
                    refine wpIn_skip ?_
                    refine then_n ?_
                    exact ⟨hF.weak [0, 1, 2, 9, 11, 13, 14] (by kernel_rfl), hS, hm⟩
                  · replace hm := if_f hm hb
                    refine wpIn_exit ?_
                    refine then_e (then_e (block_e (block_n (then_n ?_))))
                    rw [← hφ4] at hm
                    replace hm := done_b hm
                    unfold gameroomref_ShowdownOf_K4 at hm
                    try dsimp only at hm
                    have hm : ((gameroomref_ShowdownOf_J8 i2) fills5).bind φ3 = some r := hm
                    exact ⟨fills5, A14, c15, hd5, hF.weak [0, 1, 2, 9, 11, 13] (by kernel_rfl), hS, hm⟩
            · refine reg [] [] [0, 1, 2, 9, 11, 13, 75] [pl 0 (.slice A1 a1.length c1), pl 1 (.slice A2 b1.length c2), pl 2 (.slice A3 board1.length c3), pl 9 (.slice A5 left2.length c6), pl 11 (.slice A13 fills4.length c14), pl 13 (.int .i64 i2), pl 75 (.bool (decide (i2 < (left2.length : Int))))] hF hS Fol (by kernel_rfl) (by kernel_rfl) (by kernel_rfl) ?_ (fun a w hF hS => ?_)
              · exact obs_nil
              refine cond_ev (t := 75) (b := decide (i2 < (left2.length : Int))) hF (by kernel_rfl) (fun hb => ?_) (fun hb => ?_)
              · replace hm := if_t hm hb
                refine wpIn_skip ?_
                refine then_n ?_
                exact ⟨hF.weak [0, 1, 2, 9, 11, 13] (by kernel_rfl), hS, hm⟩
              · replace hm := if_f hm hb
                refine wpIn_exit ?_
                refine then_e (then_e (block_e (block_n (then_n ?_))))
                have hS := hS.pickN 2 [1] (by decide)
                rw [← hφ3] at hm
                replace hm := done_b hm
                unfold gameroomref_ShowdownOf_K3 at hm
                try dsimp only at hm
                have hm : ((gameroomref_ShowdownOf_J4 a1 b1 board1) fills4).bind some = some r := hm
                exact ⟨fills4, A13, c14, hd4, hF.weak [0, 1, 2, 11] (by kernel_rfl), hS, hm⟩
          · replace hm := if_f hm hb
            refine wpIn_skip ?_
            refine block_n ?_
            refine then_n ?_
            have hS := hS.nilRows0 22 3
            have hl6 := (hS.at_ 0 rfl).lenR
            have hS := (hS.at_ 0 rfl).reNR hl6
            have hS : Sep w0 B w (rows 22 3 (.slice none (([] : List (List Int)).length) 0) ([]) ([] : List (List Int)) :: own 3 (.slice A5 left2.length c6) (vI left2) :: fs) := hS
            have hF := hF.cast (t := 11) (v := .slice none 0 0) (v' := .slice none (([] : List (List Int)).length) 0) rfl rfl (congrArg (fun k => Value.slice none k 0) hl6)
            have hS := hS.pickN 2 [0] (by decide)
            exact ⟨([] : List (List Int)), none, 0, ([]), hF.weak [0, 1, 2, 11] (by kernel_rfl), hS, hm⟩
  · refine reg [] [] [0, 1, 2, 9, 10] [pl 0 (.slice A1 a1.length c1), pl 1 (.slice A2 b1.length c2), pl 2 (.slice A3 board1.length c3), pl 9 (.slice none 0 0), pl 10 (.int .i64 0)] hF hS Fol (by kernel_rfl) (by kernel_rfl) (by kernel_rfl) ?_ (fun a w hF hS => ?_)
    · exact obs_nil
    refine wpIn_block ?_
    have hS : Sep w0 B w (own 3 (.slice none 0 0) (vI ([] : List Int)) :: fs) := hS.nil 3
    have hl1 := (hS.at_ 0 rfl).len1
    have hS := (hS.at_ 0 rfl).reN hl1
    have hS : Sep w0 B w (own 3 (.slice none (([] : List Int).length) 0) (vI ([] : List Int)) :: fs) := hS
    have hF := hF.cast (t := 9) (v := .slice none 0 0) (v' := .slice none (([] : List Int).length) 0) rfl rfl (congrArg (fun k => Value.slice none k 0) hl1)
    refine wp_loop_model (S := (List Int × Int)) (R := (List Int)) (gameroomref_ShowdownOf_L1 a1 b1 board1) (fun x => ((gameroomref_ShowdownOf_K1 a1 b1 board1) x).bind some) r (fun (x : (List Int × Int)) a w => ∃ (A4 : Option Addr) (c4 : Nat), Fr 138 [pl 0 (.slice A1 a1.length c1), pl 1 (.slice A2 b1.length c2), pl 2 (.slice A3 board1.length c3), pl 9 (.slice A4 x.1.length c4), pl 10 (.int .i64 x.2)] a ∧ Sep w0 B w (own 3 (.slice A4 x.1.length c4) (vI x.1) :: fs)) (assoc_b hm) ⟨none, 0, hF.weak [0, 1, 2, 9, 10] (by kernel_rfl), hS⟩ ?_
    clear hF hS hm
    rintro nn1 ⟨left1, c5⟩ a w ⟨A4, c4, hF, hS⟩ hm
    generalize hφ1 : stK (gameroomref_ShowdownOf_L1 a1 b1 board1) nn1 (fun x => ((gameroomref_ShowdownOf_K1 a1 b1 board1) x).bind some) = φ1 at hm
    unfold gameroomref_ShowdownOf_L1 at hm
    dsimp only at hF hS hm
    refine seq_cut (fun a w => Fr 138 [pl 0 (.slice A1 a1.length c1), pl 1 (.slice A2 b1.length c2), pl 2 (.slice A3 board1.length c3), pl 9 (.slice A4 left1.length c4), pl 10 (.int .i64 c5)] a ∧ Sep w0 B w (own 3 (.slice A4 left1.length c4) (vI left1) :: fs) ∧ ((gameroomref_ShowdownOf_J2 a1 b1 board1 left1 c5)).bind φ1 = some r) ?_ ?_
    · rintro a w ⟨hF, hS, hm⟩
      unfold gameroomref_ShowdownOf_J2 at hm
      refine seq_cut (fun a w => ∃ (left3 : List Int) (A7 : Option Addr) (c8 : Nat), Fr 138 [pl 0 (.slice A1 a1.length c1), pl 1 (.slice A2 b1.length c2), pl 2 (.slice A3 board1.length c3), pl 9 (.slice A7 left3.length c8), pl 10 (.int .i64 c5)] a ∧ Sep w0 B w (own 3 (.slice A7 left3.length c8) (vI left3) :: fs) ∧ ((gameroomref_ShowdownOf_J3 c5) left3).bind φ1 = some r) ?_ ?_
      · rintro a w ⟨left3, A7, c8, hF, hS, hm⟩
        unfold gameroomref_ShowdownOf_J3 at hm
        refine reg1 [] [] [0, 1, 2, 9, 10] [pl 0 (.slice A1 a1.length c1), pl 1 (.slice A2 b1.length c2), pl 2 (.slice A3 board1.length c3), pl 9 (.slice A7 left3.length c8), pl 10 (.int .i64 (w64 (c5 + 1)))] hF hS Fol (by kernel_rfl) (by kernel_rfl) (by kernel_rfl) ?_ (fun a w hF hS => ?_)
        · exact obs_nil
        refine then_n ?_
        rw [← hφ1] at hm
        exact ⟨(left3, (w64 (c5 + 1))), ⟨A7, c8, hF.weak [0, 1, 2, 9, 10] (by kernel_rfl), hS⟩, hm⟩
      · refine wpIn_block ?_
        obtain ⟨r1, hr1, hm⟩ := call_b hm
        obtain ⟨r2, hr2, hm⟩ := call_b hm
        obtain ⟨r3, hr3, hm⟩ := call_b hm
        refine reg [⟨false, [], callFunc 110 #[.slice A1 a1.length c1, .int .i64 c5], .int .i64 r1⟩, ⟨false, [(decide (r1 < 0), true)], callFunc 110 #[.slice A2 b1.length c2, .int .i64 c5], .int .i64 r2⟩, ⟨false, [((decide (r1 < 0)) && (decide (r2 < 0)), true)], callFunc 110 #[.slice A3 board1.length c3, .int .i64 c5], .int .i64 r3⟩] [none, none, some (.int .i64 r1), none, none, none, none, some (.int .i64 r2), none, none, none, none, none, some (.int .i64 r3), none, none] [0, 1, 2, 9, 10, 42] [pl 0 (.slice A1 a1.length c1), pl 1 (.slice A2 b1.length c2), pl 2 (.slice A3 board1.length c3), pl 9 (.slice A4 left1.length c4), pl 10 (.int .i64 c5), pl 42 (.bool (((decide (r1 < 0)) && (decide (r2 < 0))) && (decide (r3 < 0))))] hF hS Fol (by kernel_rfl) (by kernel_rfl) (by kernel_rfl) ?_ (fun a w hF hS => ?_)
        · exact obs_cons (ob_call Try.func110 (by kernel_rfl) rfl (fun _ _ hS => gameroomref_at_w hr1 hS (fun _ hS => (hr_a1 _ (hS.dropN 1))) _hc_a1 rfl)) <| obs_cons (ob_call Try.func110 (by kernel_rfl) rfl (fun hy _ hS => gameroomref_at_w (ite_some hr2 (by rw [show (decide (r1 < 0)) = true from hy (decide (r1 < 0), true) (by simp)]; try rfl)) hS (fun _ hS => (hr_b1 _ (hS.dropN 1))) _hc_b1 rfl)) <| obs_cons (ob_call Try.func110 (by kernel_rfl) rfl (fun hy _ hS => gameroomref_at_w (ite_some hr3 (by rw [show ((decide (r1 < 0)) && (decide (r2 < 0))) = true from hy ((decide (r1 < 0)) && (decide (r2 < 0)), true) (by simp)]; try rfl)) hS (fun _ hS => (hr_board1 _ (hS.dropN 1))) _hc_board1 rfl)) <| obs_nil
        refine cond_ev (t := 42) (b := ((decide (r1 < 0)) && (decide (r2 < 0))) && (decide (r3 < 0))) hF (by kernel_rfl) (fun hb => ?_) (fun hb => ?_)
        · replace hm := if_t hm hb
          refine oneR ?_
          obtain ⟨hp1, hm⟩ := asrt_b hm
          refine at_run 2 [] [] [0, 1, 2, 10, 43, 44] [pl 0 (.slice A1 a1.length c1), pl 1 (.slice A2 b1.length c2), pl 2 (.slice A3 board1.length c3), pl 10 (.int .i64 c5), pl 43 (.slice A4 left1.length c4), pl 44 (.int .i64 c5)] hF hS (by kernel_rfl) (by kernel_rfl) ?_ (fun a w hF hS => ?_)
          · exact obs_nil
          refine at_do (d := 45) (s := vS (Instr.buildSlice 22 1 #[(0, .int .i64 c5)])) (v := .slice (some ⟨w.heap.size, 0, none⟩) 1 1) (w' := w.alloc (.cells #[.int .i64 c5] 3)) hF (by kernel_rfl) (by kernel_rfl) (by kernel_rfl) (fun a hF => ?_)
          have hS : Sep w0 B (w.alloc (.cells #[.int .i64 c5] 3)) (own 3 (.slice (some (⟨w.heap.size, 0, none⟩ : Addr)) 1 1) (vI ([c5] : List Int)) :: (own 3 (.slice A4 left1.length c4) (vI left1) :: fs)) := hS.lit 3 #[.int .i64 c5] 1 rfl (by omega)
          generalize (some (⟨w.heap.size, 0, none⟩ : Addr)) = g1 at hF hS
          generalize w.alloc (.cells #[.int .i64 c5] 3) = w at hS ⊢
          obtain ⟨A6, c7, w, hrun, hS⟩ := run_app1 (P := Try.prog) (t := 22) (m := left1) (ys := ([c5] : List Int)) (A2 := g1) (m2 := 1) (c2 := 1) (Value.int .i64) (0 : Int) (hS.at_ 1 rfl) (hS.at_ 0 rfl).rd ((hS.at_ 0 rfl).len1) 22 Und22 hi3 hz3 hs3 (by omega) rfl (fun _ => rfl) hp1
          have hS : Sep w0 B w (own 3 (.slice g1 1 1) (vI ([c5] : List Int)) :: own 3 (.slice A6 ((left1 ++ ([c5] : List Int)).length) c7) (vI (left1 ++ ([c5] : List Int))) :: fs) := hS
          refine at_do (d := 46) hF (by kernel_rfl) (by kernel_rfl) hrun (fun a hF => ?_)
          refine at_run 1 [] [] [0, 1, 2, 9, 10] [pl 0 (.slice A1 a1.length c1), pl 1 (.slice A2 b1.length c2), pl 2 (.slice A3 board1.length c3), pl 9 (.slice A6 ((left1 ++ ([c5] : List Int)).length) c7), pl 10 (.int .i64 c5)] hF hS (by kernel_rfl) (by kernel_rfl) ?_ (fun a w hF hS => ?_)
          · exact obs_nil
          refine at_end [0, 1, 2, 9, 10] [pl 0 (.slice A1 a1.length c1), pl 1 (.slice A2 b1.length c2), pl 2 (.slice A3 board1.length c3), pl 9 (.slice A6 ((left1 ++ ([c5] : List Int)).length) c7), pl 10 (.int .i64 c5)] hF rfl (by kernel_rfl) (fun hF => ?_)
          refine block_n ?_
          refine then_n ?_
          have hS := hS.pickN 2 [1] (by decide)
          exact ⟨(left1 ++ ([c5] : List Int)), A6, c7, hF.weak [0, 1, 2, 9, 10] (by kernel_rfl), hS, hm⟩
        · replace hm := if_f hm hb
          refine wpIn_skip ?_
          refine block_n ?_
          refine then_n ?_
          exact ⟨left1, A4, c4, hF.weak [0, 1, 2, 9, 10] (by kernel_rfl), hS, hm⟩
    · refine reg [] [] [0, 1, 2, 9, 10, 24] [pl 0 (.slice A1 a1.length c1), pl 1 (.slice A2 b1.length c2), pl 2 (.slice A3 board1.length c3), pl 9 (.slice A4 left1.length c4), pl 10 (.int .i64 c5), pl 24 (.bool (decide (c5 < 52)))] hF hS Fol (by kernel_rfl) (by kernel_rfl) (by kernel_rfl) ?_ (fun a w hF hS => ?_)
      · exact obs_nil
      refine cond_ev (t := 24) (b := decide (c5 < 52)) hF (by kernel_rfl) (fun hb => ?_) (fun hb => ?_)
      · replace hm := if_t hm hb
        refine wpIn_skip ?_
        refine then_n ?_
        exact ⟨hF.weak [0, 1, 2, 9, 10] (by kernel_rfl), hS, hm⟩
      · replace hm := if_f hm hb
        refine wpIn_exit ?_
        refine then_e (then_e (block_e (then_n ?_)))
        rw [← hφ1] at hm
        replace hm := done_b hm
        unfold gameroomref_ShowdownOf_K1 at hm
        try dsimp only at hm
        have hm : ((gameroomref_ShowdownOf_J1 a1 b1 board1) left1).bind some = some r := hm
        exact ⟨left1, A4, c4, hF.weak [0, 1, 2, 9] (by kernel_rfl), hS, hm⟩

noncomputable def gameroomlaw_PokerShowdowns_J2  (a1 : List Int) (b1 : List Int) (board1 : List Int) (r4 : (Int × Int × Int × Int)) : Option Bool :=
  (gameroomref_ShowdownOf_m a1 b1 board1).bind fun r7 => some ((((r4.2.2.2 == 0) && (r4.1 == r7.1)) && (r4.2.1 == r7.2.1)) && (r4.2.2.1 == r7.2.2))

noncomputable def gameroomlaw_PokerShowdowns_J1  (a1 : List Int) (b1 : List Int) (board1 : List Int) (r4 : (Int × Int × Int × Int)) (no1 : Int) : Option Bool :=
  if (no1 != 0) then (some ((((r4.2.2.2 == no1) && (r4.1 == 0)) && (r4.2.1 == 0)) && (r4.2.2.1 == 0))) else ((gameroomlaw_PokerShowdowns_J2 a1 b1 board1 r4))

noncomputable def gameroomlaw_PokerShowdowns_m  (a1 : List Int) (b1 : List Int) (board1 : List Int) : Option Bool :=
  (gameroomlaw_ints_m a1).bind fun r1 => (gameroomlaw_ints_m b1).bind fun r2 => (gameroomlaw_ints_m board1).bind fun r3 => (poker_Showdown_m r1 r2 r3).bind fun r4 => if (((((a1.length : Int) == 2) && ((b1.length : Int) == 2)) && (decide ((3 : Int) ≤ (board1.length : Int)))) && (decide ((board1.length : Int) ≤ 5))) then ((gameroomlaw_ints_m a1).bind fun r5 => asrt ((r5.length : Int) + (b1.length : Int) ≤ bigN) <| asrt ((((r5 ++ b1).length : Nat) : Int) + (board1.length : Int) ≤ bigN) <| (gameroomref_CardsMay_m ((r5 ++ b1) ++ board1)).bind fun r6 => (gameroomlaw_PokerShowdowns_J1 a1 b1 board1 r4) r6) else ((gameroomlaw_PokerShowdowns_J1 a1 b1 board1 r4) 11)

set_option maxRecDepth 100000 in
set_option maxHeartbeats 4000000 in
theorem gameroomlaw_PokerShowdowns_w  {A1 : Option Addr} {c1 : Nat} {n1 : Nat} {a1 : List Int} {A2 : Option Addr} {c2 : Nat} {n2 : Nat} {b1 : List Int} {A3 : Option Addr} {c3 : Nat} {n3 : Nat} {board1 : List Int} {r : Bool} {w0 w : World} {B : Nat} {fs : List HP} (hm : gameroomlaw_PokerShowdowns_m a1 b1 board1 = some r) (hS : Sep w0 B w (fs)) (hr_a1 : RdF w0 B fs A1 (vI a1)) (_hc_a1 : a1.length ≤ c1) (_hn_a1 : n1 = a1.length) (hr_b1 : RdF w0 B fs A2 (vI b1)) (_hc_b1 : b1.length ≤ c2) (_hn_b1 : n2 = b1.length) (hr_board1 : RdF w0 B fs A3 (vI board1)) (_hc_board1 : board1.length ≤ c3) (_hn_board1 : n3 = board1.length) :
    Calls Try.prog 7 #[.slice A1 n1 c1, .slice A2 n2 c2, .slice A3 n3 c3] w fun e w' => e = .returned (.bool r) ∧ Sep w0 B w' (fs) := by
  obtain ⟨i3, hi3, hz3, hs3, hb3⟩ := info_parts Info3
  obtain rfl := _hn_a1
  obtain rfl := _hn_b1
  obtain rfl := _hn_board1
  unfold gameroomlaw_PokerShowdowns_m at hm
  replace hm := start_b hm
  refine enter (l := [.slice A1 a1.length c1, .slice A2 b1.length c2, .slice A3 board1.length c3]) (n := 94) Try.func7 rfl rfl (by simp) (fun a hF => ?_)
  refine reg [] [] [0, 1, 2] [pl 0 (.slice A1 a1.length c1), pl 1 (.slice A2 b1.length c2), pl 2 (.slice A3 board1.length c3)] hF hS Fol (by kernel_rfl) (by kernel_rfl) (by kernel_rfl) ?_ (fun a w hF hS => ?_)
  · exact obs_nil
  refine seqR ?_
  obtain ⟨r1, hr1, hm⟩ := call_b hm
  obtain ⟨r2, hr2, hm⟩ := call_b hm
  obtain ⟨r3, hr3, hm⟩ := call_b hm
  obtain ⟨r4, hr4, hm⟩ := call_b hm
  refine at_run 1 [] [] [0, 1, 2, 16] [pl 0 (.slice A1 a1.length c1), pl 1 (.slice A2 b1.length c2), pl 2 (.slice A3 board1.length c3), pl 16 (.slice A1 a1.length c1)] hF hS (by kernel_rfl) (by kernel_rfl) ?_ (fun a w hF hS => ?_)
  · exact obs_nil
  refine at_call (f := 17) (args := #[.slice A1 a1.length c1]) (d := 17) hF (by kernel_rfl) (by kernel_rfl) Try.func17 (by kernel_rfl) rfl (gameroomlaw_ints_w hr1 hS (fun _ hS => (hr_a1 _ (hS.dropN 0))) _hc_a1 rfl) (fun v a w hR hF => ?_)
  clear hS
  obtain ⟨A4, c4, rfl, hS⟩ := hR
  have hS : Sep w0 B w (own 3 (.slice A4 r1.length c4) (vI r1) :: fs) := hS
  refine at_run 1 [] [] [0, 1, 2, 17, 18] [pl 0 (.slice A1 a1.length c1), pl 1 (.slice A2 b1.length c2), pl 2 (.slice A3 board1.length c3), pl 17 (.slice A4 r1.length c4), pl 18 (.slice A2 b1.length c2)] hF hS (by kernel_rfl) (by kernel_rfl) ?_ (fun a w hF hS => ?_)
  · exact obs_nil
  refine at_call (f := 17) (args := #[.slice A2 b1.length c2]) (d := 19) hF (by kernel_rfl) (by kernel_rfl) Try.func17 (by kernel_rfl) rfl (gameroomlaw_ints_w hr2 hS (fun _ hS => (hr_b1 _ (hS.dropN 1))) _hc_b1 rfl) (fun v a w hR hF => ?_)
  clear hS
  obtain ⟨A5, c5, rfl, hS⟩ := hR
  have hS : Sep w0 B w (own 3 (.slice A5 r2.length c5) (vI r2) :: own 3 (.slice A4 r1.length c4) (vI r1) :: fs) := hS
  refine at_run 1 [] [] [0, 1, 2, 17, 19, 20] [pl 0 (.slice A1 a1.length c1), pl 1 (.slice A2 b1.length c2), pl 2 (.slice A3 board1.length c3), pl 17 (.slice A4 r1.length c4), pl 19 (.slice A5 r2.length c5), pl 20 (.slice A3 board1.length c3)] hF hS (by kernel_rfl) (by kernel_rfl) ?_ (fun a w hF hS => ?_)
  · exact obs_nil
  refine at_call (f := 17) (args := #[.slice A3 board1.length c3]) (d := 21) hF (by kernel_rfl) (by kernel_rfl) Try.func17 (by kernel_rfl) rfl (gameroomlaw_ints_w hr3 hS (fun _ hS => (hr_board1 _ (hS.dropN 2))) _hc_board1 rfl) (fun v a w hR hF => ?_)
  clear hS
  obtain ⟨A6, c6, rfl, hS⟩ := hR
  have hS : Sep w0 B w (own 3 (.slice A6 r3.length c6) (vI r3) :: own 3 (.slice A5 r2.length c5) (vI r2) :: own 3 (.slice A4 r1.length c4) (vI r1) :: fs) := hS
  refine at_run 10 [⟨false, [], callFunc 38 #[.slice A4 r1.length c4, .slice A5 r2.length c5, .slice A6 r3.length c6], .tuple #[.int .i64 r4.1, .int .i64 r4.2.1, .int .i64 r4.2.2.1, .int .i64 r4.2.2.2]⟩] [some (.tuple #[.int .i64 r4.1, .int .i64 r4.2.1, .int .i64 r4.2.2.1, .int .i64 r4.2.2.2]), none, none, none, none, none, none, none, none, none] [0, 1, 2, 7, 8, 9, 10] [pl 0 (.slice A1 a1.length c1), pl 1 (.slice A2 b1.length c2), pl 2 (.slice A3 board1.length c3), pl 7 (.int .i64 r4.1), pl 8 (.int .i64 r4.2.1), pl 9 (.int .i64 r4.2.2.1), pl 10 (.int .i64 r4.2.2.2)] hF hS (by kernel_rfl) (by kernel_rfl) ?_ (fun a w hF hS => ?_)
  · exact obs_cons (ob_call Try.func38 (by kernel_rfl) rfl (fun _ _ hS => poker_Showdown_w hr4 hS (fun _ hS => (hS.at_ 2 rfl).rd) ((hS.at_ 2 rfl).cap1) rfl (fun _ hS => (hS.at_ 1 rfl).rd) ((hS.at_ 1 rfl).cap1) rfl (fun _ hS => (hS.at_ 0 rfl).rd) ((hS.at_ 0 rfl).cap1) rfl)) <| obs_nil
  refine at_end [0, 1, 2, 7, 8, 9, 10] [pl 0 (.slice A1 a1.length c1), pl 1 (.slice A2 b1.length c2), pl 2 (.slice A3 board1.length c3), pl 7 (.int .i64 r4.1), pl 8 (.int .i64 r4.2.1), pl 9 (.int .i64 r4.2.2.1), pl 10 (.int .i64 r4.2.2.2)] hF rfl (by kernel_rfl) (fun hF => ?_)
  refine then_n ?_
  refine reg [] [] [0, 1, 2, 7, 8, 9, 10, 11] [pl 0 (.slice A1 a1.length c1), pl 1 (.slice A2 b1.length c2), pl 2 (.slice A3 board1.length c3), pl 7 (.int .i64 r4.1), pl 8 (.int .i64 r4.2.1), pl 9 (.int .i64 r4.2.2.1), pl 10 (.int .i64 r4.2.2.2), pl 11 (.int .i64 11)] hF hS Fol (by kernel_rfl) (by kernel_rfl) (by kernel_rfl) ?_ (fun a w hF hS => ?_)
  · exact obs_nil
  refine seq_cut (fun a w => ∃ (no1 : Int), Fr 94 [pl 0 (.slice A1 a1.length c1), pl 1 (.slice A2 b1.length c2), pl 2 (.slice A3 board1.length c3), pl 7 (.int .i64 r4.1), pl 8 (.int .i64 r4.2.1), pl 9 (.int .i64 r4.2.2.1), pl 10 (.int .i64 r4.2.2.2), pl 11 (.int .i64 no1)] a ∧ Sep w0 B w (fs) ∧ ((gameroomlaw_PokerShowdowns_J1 a1 b1 board1 r4) no1).bind some = some r) ?_ ?_
  · rintro a w ⟨no1, hF, hS, hm⟩
    unfold gameroomlaw_PokerShowdowns_J1 at hm
    refine seq_cut (fun a w => Fr 94 [pl 0 (.slice A1 a1.length c1), pl 1 (.slice A2 b1.length c2), pl 2 (.slice A3 board1.length c3), pl 7 (.int .i64 r4.1), pl 8 (.int .i64 r4.2.1), pl 9 (.int .i64 r4.2.2.1), pl 10 (.int .i64 r4.2.2.2)] a ∧ Sep w0 B w (fs) ∧ ((gameroomlaw_PokerShowdowns_J2 a1 b1 board1 r4)).bind some = some r) ?_ ?_
    · rintro a w ⟨hF, hS, hm⟩
      unfold gameroomlaw_PokerShowdowns_J2 at hm
      obtain ⟨r7, hr7, hm⟩ := call_b hm
      refine reg [⟨false, [], callFunc 39 #[.slice A1 a1.length c1, .slice A2 b1.length c2, .slice A3 board1.length c3], .tuple #[.int .i64 r7.1, .int .i64 r7.2.1, .int .i64 r7.2.2]⟩] [none, none, none, some (.tuple #[.int .i64 r7.1, .int .i64 r7.2.1, .int .i64 r7.2.2]), none, none, none, none, none, none, none] [7, 8, 9, 10, 12, 13, 14] [pl 7 (.int .i64 r4.1), pl 8 (.int .i64 r4.2.1), pl 9 (.int .i64 r4.2.2.1), pl 10 (.int .i64 r4.2.2.2), pl 12 (.int .i64 r7.1), pl 13 (.int .i64 r7.2.1), pl 14 (.int .i64 r7.2.2)] hF hS Fol (by kernel_rfl) (by kernel_rfl) (by kernel_rfl) ?_ (fun a w hF hS => ?_)
      · exact obs_cons (ob_call Try.func39 (by kernel_rfl) rfl (fun _ _ hS => gameroomref_ShowdownOf_w hr7 hS (fun _ hS => (hr_a1 _ (hS.dropN 0))) _hc_a1 rfl (fun _ hS => (hr_b1 _ (hS.dropN 0))) _hc_b1 rfl (fun _ hS => (hr_board1 _ (hS.dropN 0))) _hc_board1 rfl)) <| obs_nil
      refine reg [] [] [6] [pl 6 (.bool ((((r4.2.2.2 == 0) && (r4.1 == r7.1)) && (r4.2.1 == r7.2.1)) && (r4.2.2.1 == r7.2.2)))] hF hS Fol (by kernel_rfl) (by kernel_rfl) (by kernel_rfl) ?_ (fun a w hF hS => ?_)
      · exact obs_nil
      refine wpIn_ret ?_
      have hm : some ((((r4.2.2.2 == 0) && (r4.1 == r7.1)) && (r4.2.1 == r7.2.1)) && (r4.2.2.1 == r7.2.2)) = some r := hm
      obtain rfl := Option.some.inj hm
      exact retV (rs := [.tmp 6]) (vs := [.bool ((((r4.2.2.2 == 0) && (r4.1 == r7.1)) && (r4.2.1 == r7.2.1)) && (r4.2.2.1 == r7.2.2))]) hF rfl (rv_t (by kernel_rfl) <| rv_nil) rfl ⟨rfl, hS⟩
    · refine reg [] [] [0, 1, 2, 7, 8, 9, 10, 11, 53] [pl 0 (.slice A1 a1.length c1), pl 1 (.slice A2 b1.length c2), pl 2 (.slice A3 board1.length c3), pl 7 (.int .i64 r4.1), pl 8 (.int .i64 r4.2.1), pl 9 (.int .i64 r4.2.2.1), pl 10 (.int .i64 r4.2.2.2), pl 11 (.int .i64 no1), pl 53 (.bool (no1 != 0))] hF hS Fol (by kernel_rfl) (by kernel_rfl) (by kernel_rfl) ?_ (fun a w hF hS => ?_)
      · exact obs_nil
      refine cond_ev (t := 53) (b := (no1 != 0)) hF (by kernel_rfl) (fun hb => ?_) (fun hb => ?_)
      · replace hm := if_t hm hb
        refine reg [] [] [6] [pl 6 (.bool ((((r4.2.2.2 == no1) && (r4.1 == 0)) && (r4.2.1 == 0)) && (r4.2.2.1 == 0)))] hF hS Fol (by kernel_rfl) (by kernel_rfl) (by kernel_rfl) ?_ (fun a w hF hS => ?_)
        · exact obs_nil
        refine wpIn_ret ?_
        refine then_r ?_
        have hm : some ((((r4.2.2.2 == no1) && (r4.1 == 0)) && (r4.2.1 == 0)) && (r4.2.2.1 == 0)) = some r := hm
        obtain rfl := Option.some.inj hm
        exact retV (rs := [.tmp 6]) (vs := [.bool ((((r4.2.2.2 == no1) && (r4.1 == 0)) && (r4.2.1 == 0)) && (r4.2.2.1 == 0))]) hF rfl (rv_t (by kernel_rfl) <| rv_nil) rfl ⟨rfl, hS⟩
      · replace hm := if_f hm hb
        refine wpIn_skip ?_
        refine then_n ?_
        exact ⟨hF.weak [0, 1, 2, 7, 8, 9, 10] (by kernel_rfl), hS, hm⟩
  · refine reg [] [] [0, 1, 2, 7, 8, 9, 10, 11, 44] [pl 0 (.slice A1 a1.length c1), pl 1 (.slice A2 b1.length c2), pl 2 (.slice A3 board1.length c3), pl 7 (.int .i64 r4.1), pl 8 (.int .i64 r4.2.1), pl 9 (.int .i64 r4.2.2.1), pl 10 (.int .i64 r4.2.2.2), pl 11 (.int .i64 11), pl 44 (.bool (((((a1.length : Int) == 2) && ((b1.length : Int) == 2)) && (decide ((3 : Int) ≤ (board1.length : Int)))) && (decide ((board1.length : Int) ≤ 5))))] hF hS Fol (by kernel_rfl) (by kernel_rfl) (by kernel_rfl) ?_ (fun a w hF hS => ?_)
    · exact obs_nil
    refine cond_ev (t := 44) (b := ((((a1.length : Int) == 2) && ((b1.length : Int) == 2)) && (decide ((3 : Int) ≤ (board1.length : Int)))) && (decide ((board1.length : Int) ≤ 5))) hF (by kernel_rfl) (fun hb => ?_) (fun hb => ?_)
    · replace hm := if_t hm hb
      refine oneR ?_
      obtain ⟨r5, hr5, hm⟩ := call_b hm
      obtain ⟨hp1, hm⟩ := asrt_b hm
      obtain ⟨hp2, hm⟩ := asrt_b hm
      obtain ⟨r6, hr6, hm⟩ := call_b hm
      refine at_run 1 [] [] [0, 1, 2, 7, 8, 9, 10, 45] [pl 0 (.slice A1 a1.length c1), pl 1 (.slice A2 b1.length c2), pl 2 (.slice A3 board1.length c3), pl 7 (.int .i64 r4.1), pl 8 (.int .i64 r4.2.1), pl 9 (.int .i64 r4.2.2.1), pl 10 (.int .i64 r4.2.2.2), pl 45 (.slice A1 a1.length c1)] hF hS (by kernel_rfl) (by kernel_rfl) ?_ (fun a w hF hS => ?_)
      · exact obs_nil
      refine at_call (f := 17) (args := #[.slice A1 a1.length c1]) (d := 46) hF (by kernel_rfl) (by kernel_rfl) Try.func17 (by kernel_rfl) rfl (gameroomlaw_ints_w hr5 hS (fun _ hS => (hr_a1 _ (hS.dropN 3))) _hc_a1 rfl) (fun v a w hR hF => ?_)
      clear hS
      obtain ⟨A7, c7, rfl, hS⟩ := hR
      have hS : Sep w0 B w (own 3 (.slice A7 r5.length c7) (vI r5) :: own 3 (.slice A6 r3.length c6) (vI r3) :: own 3 (.slice A5 r2.length c5) (vI r2) :: own 3 (.slice A4 r1.length c4) (vI r1) :: fs) := hS
      refine at_run 1 [] [] [0, 1, 2, 7, 8, 9, 10, 46, 47] [pl 0 (.slice A1 a1.length c1), pl 1 (.slice A2 b1.length c2), pl 2 (.slice A3 board1.length c3), pl 7 (.int .i64 r4.1), pl 8 (.int .i64 r4.2.1), pl 9 (.int .i64 r4.2.2.1), pl 10 (.int .i64 r4.2.2.2), pl 46 (.slice A7 r5.length c7), pl 47 (.slice A2 b1.length c2)] hF hS (by kernel_rfl) (by kernel_rfl) ?_ (fun a w hF hS => ?_)
      · exact obs_nil
      obtain ⟨A8, c8, w, hrun, hS⟩ := run_app1 (P := Try.prog) (t := 22) (m := r5) (ys := b1) (A2 := A2) (m2 := b1.length) (c2 := c2) (Value.int .i64) (0 : Int) (hS.at_ 0 rfl) (hr_b1 _ (hS.dropN 4)) rfl 22 Und22 hi3 hz3 hs3 (by omega) rfl (fun _ => rfl) hp1
      have hS : Sep w0 B w (own 3 (.slice A8 ((r5 ++ b1).length) c8) (vI (r5 ++ b1)) :: own 3 (.slice A6 r3.length c6) (vI r3) :: own 3 (.slice A5 r2.length c5) (vI r2) :: own 3 (.slice A4 r1.length c4) (vI r1) :: fs) := hS
      refine at_do (d := 48) hF (by kernel_rfl) (by kernel_rfl) hrun (fun a hF => ?_)
      refine at_run 1 [] [] [0, 1, 2, 7, 8, 9, 10, 48, 49] [pl 0 (.slice A1 a1.length c1), pl 1 (.slice A2 b1.length c2), pl 2 (.slice A3 board1.length c3), pl 7 (.int .i64 r4.1), pl 8 (.int .i64 r4.2.1), pl 9 (.int .i64 r4.2.2.1), pl 10 (.int .i64 r4.2.2.2), pl 48 (.slice A8 ((r5 ++ b1).length) c8), pl 49 (.slice A3 board1.length c3)] hF hS (by kernel_rfl) (by kernel_rfl) ?_ (fun a w hF hS => ?_)
      · exact obs_nil
      obtain ⟨A9, c9, w, hrun, hS⟩ := run_app1 (P := Try.prog) (t := 22) (m := (r5 ++ b1)) (ys := board1) (A2 := A3) (m2 := board1.length) (c2 := c3) (Value.int .i64) (0 : Int) (hS.at_ 0 rfl) (hr_board1 _ (hS.dropN 4)) rfl 22 Und22 hi3 hz3 hs3 (by omega) rfl (fun _ => rfl) hp2
      have hS : Sep w0 B w (own 3 (.slice A9 (((r5 ++ b1) ++ board1).length) c9) (vI ((r5 ++ b1) ++ board1)) :: own 3 (.slice A6 r3.length c6) (vI r3) :: own 3 (.slice A5 r2.length c5) (vI r2) :: own 3 (.slice A4 r1.length c4) (vI r1) :: fs) := hS
      refine at_do (d := 50) hF (by kernel_rfl) (by kernel_rfl) hrun (fun a hF => ?_)
      refine at_run 2 [⟨false, [], callFunc 36 #[.slice A9 (((r5 ++ b1) ++ board1).length) c9], .int .i64 r6⟩] [some (.int .i64 r6), none] [0, 1, 2, 7, 8, 9, 10, 11] [pl 0 (.slice A1 a1.length c1), pl 1 (.slice A2 b1.length c2), pl 2 (.slice A3 board1.length c3), pl 7 (.int .i64 r4.1), pl 8 (.int .i64 r4.2.1), pl 9 (.int .i64 r4.2.2.1), pl 10 (.int .i64 r4.2.2.2), pl 11 (.int .i64 r6)] hF hS (by kernel_rfl) (by kernel_rfl) ?_ (fun a w hF hS => ?_)
      · exact obs_cons (ob_call Try.func36 (by kernel_rfl) rfl (fun _ _ hS => gameroomref_CardsMay_w hr6 hS (fun _ hS => (hS.at_ 0 rfl).rd) ((hS.at_ 0 rfl).cap1) rfl)) <| obs_nil
      refine at_end [0, 1, 2, 7, 8, 9, 10, 11] [pl 0 (.slice A1 a1.length c1), pl 1 (.slice A2 b1.length c2), pl 2 (.slice A3 board1.length c3), pl 7 (.int .i64 r4.1), pl 8 (.int .i64 r4.2.1), pl 9 (.int .i64 r4.2.2.1), pl 10 (.int .i64 r4.2.2.2), pl 11 (.int .i64 r6)] hF rfl (by kernel_rfl) (fun hF => ?_)
      refine then_n ?_
      have hS := hS.pickN 4 [] (by decide)
      exact ⟨r6, hF.weak [0, 1, 2, 7, 8, 9, 10, 11] (by kernel_rfl), hS, hm⟩
    · replace hm := if_f hm hb
      refine wpIn_skip ?_
      refine then_n ?_
      have hS := hS.pickN 3 [] (by decide)
      exact ⟨11, hF.weak [0, 1, 2, 7, 8, 9, 10, 11] (by kernel_rfl), hS, hm⟩

end Go.Proofs.Ytoickcchcjehdaa
