/-
  Models and walks, printed by our own program (wip/gen).
-/
import Derived.Test.YtlpaklmfgldkoaaFB
import Derived.Test.YtlpaklmfgldkoaaLibBg
import Derived.Test.YtlpaklmfgldkoaaLibHd
import Derived.Test.YtlpaklmfgldkoaaFM
import Derived.Test.YtlpaklmfgldkoaaSI
namespace Go.Proofs.Ytlpaklmfgldkoaa
open Go Go.GL Go.RowKit




noncomputable def gameroomlaw_ints_m  (l1 : List Int) : Option (List Int) :=
  asrt ((0 : Int) + (l1.length : Int) ≤ bigN) <| some ([] ++ l1)

set_option maxRecDepth 100000 in
set_option maxHeartbeats 4000000 in
theorem gameroomlaw_ints_w {A1 : Option Addr} {c1 : Nat} {n1 : Nat} {l1 : List Int} {r : (List Int)} {w0 w : World} {B : Nat} {fs : List HP} (hm : gameroomlaw_ints_m l1 = some r) (hS : Sep w0 B w (fs)) (hr_l1 : RdF w0 B fs A1 (vI l1)) (_hc_l1 : l1.length ≤ c1) (_hn_l1 : n1 = l1.length) :
    Calls Try.prog 22 #[.slice A1 n1 c1] w fun e w' => ∃ v, e = .returned v ∧ ∃ (A3 : Option Addr) (c3 : Nat), v = .slice A3 r.length c3 ∧ Sep w0 B w' (own 3 (.slice A3 r.length c3) (vI r) :: fs) := by
  obtain ⟨i3, hi3, hz3, hs3, hb3⟩ := info_parts Info3
  obtain rfl := _hn_l1
  unfold gameroomlaw_ints_m at hm
  replace hm := start_b hm
  refine enter (l := [.slice A1 l1.length c1]) (n := 5) Try.func22 rfl rfl (by simp) (fun a hF => ?_)
  refine reg [] [] [0] [pl 0 (.slice A1 l1.length c1)] hF hS Fol (by kernel_rfl) (by kernel_rfl) (by kernel_rfl) ?_ (fun a w hF hS => ?_)
  · exact obs_nil
  refine seqR ?_
  obtain ⟨hp1, hm⟩ := asrt_b hm
  refine at_run 1 [] [] [3] [pl 3 (.slice A1 l1.length c1)] hF hS (by kernel_rfl) (by kernel_rfl) ?_ (fun a w hF hS => ?_)
  · exact obs_nil
  have hS : Sep w0 B w (own 3 (.slice none 0 0) (vI ([] : List Int)) :: fs) := hS.nil 3
  obtain ⟨A2, c2, w, hrun, hS⟩ := run_app1 (P := Try.prog) (t := 34) (m := ([] : List Int)) (ys := l1) (A2 := A1) (m2 := l1.length) (c2 := c1) (Value.int .i64) (0 : Int) (hS.at_ 0 rfl) (hr_l1 _ (hS.dropN 1)) rfl 34 Und34 hi3 hz3 hs3 (by omega) rfl (fun _ => rfl) hp1
  have hS : Sep w0 B w (own 3 (.slice A2 (([] ++ l1).length) c2) (vI ([] ++ l1)) :: fs) := hS
  refine at_do (d := 4) hF (by kernel_rfl) (by kernel_rfl) hrun (fun a hF => ?_)
  refine at_run 1 [] [] [2] [pl 2 (.slice A2 (([] ++ l1).length) c2)] hF hS (by kernel_rfl) (by kernel_rfl) ?_ (fun a w hF hS => ?_)
  · exact obs_nil
  refine at_end [2] [pl 2 (.slice A2 (([] ++ l1).length) c2)] hF rfl (by kernel_rfl) (fun hF => ?_)
  refine then_n ?_
  refine wpIn_ret ?_
  have hm : some ([] ++ l1) = some r := hm
  obtain rfl := Option.some.inj hm
  exact retV (rs := [.tmp 2]) (vs := [.slice A2 (([] ++ l1).length) c2]) hF rfl (rv_t (by kernel_rfl) <| rv_nil) rfl ⟨_, rfl, A2, c2, rfl, hS⟩

noncomputable def gameroomlaw_copied_J3  (i1 : Int) (out3 : List (List Int)) : Option (St (List (List Int) × Int) (List (List Int))) :=
  some (.next (out3, (w64 (i1 + 1))))

noncomputable def gameroomlaw_copied_J2  (l1 : List (List Int)) (out1 : List (List Int)) (i1 : Int) : Option (St (List (List Int) × Int) (List (List Int))) :=
  asrt (0 ≤ i1 ∧ i1 < (l1.length : Int)) <| (gameroomlaw_ints_m (geti2 l1 i1)).bind fun r1 => asrt (((out1.length : Int) : Int) + 1 ≤ bigR) <| (gameroomlaw_copied_J3 i1) (out1 ++ [r1])

noncomputable def gameroomlaw_copied_J1  (out2 : List (List Int)) : Option (List (List Int)) :=
  some out2

noncomputable def gameroomlaw_copied_K1  : (List (List Int)) → Option (List (List Int)) :=
  fun (x : (List (List Int))) => match x with | out2 => gameroomlaw_copied_J1 out2

noncomputable def gameroomlaw_copied_L1  (l1 : List (List Int)) : (List (List Int) × Int) → Option (St (List (List Int) × Int) (List (List Int))) :=
  fun (x : (List (List Int) × Int)) => match x with | (out1, i1) => if (decide (i1 < (l1.length : Int))) then ((gameroomlaw_copied_J2 l1 out1 i1)) else (some (.done out1))

noncomputable def gameroomlaw_copied_m  (l1 : List (List Int)) : Option (List (List Int)) :=
  (loop (gameroomlaw_copied_L1 l1) (([] : List (List Int)), 0)).bind gameroomlaw_copied_K1

set_option maxRecDepth 100000 in
set_option maxHeartbeats 4000000 in
theorem gameroomlaw_copied_w {A1 : Option Addr} {c1 : Nat} {n1 : Nat} {hd1 : List Hd} {l1 : List (List Int)} {r : (List (List Int))} {w0 w : World} {B : Nat} {fs : List HP} (hm : gameroomlaw_copied_m l1 = some r) (hS : Sep w0 B w (fs)) (hr_l1 : RdRowsF w0 B fs A1 hd1 l1) (_hc_l1 : l1.length ≤ c1) (_hn_l1 : n1 = l1.length) :
    Calls Try.prog 30 #[.slice A1 n1 c1] w fun e w' => ∃ v, e = .returned v ∧ ∃ (A7 : Option Addr) (c7 : Nat) (hd5 : List Hd), v = .slice A7 r.length c7 ∧ Sep w0 B w' (rows 34 3 (.slice A7 r.length c7) hd5 r :: fs) := by
  obtain ⟨i34, hi34, hz34, hs34, hb34⟩ := info_parts Info34
  obtain rfl := _hn_l1
  unfold gameroomlaw_copied_m at hm
  replace hm := start_b hm
  refine enter (l := [.slice A1 l1.length c1]) (n := 20) Try.func30 rfl rfl (by simp) (fun a hF => ?_)
  refine reg [] [] [0] [pl 0 (.slice A1 l1.length c1)] hF hS Fol (by kernel_rfl) (by kernel_rfl) (by kernel_rfl) ?_ (fun a w hF hS => ?_)
  · exact obs_nil
  refine reg [] [] [0, 3] [pl 0 (.slice A1 l1.length c1), pl 3 (.slice none 0 0)] hF hS Fol (by kernel_rfl) (by kernel_rfl) (by kernel_rfl) ?_ (fun a w hF hS => ?_)
  · exact obs_nil
  refine seq_cut (fun a w => ∃ (out2 : List (List Int)) (A3 : Option Addr) (c3 : Nat) (hd3 : List Hd), Fr 20 [pl 3 (.slice A3 out2.length c3)] a ∧ Sep w0 B w (rows 34 3 (.slice A3 out2.length c3) hd3 out2 :: fs) ∧ (gameroomlaw_copied_J1 out2).bind some = some r) ?_ ?_
  · rintro a w ⟨out2, A3, c3, hd3, hF, hS, hm⟩
    unfold gameroomlaw_copied_J1 at hm
    refine reg [] [] [2] [pl 2 (.slice A3 out2.length c3)] hF hS Fol (by kernel_rfl) (by kernel_rfl) (by kernel_rfl) ?_ (fun a w hF hS => ?_)
    · exact obs_nil
    refine wpIn_ret ?_
    have hm : some out2 = some r := hm
    obtain rfl := Option.some.inj hm
    exact retV (rs := [.tmp 2]) (vs := [.slice A3 out2.length c3]) hF rfl (rv_t (by kernel_rfl) <| rv_nil) rfl ⟨_, rfl, A3, c3, hd3, rfl, hS⟩
  · refine reg [] [] [0, 3, 4] [pl 0 (.slice A1 l1.length c1), pl 3 (.slice none 0 0), pl 4 (.int .i64 0)] hF hS Fol (by kernel_rfl) (by kernel_rfl) (by kernel_rfl) ?_ (fun a w hF hS => ?_)
    · exact obs_nil
    refine wpIn_block ?_
    have hS := hS.nilRows0 34 3
    have hl1 := (hS.at_ 0 rfl).lenR
    have hS := (hS.at_ 0 rfl).reNR hl1
    have hS : Sep w0 B w (rows 34 3 (.slice none (([] : List (List Int)).length) 0) ([]) ([] : List (List Int)) :: fs) := hS
    have hF := hF.cast (t := 3) (v := .slice none 0 0) (v' := .slice none (([] : List (List Int)).length) 0) rfl rfl (congrArg (fun k => Value.slice none k 0) hl1)
    refine wp_loop_model (S := (List (List Int) × Int)) (R := (List (List Int))) (gameroomlaw_copied_L1 l1) (fun x => (gameroomlaw_copied_K1 x).bind some) r (fun (x : (List (List Int) × Int)) a w => ∃ (A2 : Option Addr) (c2 : Nat) (hd2 : List Hd), Fr 20 [pl 0 (.slice A1 l1.length c1), pl 3 (.slice A2 x.1.length c2), pl 4 (.int .i64 x.2)] a ∧ Sep w0 B w (rows 34 3 (.slice A2 x.1.length c2) hd2 x.1 :: fs)) (assoc_b hm) ⟨none, 0, ([]), hF.weak [0, 3, 4] (by kernel_rfl), hS⟩ ?_
    clear hF hS hm
    rintro nn1 ⟨out1, i1⟩ a w ⟨A2, c2, hd2, hF, hS⟩ hm
    generalize hφ1 : stK (gameroomlaw_copied_L1 l1) nn1 (fun x => (gameroomlaw_copied_K1 x).bind some) = φ1 at hm
    unfold gameroomlaw_copied_L1 at hm
    dsimp only at hF hS hm
    refine seq_cut (fun a w => Fr 20 [pl 0 (.slice A1 l1.length c1), pl 3 (.slice A2 out1.length c2), pl 4 (.int .i64 i1)] a ∧ Sep w0 B w (rows 34 3 (.slice A2 out1.length c2) hd2 out1 :: fs) ∧ ((gameroomlaw_copied_J2 l1 out1 i1)).bind φ1 = some r) ?_ ?_
    · rintro a w ⟨hF, hS, hm⟩
      unfold gameroomlaw_copied_J2 at hm
      refine seq_cut (fun a w => ∃ (out3 : List (List Int)) (A6 : Option Addr) (c6 : Nat) (hd4 : List Hd), Fr 20 [pl 0 (.slice A1 l1.length c1), pl 3 (.slice A6 out3.length c6), pl 4 (.int .i64 i1)] a ∧ Sep w0 B w (rows 34 3 (.slice A6 out3.length c6) hd4 out3 :: fs) ∧ ((gameroomlaw_copied_J3 i1) out3).bind φ1 = some r) ?_ ?_
      · rintro a w ⟨out3, A6, c6, hd4, hF, hS, hm⟩
        unfold gameroomlaw_copied_J3 at hm
        refine reg1 [] [] [0, 3, 4] [pl 0 (.slice A1 l1.length c1), pl 3 (.slice A6 out3.length c6), pl 4 (.int .i64 (w64 (i1 + 1)))] hF hS Fol (by kernel_rfl) (by kernel_rfl) (by kernel_rfl) ?_ (fun a w hF hS => ?_)
        · exact obs_nil
        refine then_n ?_
        rw [← hφ1] at hm
        exact ⟨(out3, (w64 (i1 + 1))), ⟨A6, c6, hd4, hF.weak [0, 3, 4] (by kernel_rfl), hS⟩, hm⟩
      · refine wpIn_block ?_
        refine oneR ?_
        obtain ⟨hp1, hm⟩ := asrt_b hm
        obtain ⟨r1, hr1, hm⟩ := call_b hm
        obtain ⟨hp2, hm⟩ := asrt_b hm
        refine at_run 5 [⟨true, [], vS (Instr.indexAt 45 (.slice A1 l1.length c1) (.int .i64 i1)), .pointer (some (sAddr A1 i1))⟩, ⟨false, [], vS (Instr.loadAt 34 (.pointer (some (sAddr A1 i1)))), .slice (hdA hd1 i1) ((geti2 l1 i1).length) (hdC hd1 i1)⟩] [none, none, none, some (.pointer (some (sAddr A1 i1))), some (.slice (hdA hd1 i1) ((geti2 l1 i1).length) (hdC hd1 i1))] [0, 4, 11, 15] [pl 0 (.slice A1 l1.length c1), pl 4 (.int .i64 i1), pl 11 (.slice A2 out1.length c2), pl 15 (.slice (hdA hd1 i1) ((geti2 l1 i1).length) (hdC hd1 i1))] hF hS (by kernel_rfl) (by kernel_rfl) ?_ (fun a w hF hS => ?_)
        · exact obs_cons (ob_ixRn Und45 hi34 hs34 (hr_l1 _ (hS.dropN 1)) rfl (fun _ => hp1)) <| obs_cons (ob_getR Agg34 (fun _ hS => ⟨_, (hr_l1 _ (hS.dropN 1))⟩) (fun _ => hp1)) <| obs_nil
        refine at_call (f := 22) (args := #[.slice (hdA hd1 i1) ((geti2 l1 i1).length) (hdC hd1 i1)]) (d := 16) hF (by kernel_rfl) (by kernel_rfl) Try.func22 (by kernel_rfl) rfl (gameroomlaw_ints_w hr1 hS (fun _ hS => ((hr_l1 _ (hS.dropN 1)).row _ hp1).1) ((hr_l1 _ (hS.dropN 1)).row _ hp1).2 rfl) (fun v a w hR hF => ?_)
        clear hS
        obtain ⟨A4, c4, rfl, hS⟩ := hR
        have hS : Sep w0 B w (own 3 (.slice A4 r1.length c4) (vI r1) :: rows 34 3 (.slice A2 out1.length c2) hd2 out1 :: fs) := hS
        refine at_do (d := 17) (s := vS (Instr.buildSlice 45 1 #[(0, .slice A4 r1.length c4)])) (v := .slice (some ⟨w.heap.size, 0, none⟩) 1 1) (w' := w.alloc (.cells #[.slice A4 r1.length c4] 34)) hF (by kernel_rfl) (by kernel_rfl) (by kernel_rfl) (fun a hF => ?_)
        have hS : Sep w0 B (w.alloc (.cells #[.slice A4 r1.length c4] 34)) (own 34 (.slice (some (⟨w.heap.size, 0, none⟩ : Addr)) 1 1) [.slice A4 r1.length c4] :: (own 3 (.slice A4 r1.length c4) (vI r1) :: rows 34 3 (.slice A2 out1.length c2) hd2 out1 :: fs)) := hS.lit 34 #[.slice A4 r1.length c4] 1 rfl (by omega)
        generalize (some (⟨w.heap.size, 0, none⟩ : Addr)) = g1 at hF hS
        generalize w.alloc (.cells #[.slice A4 r1.length c4] 34) = w at hS ⊢
        have hS := hS.pickN 3 [1, 0, 2] (by decide)
        have hS : Sep w0 B w (own 3 (.slice A4 r1.length c4) (vI r1) :: own 34 (.slice g1 1 1) [.slice A4 r1.length c4] :: rows 34 3 (.slice A2 out1.length c2) hd2 out1 :: fs) := hS
        obtain ⟨A5, c5, w, hrun, hS⟩ := run_appRow (P := Try.prog) (t := 45) (A2 := g1) (c2 := 1) (hS.at2 1 rfl) (hS.at_ 1 rfl).rd 45 Und45 hi34 hz34 hs34 hb34 hp2
        have hS : Sep w0 B w (own 34 (.slice g1 1 1) [.slice A4 r1.length c4] :: rows 34 3 (.slice A5 ((out1 ++ [r1]).length) c5) (hd2 ++ [(A4, c4)]) (out1 ++ [r1]) :: fs) := hS
        refine at_do (d := 18) hF (by kernel_rfl) (by kernel_rfl) hrun (fun a hF => ?_)
        refine at_run 1 [] [] [0, 3, 4] [pl 0 (.slice A1 l1.length c1), pl 3 (.slice A5 ((out1 ++ [r1]).length) c5), pl 4 (.int .i64 i1)] hF hS (by kernel_rfl) (by kernel_rfl) ?_ (fun a w hF hS => ?_)
        · exact obs_nil
        refine at_end [0, 3, 4] [pl 0 (.slice A1 l1.length c1), pl 3 (.slice A5 ((out1 ++ [r1]).length) c5), pl 4 (.int .i64 i1)] hF rfl (by kernel_rfl) (fun hF => ?_)
        refine block_n ?_
        refine then_n ?_
        have hS := hS.pickN 2 [1] (by decide)
        exact ⟨(out1 ++ [r1]), A5, c5, (hd2 ++ [(A4, c4)]), hF.weak [0, 3, 4] (by kernel_rfl), hS, hm⟩
    · refine reg [] [] [0, 3, 4, 8] [pl 0 (.slice A1 l1.length c1), pl 3 (.slice A2 out1.length c2), pl 4 (.int .i64 i1), pl 8 (.bool (decide (i1 < (l1.length : Int))))] hF hS Fol (by kernel_rfl) (by kernel_rfl) (by kernel_rfl) ?_ (fun a w hF hS => ?_)
      · exact obs_nil
      refine cond_ev (t := 8) (b := decide (i1 < (l1.length : Int))) hF (by kernel_rfl) (fun hb => ?_) (fun hb => ?_)
      · replace hm := if_t hm hb
        refine wpIn_skip ?_
        refine then_n ?_
        exact ⟨hF.weak [0, 3, 4] (by kernel_rfl), hS, hm⟩
      · replace hm := if_f hm hb
        refine wpIn_exit ?_
        refine then_e (then_e (block_e (then_n ?_)))
        rw [← hφ1] at hm
        replace hm := done_b hm
        unfold gameroomlaw_copied_K1 at hm
        try dsimp only at hm
        have hm : (gameroomlaw_copied_J1 out1).bind some = some r := hm
        exact ⟨out1, A2, c2, hd2, hF.weak [3] (by kernel_rfl), hS, hm⟩

noncomputable def slices_Grow_J2  (s1 : List Int) : Option (List Int) :=
  some s1

noncomputable def slices_Grow_J1  (n1 : Int) : Option (List Int) :=
  if (decide ((0 : Int) < (w64 (n1 - (w64 (0 - 0)))))) then (asrt ((0 : Int) ≤ (w64 (n1 - (w64 (0 - 0)))) ∧ (w64 (n1 - (w64 (0 - 0)))) ≤ bigN) <| asrt (0 ≤ (0 : Int) ∧ (0 : Int) ≤ (0 : Int) ∧ (0 : Int) ≤ (((List.replicate (Int.toNat (w64 (n1 - (w64 (0 - 0))))) (0 : Int)).length : Nat) : Int)) <| slices_Grow_J2 (cut (List.replicate (Int.toNat (w64 (n1 - (w64 (0 - 0))))) (0 : Int)) (0 : Int) (0 : Int))) else (slices_Grow_J2 ([] : List Int))

noncomputable def slices_Grow_m  (n1 : Int) : Option (List Int) :=
  if (decide (n1 < 0)) then none else ((slices_Grow_J1 n1))

set_option maxRecDepth 100000 in
set_option maxHeartbeats 4000000 in
theorem slices_Grow_w {n1 : Int} {r : (List Int)} {w0 w : World} {B : Nat} {fs : List HP} (hm : slices_Grow_m n1 = some r) (hS : Sep w0 B w (fs)) :
    Calls Try.prog 157 #[.slice none 0 0, .int .i64 n1] w fun e w' => ∃ v, e = .returned v ∧ ∃ (A3 : Option Addr) (c3 : Nat), v = .slice A3 r.length c3 ∧ Sep w0 B w' (own 3 (.slice A3 r.length c3) (vI r) :: fs) := by
  obtain ⟨i3, hi3, hz3, hs3, hb3⟩ := info_parts Info3
  unfold slices_Grow_m at hm
  replace hm := start_b hm
  refine enter (l := [.slice none 0 0, .int .i64 n1]) (n := 27) Try.func157 rfl rfl (by simp) (fun a hF => ?_)
  refine reg [] [] [0, 1] [pl 0 (.slice none 0 0), pl 1 (.int .i64 n1)] hF hS Fol (by kernel_rfl) (by kernel_rfl) (by kernel_rfl) ?_ (fun a w hF hS => ?_)
  · exact obs_nil
  refine seq_cut (fun a w => Fr 27 [pl 0 (.slice none 0 0), pl 1 (.int .i64 n1)] a ∧ Sep w0 B w (fs) ∧ ((slices_Grow_J1 n1)).bind some = some r) ?_ ?_
  · rintro a w ⟨hF, hS, hm⟩
    unfold slices_Grow_J1 at hm
    refine seq_cut (fun a w => ∃ (s1 : List Int) (A2 : Option Addr) (c2 : Nat), Fr 27 [pl 0 (.slice A2 s1.length c2)] a ∧ Sep w0 B w (own 3 (.slice A2 s1.length c2) (vI s1) :: fs) ∧ (slices_Grow_J2 s1).bind some = some r) ?_ ?_
    · rintro a w ⟨s1, A2, c2, hF, hS, hm⟩
      unfold slices_Grow_J2 at hm
      refine reg [] [] [4] [pl 4 (.slice A2 s1.length c2)] hF hS Fol (by kernel_rfl) (by kernel_rfl) (by kernel_rfl) ?_ (fun a w hF hS => ?_)
      · exact obs_nil
      refine wpIn_ret ?_
      have hm : some s1 = some r := hm
      obtain rfl := Option.some.inj hm
      exact retV (rs := [.tmp 4]) (vs := [.slice A2 s1.length c2]) hF rfl (rv_t (by kernel_rfl) <| rv_nil) rfl ⟨_, rfl, A2, c2, rfl, hS⟩
    · refine reg [] [] [0, 1] [pl 0 (.slice none 0 0), pl 1 (.int .i64 (w64 (n1 - (w64 (0 - 0)))))] hF hS Fol (by kernel_rfl) (by kernel_rfl) (by kernel_rfl) ?_ (fun a w hF hS => ?_)
      · exact obs_nil
      refine reg [] [] [0, 1, 16] [pl 0 (.slice none 0 0), pl 1 (.int .i64 (w64 (n1 - (w64 (0 - 0))))), pl 16 (.bool (decide ((0 : Int) < (w64 (n1 - (w64 (0 - 0)))))))] hF hS Fol (by kernel_rfl) (by kernel_rfl) (by kernel_rfl) ?_ (fun a w hF hS => ?_)
      · exact obs_nil
      refine cond_ev (t := 16) (b := decide ((0 : Int) < (w64 (n1 - (w64 (0 - 0)))))) hF (by kernel_rfl) (fun hb => ?_) (fun hb => ?_)
      · replace hm := if_t hm hb
        refine oneR ?_
        obtain ⟨hp1, hm⟩ := asrt_b hm
        obtain ⟨hp2, hm⟩ := asrt_b hm
        refine at_run 5 [⟨true, [], vS (Instr.sliceAt 34 (.slice none 0 0) none (some (.int .i64 0)) none), .slice none 0 0⟩] [none, none, none, some (.slice none 0 0), none] [0, 20, 21] [pl 0 (.slice none 0 0), pl 20 (.slice none 0 0), pl 21 (.int .i64 (w64 (n1 - (w64 (0 - 0)))))] hF hS (by kernel_rfl) (by kernel_rfl) ?_ (fun a w hF hS => ?_)
        · exact obs_cons (ob_cut (k := .i64) (k' := .i64) (A := none) (l := ([] : List Int)) (c := 0) (lo := 0) (hi := 0) Und34 hi3 hs3 (.inr ⟨rfl, rfl⟩) (.inl rfl) (fun _ => by simp) (Nat.le_refl _)) <| obs_nil
        obtain ⟨A1, c1, w, hrun, hS⟩ := run_app01 (P := Try.prog) (t := 34) (tx := 3) (ty := 34) hS Und34 Try.underlying3 hi3 hz3 hs3 hb3 hp1
        have hS : Sep w0 B w (own 3 (.slice A1 ((List.replicate (Int.toNat (w64 (n1 - (w64 (0 - 0))))) (0 : Int)).length) c1) (vI (List.replicate (Int.toNat (w64 (n1 - (w64 (0 - 0))))) (0 : Int))) :: fs) := hS
        refine at_do (d := 22) hF (by kernel_rfl) (by kernel_rfl) hrun (fun a hF => ?_)
        refine at_run 4 [⟨true, [], vS (Instr.sliceAt 34 (.slice A1 ((List.replicate (Int.toNat (w64 (n1 - (w64 (0 - 0))))) (0 : Int)).length) c1) none (some (.int .i64 (0 : Int))) none), .slice (cutAddr A1 c1 (0 : Int)) ((cut (List.replicate (Int.toNat (w64 (n1 - (w64 (0 - 0))))) (0 : Int)) (0 : Int) (0 : Int)).length) (c1 - Int.toNat (0 : Int))⟩] [none, none, some (.slice (cutAddr A1 c1 (0 : Int)) ((cut (List.replicate (Int.toNat (w64 (n1 - (w64 (0 - 0))))) (0 : Int)) (0 : Int) (0 : Int)).length) (c1 - Int.toNat (0 : Int))), none] [0] [pl 0 (.slice (cutAddr A1 c1 (0 : Int)) ((cut (List.replicate (Int.toNat (w64 (n1 - (w64 (0 - 0))))) (0 : Int)) (0 : Int) (0 : Int)).length) (c1 - Int.toNat (0 : Int)))] hF hS (by kernel_rfl) (by kernel_rfl) ?_ (fun a w hF hS => ?_)
        · exact obs_cons (ob_cutn (l := (List.replicate (Int.toNat (w64 (n1 - (w64 (0 - 0))))) (0 : Int))) (k := .i64) (k' := .i64) Und34 hi3 hs3 rfl (.inr ⟨rfl, rfl⟩) (.inl rfl) (fun _ => hp2) ((hS.at_ 0 rfl).cap1)) <| obs_nil
        refine at_end [0] [pl 0 (.slice (cutAddr A1 c1 (0 : Int)) ((cut (List.replicate (Int.toNat (w64 (n1 - (w64 (0 - 0))))) (0 : Int)) (0 : Int) (0 : Int)).length) (c1 - Int.toNat (0 : Int)))] hF rfl (by kernel_rfl) (fun hF => ?_)
        refine then_n ?_
        have hS : Sep w0 B w (own 3 (.slice (cutAddr A1 c1 (0 : Int)) ((cut (List.replicate (Int.toNat (w64 (n1 - (w64 (0 - 0))))) (0 : Int)) (0 : Int) (0 : Int)).length) (c1 - Int.toNat (0 : Int))) (vI (cut (List.replicate (Int.toNat (w64 (n1 - (w64 (0 - 0))))) (0 : Int)) (0 : Int) (0 : Int))) :: fs) := (hS.at_ 0 rfl).prefixN rfl hp2
        exact ⟨(cut (List.replicate (Int.toNat (w64 (n1 - (w64 (0 - 0))))) (0 : Int)) (0 : Int) (0 : Int)), (cutAddr A1 c1 (0 : Int)), (c1 - Int.toNat (0 : Int)), hF.weak [0] (by kernel_rfl), hS, hm⟩
      · replace hm := if_f hm hb
        refine wpIn_skip ?_
        refine then_n ?_
        have hS : Sep w0 B w (own 3 (.slice none 0 0) (vI ([] : List Int)) :: fs) := hS.nil 3
        have hl1 := (hS.at_ 0 rfl).len1
        have hS := (hS.at_ 0 rfl).reN hl1
        have hS : Sep w0 B w (own 3 (.slice none (([] : List Int).length) 0) (vI ([] : List Int)) :: fs) := hS
        have hF := hF.cast (t := 0) (v := .slice none 0 0) (v' := .slice none (([] : List Int).length) 0) rfl rfl (congrArg (fun k => Value.slice none k 0) hl1)
        exact ⟨([] : List Int), none, 0, hF.weak [0] (by kernel_rfl), hS, hm⟩
  · refine reg [] [] [0, 1, 6] [pl 0 (.slice none 0 0), pl 1 (.int .i64 n1), pl 6 (.bool (decide (n1 < 0)))] hF hS Fol (by kernel_rfl) (by kernel_rfl) (by kernel_rfl) ?_ (fun a w hF hS => ?_)
    · exact obs_nil
    refine cond_ev (t := 6) (b := decide (n1 < 0)) hF (by kernel_rfl) (fun hb => ?_) (fun hb => ?_)
    · replace hm := if_t hm hb
      simp at hm
    · replace hm := if_f hm hb
      refine wpIn_skip ?_
      refine then_n ?_
      exact ⟨hF.weak [0, 1] (by kernel_rfl), hS, hm⟩

noncomputable def slices_Concat_J3  (slices1 : List (List Int)) (size1 : Int) (z1 : Int) : Option (St (Int × Int) Int) :=
  some (.next ((w64 (size1 + (((geti2 slices1 z1).length : Nat) : Int))), (w64 (z1 + 1))))

noncomputable def slices_Concat_J2  (slices1 : List (List Int)) (size1 : Int) (z1 : Int) : Option (St (Int × Int) Int) :=
  asrt (0 ≤ z1 ∧ z1 < (slices1.length : Int)) <| if (decide ((w64 (size1 + (((geti2 slices1 z1).length : Nat) : Int))) < 0)) then none else ((slices_Concat_J3 slices1 size1 z1))

noncomputable def slices_Concat_J6  (z2 : Int) (newslice3 : List Int) : Option (St (List Int × Int) (List Int)) :=
  some (.next (newslice3, (w64 (z2 + 1))))

noncomputable def slices_Concat_J5  (slices1 : List (List Int)) (newslice1 : List Int) (z2 : Int) : Option (St (List Int × Int) (List Int)) :=
  asrt (0 ≤ z2 ∧ z2 < (slices1.length : Int)) <| asrt ((newslice1.length : Int) + (((geti2 slices1 z2).length : Nat) : Int) ≤ bigN) <| (slices_Concat_J6 z2) (newslice1 ++ (geti2 slices1 z2))

noncomputable def slices_Concat_L2  (slices1 : List (List Int)) : (List Int × Int) → Option (St (List Int × Int) (List Int)) :=
  fun (x : (List Int × Int)) => match x with | (newslice1, z2) => if (decide (z2 < (slices1.length : Int))) then ((slices_Concat_J5 slices1 newslice1 z2)) else (some (.done newslice1))

noncomputable def slices_Concat_J4  (newslice2 : List Int) : Option (List Int) :=
  some newslice2

noncomputable def slices_Concat_K2  : (List Int) → Option (List Int) :=
  fun (x : (List Int)) => match x with | newslice2 => slices_Concat_J4 newslice2

noncomputable def slices_Concat_J1  (slices1 : List (List Int)) (size2 : Int) : Option (List Int) :=
  (slices_Grow_m size2).bind fun r1 => (loop (slices_Concat_L2 slices1) (r1, 0)).bind slices_Concat_K2

noncomputable def slices_Concat_K1  (slices1 : List (List Int)) : Int → Option (List Int) :=
  fun (x : Int) => match x with | size2 => (slices_Concat_J1 slices1) size2

noncomputable def slices_Concat_L1  (slices1 : List (List Int)) : (Int × Int) → Option (St (Int × Int) Int) :=
  fun (x : (Int × Int)) => match x with | (size1, z1) => if (decide (z1 < (slices1.length : Int))) then ((slices_Concat_J2 slices1 size1 z1)) else (some (.done size1))

noncomputable def slices_Concat_m  (slices1 : List (List Int)) : Option (List Int) :=
  (loop (slices_Concat_L1 slices1) (0, 0)).bind (slices_Concat_K1 slices1)

set_option maxRecDepth 100000 in
set_option maxHeartbeats 4000000 in
theorem slices_Concat_w {A1 : Option Addr} {c1 : Nat} {n1 : Nat} {hd1 : List Hd} {slices1 : List (List Int)} {r : (List Int)} {w0 w : World} {B : Nat} {fs : List HP} (hm : slices_Concat_m slices1 = some r) (hS : Sep w0 B w (fs)) (hr_slices1 : RdRowsF w0 B fs A1 hd1 slices1) (_hc_slices1 : slices1.length ≤ c1) (_hn_slices1 : n1 = slices1.length) :
    Calls Try.prog 112 #[.slice A1 n1 c1] w fun e w' => ∃ v, e = .returned v ∧ ∃ (A7 : Option Addr) (c7 : Nat), v = .slice A7 r.length c7 ∧ Sep w0 B w' (own 3 (.slice A7 r.length c7) (vI r) :: fs) := by
  obtain ⟨i3, hi3, hz3, hs3, hb3⟩ := info_parts Info3
  obtain ⟨i34, hi34, hz34, hs34, hb34⟩ := info_parts Info34
  obtain rfl := _hn_slices1
  unfold slices_Concat_m at hm
  replace hm := start_b hm
  refine enter (l := [.slice A1 slices1.length c1]) (n := 36) Try.func112 rfl rfl (by simp) (fun a hF => ?_)
  refine reg [] [] [0] [pl 0 (.slice A1 slices1.length c1)] hF hS Fol (by kernel_rfl) (by kernel_rfl) (by kernel_rfl) ?_ (fun a w hF hS => ?_)
  · exact obs_nil
  refine reg [] [] [0, 3] [pl 0 (.slice A1 slices1.length c1), pl 3 (.int .i64 0)] hF hS Fol (by kernel_rfl) (by kernel_rfl) (by kernel_rfl) ?_ (fun a w hF hS => ?_)
  · exact obs_nil
  refine seq_cut (fun a w => ∃ (size2 : Int), Fr 36 [pl 0 (.slice A1 slices1.length c1), pl 3 (.int .i64 size2)] a ∧ Sep w0 B w (fs) ∧ ((slices_Concat_J1 slices1) size2).bind some = some r) ?_ ?_
  · rintro a w ⟨size2, hF, hS, hm⟩
    unfold slices_Concat_J1 at hm
    refine seqR ?_
    obtain ⟨r1, hr1, hm⟩ := call_b hm
    refine at_run 1 [] [] [0, 23] [pl 0 (.slice A1 slices1.length c1), pl 23 (.int .i64 size2)] hF hS (by kernel_rfl) (by kernel_rfl) ?_ (fun a w hF hS => ?_)
    · exact obs_nil
    refine at_call (f := 157) (args := #[.slice none 0 0, .int .i64 size2]) (d := 24) hF (by kernel_rfl) (by kernel_rfl) Try.func157 (by kernel_rfl) rfl (slices_Grow_w hr1 hS ) (fun v a w hR hF => ?_)
    clear hS
    obtain ⟨A2, c2, rfl, hS⟩ := hR
    have hS : Sep w0 B w (own 3 (.slice A2 r1.length c2) (vI r1) :: fs) := hS
    refine at_run 1 [] [] [0, 6] [pl 0 (.slice A1 slices1.length c1), pl 6 (.slice A2 r1.length c2)] hF hS (by kernel_rfl) (by kernel_rfl) ?_ (fun a w hF hS => ?_)
    · exact obs_nil
    refine at_end [0, 6] [pl 0 (.slice A1 slices1.length c1), pl 6 (.slice A2 r1.length c2)] hF rfl (by kernel_rfl) (fun hF => ?_)
    refine then_n ?_
    refine seq_cut (fun a w => ∃ (newslice2 : List Int) (A4 : Option Addr) (c4 : Nat), Fr 36 [pl 6 (.slice A4 newslice2.length c4)] a ∧ Sep w0 B w (own 3 (.slice A4 newslice2.length c4) (vI newslice2) :: fs) ∧ (slices_Concat_J4 newslice2).bind some = some r) ?_ ?_
    · rintro a w ⟨newslice2, A4, c4, hF, hS, hm⟩
      unfold slices_Concat_J4 at hm
      refine reg [] [] [2] [pl 2 (.slice A4 newslice2.length c4)] hF hS Fol (by kernel_rfl) (by kernel_rfl) (by kernel_rfl) ?_ (fun a w hF hS => ?_)
      · exact obs_nil
      refine wpIn_ret ?_
      have hm : some newslice2 = some r := hm
      obtain rfl := Option.some.inj hm
      exact retV (rs := [.tmp 2]) (vs := [.slice A4 newslice2.length c4]) hF rfl (rv_t (by kernel_rfl) <| rv_nil) rfl ⟨_, rfl, A4, c4, rfl, hS⟩
    · refine reg [] [] [6, 25, 26, 27] [pl 6 (.slice A2 r1.length c2), pl 25 (.slice A1 slices1.length c1), pl 26 (.int .i64 (slices1.length : Int)), pl 27 (.int .i64 0)] hF hS Fol (by kernel_rfl) (by kernel_rfl) (by kernel_rfl) ?_ (fun a w hF hS => ?_)
      · exact obs_nil
      refine wpIn_block ?_
      refine wp_loop_model (S := (List Int × Int)) (R := (List Int)) (slices_Concat_L2 slices1) (fun x => (slices_Concat_K2 x).bind some) r (fun (x : (List Int × Int)) a w => ∃ (A3 : Option Addr) (c3 : Nat), Fr 36 [pl 6 (.slice A3 x.1.length c3), pl 25 (.slice A1 slices1.length c1), pl 26 (.int .i64 (slices1.length : Int)), pl 27 (.int .i64 x.2)] a ∧ Sep w0 B w (own 3 (.slice A3 x.1.length c3) (vI x.1) :: fs)) (assoc_b hm) ⟨A2, c2, hF.weak [6, 25, 26, 27] (by kernel_rfl), hS⟩ ?_
      clear hF hS hm
      rintro nn2 ⟨newslice1, z2⟩ a w ⟨A3, c3, hF, hS⟩ hm
      generalize hφ2 : stK (slices_Concat_L2 slices1) nn2 (fun x => (slices_Concat_K2 x).bind some) = φ2 at hm
      unfold slices_Concat_L2 at hm
      dsimp only at hF hS hm
      refine reg [] [] [6, 25, 26, 27, 28] [pl 6 (.slice A3 newslice1.length c3), pl 25 (.slice A1 slices1.length c1), pl 26 (.int .i64 (slices1.length : Int)), pl 27 (.int .i64 z2), pl 28 (.bool (decide (z2 < (slices1.length : Int))))] hF hS Fol (by kernel_rfl) (by kernel_rfl) (by kernel_rfl) ?_ (fun a w hF hS => ?_)
      · exact obs_nil
      refine seq_cut (fun a w => Fr 36 [pl 6 (.slice A3 newslice1.length c3), pl 25 (.slice A1 slices1.length c1), pl 26 (.int .i64 (slices1.length : Int)), pl 27 (.int .i64 z2)] a ∧ Sep w0 B w (own 3 (.slice A3 newslice1.length c3) (vI newslice1) :: fs) ∧ ((slices_Concat_J5 slices1 newslice1 z2)).bind φ2 = some r) ?_ ?_
      · rintro a w ⟨hF, hS, hm⟩
        unfold slices_Concat_J5 at hm
        refine seq_cut (fun a w => ∃ (newslice3 : List Int) (A6 : Option Addr) (c6 : Nat), Fr 36 [pl 6 (.slice A6 newslice3.length c6), pl 25 (.slice A1 slices1.length c1), pl 26 (.int .i64 (slices1.length : Int)), pl 27 (.int .i64 z2)] a ∧ Sep w0 B w (own 3 (.slice A6 newslice3.length c6) (vI newslice3) :: fs) ∧ ((slices_Concat_J6 z2) newslice3).bind φ2 = some r) ?_ ?_
        · rintro a w ⟨newslice3, A6, c6, hF, hS, hm⟩
          unfold slices_Concat_J6 at hm
          refine reg1 [] [] [6, 25, 26, 27] [pl 6 (.slice A6 newslice3.length c6), pl 25 (.slice A1 slices1.length c1), pl 26 (.int .i64 (slices1.length : Int)), pl 27 (.int .i64 (w64 (z2 + 1)))] hF hS Fol (by kernel_rfl) (by kernel_rfl) (by kernel_rfl) ?_ (fun a w hF hS => ?_)
          · exact obs_nil
          refine then_n ?_
          rw [← hφ2] at hm
          exact ⟨(newslice3, (w64 (z2 + 1))), ⟨A6, c6, hF.weak [6, 25, 26, 27] (by kernel_rfl), hS⟩, hm⟩
        · refine wpIn_block ?_
          obtain ⟨hp2, hm⟩ := asrt_b hm
          refine reg [⟨true, [], vS (Instr.indexAt 45 (.slice A1 slices1.length c1) (.int .i64 z2)), .pointer (some (sAddr A1 z2))⟩, ⟨false, [], vS (Instr.loadAt 34 (.pointer (some (sAddr A1 z2)))), .slice (hdA hd1 z2) ((geti2 slices1 z2).length) (hdC hd1 z2)⟩] [some (.pointer (some (sAddr A1 z2))), some (.slice (hdA hd1 z2) ((geti2 slices1 z2).length) (hdC hd1 z2)), none] [6, 8, 25, 26, 27] [pl 6 (.slice A3 newslice1.length c3), pl 8 (.slice (hdA hd1 z2) ((geti2 slices1 z2).length) (hdC hd1 z2)), pl 25 (.slice A1 slices1.length c1), pl 26 (.int .i64 (slices1.length : Int)), pl 27 (.int .i64 z2)] hF hS Fol (by kernel_rfl) (by kernel_rfl) (by kernel_rfl) ?_ (fun a w hF hS => ?_)
          · exact obs_cons (ob_ixRn Und45 hi34 hs34 (hr_slices1 _ (hS.dropN 1)) rfl (fun _ => hp2)) <| obs_cons (ob_getR Agg34 (fun _ hS => ⟨_, (hr_slices1 _ (hS.dropN 1))⟩) (fun _ => hp2)) <| obs_nil
          refine oneR ?_
          obtain ⟨hp3, hm⟩ := asrt_b hm
          refine at_run 2 [] [] [25, 26, 27, 31, 32] [pl 25 (.slice A1 slices1.length c1), pl 26 (.int .i64 (slices1.length : Int)), pl 27 (.int .i64 z2), pl 31 (.slice A3 newslice1.length c3), pl 32 (.slice (hdA hd1 z2) ((geti2 slices1 z2).length) (hdC hd1 z2))] hF hS (by kernel_rfl) (by kernel_rfl) ?_ (fun a w hF hS => ?_)
          · exact obs_nil
          obtain ⟨A5, c5, w, hrun, hS⟩ := run_app1 (P := Try.prog) (t := 34) (m := newslice1) (ys := (geti2 slices1 z2)) (A2 := (hdA hd1 z2)) (m2 := (geti2 slices1 z2).length) (c2 := (hdC hd1 z2)) (Value.int .i64) (0 : Int) (hS.at_ 0 rfl) ((hr_slices1 _ (hS.dropN 1)).row _ hp2).1 rfl 34 Und34 hi3 hz3 hs3 (by omega) rfl (fun _ => rfl) hp3
          have hS : Sep w0 B w (own 3 (.slice A5 ((newslice1 ++ (geti2 slices1 z2)).length) c5) (vI (newslice1 ++ (geti2 slices1 z2))) :: fs) := hS
          refine at_do (d := 33) hF (by kernel_rfl) (by kernel_rfl) hrun (fun a hF => ?_)
          refine at_run 1 [] [] [6, 25, 26, 27] [pl 6 (.slice A5 ((newslice1 ++ (geti2 slices1 z2)).length) c5), pl 25 (.slice A1 slices1.length c1), pl 26 (.int .i64 (slices1.length : Int)), pl 27 (.int .i64 z2)] hF hS (by kernel_rfl) (by kernel_rfl) ?_ (fun a w hF hS => ?_)
          · exact obs_nil
          refine at_end [6, 25, 26, 27] [pl 6 (.slice A5 ((newslice1 ++ (geti2 slices1 z2)).length) c5), pl 25 (.slice A1 slices1.length c1), pl 26 (.int .i64 (slices1.length : Int)), pl 27 (.int .i64 z2)] hF rfl (by kernel_rfl) (fun hF => ?_)
          refine block_n ?_
          refine then_n ?_
          exact ⟨(newslice1 ++ (geti2 slices1 z2)), A5, c5, hF.weak [6, 25, 26, 27] (by kernel_rfl), hS, hm⟩
      · refine cond_ev (t := 28) (b := decide (z2 < (slices1.length : Int))) hF (by kernel_rfl) (fun hb => ?_) (fun hb => ?_)
        · replace hm := if_t hm hb
          refine wpIn_skip ?_
          refine then_n ?_
          exact ⟨hF.weak [6, 25, 26, 27] (by kernel_rfl), hS, hm⟩
        · replace hm := if_f hm hb
          refine wpIn_exit ?_
          refine then_e (then_e (block_e (then_n ?_)))
          rw [← hφ2] at hm
          replace hm := done_b hm
          unfold slices_Concat_K2 at hm
          try dsimp only at hm
          have hm : (slices_Concat_J4 newslice1).bind some = some r := hm
          exact ⟨newslice1, A3, c3, hF.weak [6] (by kernel_rfl), hS, hm⟩
  · refine reg [] [] [0, 3, 9, 10, 11] [pl 0 (.slice A1 slices1.length c1), pl 3 (.int .i64 0), pl 9 (.slice A1 slices1.length c1), pl 10 (.int .i64 (slices1.length : Int)), pl 11 (.int .i64 0)] hF hS Fol (by kernel_rfl) (by kernel_rfl) (by kernel_rfl) ?_ (fun a w hF hS => ?_)
    · exact obs_nil
    refine wpIn_block ?_
    refine wp_loop_model (S := (Int × Int)) (R := Int) (slices_Concat_L1 slices1) (fun x => ((slices_Concat_K1 slices1) x).bind some) r (fun (x : (Int × Int)) a w => Fr 36 [pl 0 (.slice A1 slices1.length c1), pl 3 (.int .i64 x.1), pl 9 (.slice A1 slices1.length c1), pl 10 (.int .i64 (slices1.length : Int)), pl 11 (.int .i64 x.2)] a ∧ Sep w0 B w (fs)) (assoc_b hm) ⟨hF.weak [0, 3, 9, 10, 11] (by kernel_rfl), hS⟩ ?_
    clear hF hS hm
    rintro nn1 ⟨size1, z1⟩ a w ⟨hF, hS⟩ hm
    generalize hφ1 : stK (slices_Concat_L1 slices1) nn1 (fun x => ((slices_Concat_K1 slices1) x).bind some) = φ1 at hm
    unfold slices_Concat_L1 at hm
    dsimp only at hF hS hm
    refine reg [] [] [0, 3, 9, 10, 11, 12] [pl 0 (.slice A1 slices1.length c1), pl 3 (.int .i64 size1), pl 9 (.slice A1 slices1.length c1), pl 10 (.int .i64 (slices1.length : Int)), pl 11 (.int .i64 z1), pl 12 (.bool (decide (z1 < (slices1.length : Int))))] hF hS Fol (by kernel_rfl) (by kernel_rfl) (by kernel_rfl) ?_ (fun a w hF hS => ?_)
    · exact obs_nil
    refine seq_cut (fun a w => Fr 36 [pl 0 (.slice A1 slices1.length c1), pl 3 (.int .i64 size1), pl 9 (.slice A1 slices1.length c1), pl 10 (.int .i64 (slices1.length : Int)), pl 11 (.int .i64 z1)] a ∧ Sep w0 B w (fs) ∧ ((slices_Concat_J2 slices1 size1 z1)).bind φ1 = some r) ?_ ?_
    · rintro a w ⟨hF, hS, hm⟩
      unfold slices_Concat_J2 at hm
      refine seq_cut (fun a w => Fr 36 [pl 0 (.slice A1 slices1.length c1), pl 3 (.int .i64 (w64 (size1 + (((geti2 slices1 z1).length : Nat) : Int)))), pl 9 (.slice A1 slices1.length c1), pl 10 (.int .i64 (slices1.length : Int)), pl 11 (.int .i64 z1)] a ∧ Sep w0 B w (fs) ∧ ((slices_Concat_J3 slices1 size1 z1)).bind φ1 = some r) ?_ ?_
      · rintro a w ⟨hF, hS, hm⟩
        unfold slices_Concat_J3 at hm
        refine reg1 [] [] [0, 3, 9, 10, 11] [pl 0 (.slice A1 slices1.length c1), pl 3 (.int .i64 (w64 (size1 + (((geti2 slices1 z1).length : Nat) : Int)))), pl 9 (.slice A1 slices1.length c1), pl 10 (.int .i64 (slices1.length : Int)), pl 11 (.int .i64 (w64 (z1 + 1)))] hF hS Fol (by kernel_rfl) (by kernel_rfl) (by kernel_rfl) ?_ (fun a w hF hS => ?_)
        · exact obs_nil
        refine then_n ?_
        rw [← hφ1] at hm
        exact ⟨((w64 (size1 + (((geti2 slices1 z1).length : Nat) : Int))), (w64 (z1 + 1))), ⟨hF.weak [0, 3, 9, 10, 11] (by kernel_rfl), hS⟩, hm⟩
      · refine wpIn_block ?_
        obtain ⟨hp1, hm⟩ := asrt_b hm
        refine reg [⟨true, [], vS (Instr.indexAt 45 (.slice A1 slices1.length c1) (.int .i64 z1)), .pointer (some (sAddr A1 z1))⟩, ⟨false, [], vS (Instr.loadAt 34 (.pointer (some (sAddr A1 z1)))), .slice (hdA hd1 z1) ((geti2 slices1 z1).length) (hdC hd1 z1)⟩] [some (.pointer (some (sAddr A1 z1))), some (.slice (hdA hd1 z1) ((geti2 slices1 z1).length) (hdC hd1 z1)), none] [0, 3, 5, 9, 10, 11] [pl 0 (.slice A1 slices1.length c1), pl 3 (.int .i64 size1), pl 5 (.slice (hdA hd1 z1) ((geti2 slices1 z1).length) (hdC hd1 z1)), pl 9 (.slice A1 slices1.length c1), pl 10 (.int .i64 (slices1.length : Int)), pl 11 (.int .i64 z1)] hF hS Fol (by kernel_rfl) (by kernel_rfl) (by kernel_rfl) ?_ (fun a w hF hS => ?_)
        · exact obs_cons (ob_ixRn Und45 hi34 hs34 (hr_slices1 _ (hS.dropN 0)) rfl (fun _ => hp1)) <| obs_cons (ob_getR Agg34 (fun _ hS => ⟨_, (hr_slices1 _ (hS.dropN 0))⟩) (fun _ => hp1)) <| obs_nil
        refine reg [] [] [0, 3, 9, 10, 11] [pl 0 (.slice A1 slices1.length c1), pl 3 (.int .i64 (w64 (size1 + (((geti2 slices1 z1).length : Nat) : Int)))), pl 9 (.slice A1 slices1.length c1), pl 10 (.int .i64 (slices1.length : Int)), pl 11 (.int .i64 z1)] hF hS Fol (by kernel_rfl) (by kernel_rfl) (by kernel_rfl) ?_ (fun a w hF hS => ?_)
        · exact obs_nil
        refine reg [] [] [0, 3, 9, 10, 11, 20] [pl 0 (.slice A1 slices1.length c1), pl 3 (.int .i64 (w64 (size1 + (((geti2 slices1 z1).length : Nat) : Int)))), pl 9 (.slice A1 slices1.length c1), pl 10 (.int .i64 (slices1.length : Int)), pl 11 (.int .i64 z1), pl 20 (.bool (decide ((w64 (size1 + (((geti2 slices1 z1).length : Nat) : Int))) < 0)))] hF hS Fol (by kernel_rfl) (by kernel_rfl) (by kernel_rfl) ?_ (fun a w hF hS => ?_)
        · exact obs_nil
        refine cond_ev (t := 20) (b := decide ((w64 (size1 + (((geti2 slices1 z1).length : Nat) : Int))) < 0)) hF (by kernel_rfl) (fun hb => ?_) (fun hb => ?_)
        · replace hm := if_t hm hb
          simp at hm
        · replace hm := if_f hm hb
          refine wpIn_skip ?_
          refine block_n ?_
          refine then_n ?_
          exact ⟨hF.weak [0, 3, 9, 10, 11] (by kernel_rfl), hS, hm⟩
    · refine cond_ev (t := 12) (b := decide (z1 < (slices1.length : Int))) hF (by kernel_rfl) (fun hb => ?_) (fun hb => ?_)
      · replace hm := if_t hm hb
        refine wpIn_skip ?_
        refine then_n ?_
        exact ⟨hF.weak [0, 3, 9, 10, 11] (by kernel_rfl), hS, hm⟩
      · replace hm := if_f hm hb
        refine wpIn_exit ?_
        refine then_e (then_e (block_e (then_n ?_)))
        rw [← hφ1] at hm
        replace hm := done_b hm
        unfold slices_Concat_K1 at hm
        try dsimp only at hm
        have hm : ((slices_Concat_J1 slices1) size1).bind some = some r := hm
        exact ⟨size1, hF.weak [0, 3] (by kernel_rfl), hS, hm⟩

noncomputable def bridge_strange_m  (c1 : Int) : Option Bool :=
  some ((decide (c1 < 0)) || (decide ((52 : Int) ≤ c1)))

set_option maxRecDepth 100000 in
set_option maxHeartbeats 4000000 in
theorem bridge_strange_w {c1 : Int} {r : Bool} {w0 w : World} {B : Nat} {fs : List HP} (hm : bridge_strange_m c1 = some r) (hS : Sep w0 B w (fs)) :
    Calls Try.prog 153 #[.int .i64 c1] w fun e w' => e = .returned (.bool r) ∧ Sep w0 B w' (fs) := by
  unfold bridge_strange_m at hm
  replace hm := start_b hm
  refine enter (l := [.int .i64 c1]) (n := 9) Try.func153 rfl rfl (by simp) (fun a hF => ?_)
  refine reg [] [] [0] [pl 0 (.int .i64 c1)] hF hS Fol (by kernel_rfl) (by kernel_rfl) (by kernel_rfl) ?_ (fun a w hF hS => ?_)
  · exact obs_nil
  refine reg [] [] [2] [pl 2 (.bool ((decide (c1 < 0)) || (decide ((52 : Int) ≤ c1))))] hF hS Fol (by kernel_rfl) (by kernel_rfl) (by kernel_rfl) ?_ (fun a w hF hS => ?_)
  · exact obs_nil
  refine wpIn_ret ?_
  have hm : some ((decide (c1 < 0)) || (decide ((52 : Int) ≤ c1))) = some r := hm
  obtain rfl := Option.some.inj hm
  exact retV (rs := [.tmp 2]) (vs := [.bool ((decide (c1 < 0)) || (decide ((52 : Int) ≤ c1)))]) hF rfl (rv_t (by kernel_rfl) <| rv_nil) rfl ⟨rfl, hS⟩

noncomputable def slices_IndexFunc_J3  (z1 : Int) : Option (St Int (Fl Unit Int)) :=
  some (.next (w64 (z1 + 1)))

noncomputable def slices_IndexFunc_J2  (s1 : List Int) (z1 : Int) : Option (St Int (Fl Unit Int)) :=
  asrt (0 ≤ z1 ∧ z1 < (s1.length : Int)) <| (bridge_strange_m (geti s1 z1)).bind fun r1 => if r1 then (some (.done (.ret z1))) else ((slices_IndexFunc_J3 z1))

noncomputable def slices_IndexFunc_J1  : Option Int :=
  some (-1)

noncomputable def slices_IndexFunc_K1  : (Fl Unit Int) → Option Int :=
  fun (x : (Fl Unit Int)) => match x with | .go _ => slices_IndexFunc_J1 | .ret x => some x

noncomputable def slices_IndexFunc_L1  (s1 : List Int) : Int → Option (St Int (Fl Unit Int)) :=
  fun (x : Int) => match x with | z1 => if (decide (z1 < (s1.length : Int))) then ((slices_IndexFunc_J2 s1 z1)) else (some (.done (.go ())))

noncomputable def slices_IndexFunc_m  (s1 : List Int) : Option Int :=
  (loop (slices_IndexFunc_L1 s1) 0).bind slices_IndexFunc_K1

set_option maxRecDepth 100000 in
set_option maxHeartbeats 4000000 in
theorem slices_IndexFunc_w {A1 : Option Addr} {c1 : Nat} {n1 : Nat} {s1 : List Int} {r : Int} {w0 w : World} {B : Nat} {fs : List HP} (hm : slices_IndexFunc_m s1 = some r) (hS : Sep w0 B w (fs)) (hr_s1 : RdF w0 B fs A1 (vI s1)) (_hc_s1 : s1.length ≤ c1) (_hn_s1 : n1 = s1.length) :
    Calls Try.prog 140 #[.slice A1 n1 c1, .func (.func 153) #[] #[]] w fun e w' => e = .returned (.int .i64 r) ∧ Sep w0 B w' (fs) := by
  obtain ⟨i3, hi3, hz3, hs3, hb3⟩ := info_parts Info3
  obtain rfl := _hn_s1
  unfold slices_IndexFunc_m at hm
  replace hm := start_b hm
  refine enter (l := [.slice A1 s1.length c1, .func (.func 153) #[] #[]]) (n := 19) Try.func140 rfl rfl (by simp) (fun a hF => ?_)
  refine reg [] [] [0, 1] [pl 0 (.slice A1 s1.length c1), pl 1 (.func (.func 153) #[] #[])] hF hS Fol (by kernel_rfl) (by kernel_rfl) (by kernel_rfl) ?_ (fun a w hF hS => ?_)
  · exact obs_nil
  refine seq_cut (fun a w => Fr 19 [] a ∧ Sep w0 B w (fs) ∧ (slices_IndexFunc_J1).bind some = some r) ?_ ?_
  · rintro a w ⟨hF, hS, hm⟩
    unfold slices_IndexFunc_J1 at hm
    refine reg [] [] [4] [pl 4 (.int .i64 (-1))] hF hS Fol (by kernel_rfl) (by kernel_rfl) (by kernel_rfl) ?_ (fun a w hF hS => ?_)
    · exact obs_nil
    refine wpIn_ret ?_
    have hm : some (-1) = some r := hm
    obtain rfl := Option.some.inj hm
    exact retV (rs := [.tmp 4]) (vs := [.int .i64 (-1)]) hF rfl (rv_t (by kernel_rfl) <| rv_nil) rfl ⟨rfl, hS⟩
  · refine reg [] [] [0, 1, 7, 8] [pl 0 (.slice A1 s1.length c1), pl 1 (.func (.func 153) #[] #[]), pl 7 (.int .i64 (s1.length : Int)), pl 8 (.int .i64 0)] hF hS Fol (by kernel_rfl) (by kernel_rfl) (by kernel_rfl) ?_ (fun a w hF hS => ?_)
    · exact obs_nil
    refine wpIn_block ?_
    refine wp_loop_model (S := Int) (R := (Fl Unit Int)) (slices_IndexFunc_L1 s1) (fun x => (slices_IndexFunc_K1 x).bind some) r (fun (x : Int) a w => Fr 19 [pl 0 (.slice A1 s1.length c1), pl 1 (.func (.func 153) #[] #[]), pl 7 (.int .i64 (s1.length : Int)), pl 8 (.int .i64 x)] a ∧ Sep w0 B w (fs)) (assoc_b hm) ⟨hF.weak [0, 1, 7, 8] (by kernel_rfl), hS⟩ ?_
    clear hF hS hm
    rintro nn1 z1 a w ⟨hF, hS⟩ hm
    generalize hφ1 : stK (slices_IndexFunc_L1 s1) nn1 (fun x => (slices_IndexFunc_K1 x).bind some) = φ1 at hm
    unfold slices_IndexFunc_L1 at hm
    dsimp only at hm
    refine reg [] [] [0, 1, 7, 8, 9] [pl 0 (.slice A1 s1.length c1), pl 1 (.func (.func 153) #[] #[]), pl 7 (.int .i64 (s1.length : Int)), pl 8 (.int .i64 z1), pl 9 (.bool (decide (z1 < (s1.length : Int))))] hF hS Fol (by kernel_rfl) (by kernel_rfl) (by kernel_rfl) ?_ (fun a w hF hS => ?_)
    · exact obs_nil
    refine seq_cut (fun a w => Fr 19 [pl 0 (.slice A1 s1.length c1), pl 1 (.func (.func 153) #[] #[]), pl 7 (.int .i64 (s1.length : Int)), pl 8 (.int .i64 z1)] a ∧ Sep w0 B w (fs) ∧ ((slices_IndexFunc_J2 s1 z1)).bind φ1 = some r) ?_ ?_
    · rintro a w ⟨hF, hS, hm⟩
      unfold slices_IndexFunc_J2 at hm
      refine seq_cut (fun a w => Fr 19 [pl 0 (.slice A1 s1.length c1), pl 1 (.func (.func 153) #[] #[]), pl 7 (.int .i64 (s1.length : Int)), pl 8 (.int .i64 z1)] a ∧ Sep w0 B w (fs) ∧ ((slices_IndexFunc_J3 z1)).bind φ1 = some r) ?_ ?_
      · rintro a w ⟨hF, hS, hm⟩
        unfold slices_IndexFunc_J3 at hm
        refine reg1 [] [] [0, 1, 7, 8] [pl 0 (.slice A1 s1.length c1), pl 1 (.func (.func 153) #[] #[]), pl 7 (.int .i64 (s1.length : Int)), pl 8 (.int .i64 (w64 (z1 + 1)))] hF hS Fol (by kernel_rfl) (by kernel_rfl) (by kernel_rfl) ?_ (fun a w hF hS => ?_)
        · exact obs_nil
        refine then_n ?_
        rw [← hφ1] at hm
        exact ⟨(w64 (z1 + 1)), ⟨hF.weak [0, 1, 7, 8] (by kernel_rfl), hS⟩, hm⟩
      · refine wpIn_block ?_
        refine reg [] [] [0, 1, 5, 7, 8] [pl 0 (.slice A1 s1.length c1), pl 1 (.func (.func 153) #[] #[]), pl 5 (.int .i64 z1), pl 7 (.int .i64 (s1.length : Int)), pl 8 (.int .i64 z1)] hF hS Fol (by kernel_rfl) (by kernel_rfl) (by kernel_rfl) ?_ (fun a w hF hS => ?_)
        · exact obs_nil
        obtain ⟨hp1, hm⟩ := asrt_b hm
        obtain ⟨r1, hr1, hm⟩ := call_b hm
        refine reg [⟨true, [], vS (Instr.indexAt 34 (.slice A1 s1.length c1) (.int .i64 z1)), .pointer (some (sAddr A1 z1))⟩, ⟨false, [], vS (Instr.loadAt 3 (.pointer (some (sAddr A1 z1)))), .int .i64 (geti s1 z1)⟩, ⟨false, [], callFunc 153 #[.int .i64 (geti s1 z1)], .bool r1⟩] [none, none, none, some (.pointer (some (sAddr A1 z1))), some (.int .i64 (geti s1 z1)), some (.bool r1)] [0, 1, 5, 7, 8, 16] [pl 0 (.slice A1 s1.length c1), pl 1 (.func (.func 153) #[] #[]), pl 5 (.int .i64 z1), pl 7 (.int .i64 (s1.length : Int)), pl 8 (.int .i64 z1), pl 16 (.bool r1)] hF hS Fol (by kernel_rfl) (by kernel_rfl) (by kernel_rfl) ?_ (fun a w hF hS => ?_)
        · exact obs_cons (ob_ix1 (f := (Value.int .i64)) (m := s1) Und34 hi3 hs3 (hr_s1 _ (hS.dropN 0)) rfl (fun _ => hp1)) <| obs_cons (ob_get1 (n := s1.length) (m := s1) (Value.int .i64) (0 : Int) Agg3 (fun _ hS => ⟨_, (hr_s1 _ (hS.dropN 0))⟩) (fun _ hS => rfl) (fun _ => hp1)) <| obs_cons (ob_call Try.func153 (by kernel_rfl) rfl (fun _ _ hS => bridge_strange_w hr1 hS )) <| obs_nil
        refine cond_ev (t := 16) (b := r1) hF (by kernel_rfl) (fun hb => ?_) (fun hb => ?_)
        · replace hm := if_t hm hb
          refine reg [] [] [4] [pl 4 (.int .i64 z1)] hF hS Fol (by kernel_rfl) (by kernel_rfl) (by kernel_rfl) ?_ (fun a w hF hS => ?_)
          · exact obs_nil
          refine wpIn_ret ?_
          refine block_r (then_r (then_r (block_r (then_r ?_))))
          rw [← hφ1] at hm
          replace hm := done_b hm
          unfold slices_IndexFunc_K1 at hm
          try dsimp only at hm
          have hm : some z1 = some r := hm
          obtain rfl := Option.some.inj hm
          exact retV (rs := [.tmp 4]) (vs := [.int .i64 z1]) hF rfl (rv_t (by kernel_rfl) <| rv_nil) rfl ⟨rfl, hS⟩
        · replace hm := if_f hm hb
          refine wpIn_skip ?_
          refine block_n ?_
          refine then_n ?_
          exact ⟨hF.weak [0, 1, 7, 8] (by kernel_rfl), hS, hm⟩
    · refine cond_ev (t := 9) (b := decide (z1 < (s1.length : Int))) hF (by kernel_rfl) (fun hb => ?_) (fun hb => ?_)
      · replace hm := if_t hm hb
        refine wpIn_skip ?_
        refine then_n ?_
        exact ⟨hF.weak [0, 1, 7, 8] (by kernel_rfl), hS, hm⟩
      · replace hm := if_f hm hb
        refine wpIn_exit ?_
        refine then_e (then_e (block_e (then_n ?_)))
        rw [← hφ1] at hm
        replace hm := done_b hm
        unfold slices_IndexFunc_K1 at hm
        try dsimp only at hm
        have hm : (slices_IndexFunc_J1).bind some = some r := hm
        exact ⟨hF.weak [] (by kernel_rfl), hS, hm⟩

noncomputable def slices_ContainsFunc_m  (s1 : List Int) : Option Bool :=
  (slices_IndexFunc_m s1).bind fun r1 => some (decide ((0 : Int) ≤ r1))

set_option maxRecDepth 100000 in
set_option maxHeartbeats 4000000 in
theorem slices_ContainsFunc_w {A1 : Option Addr} {c1 : Nat} {n1 : Nat} {s1 : List Int} {r : Bool} {w0 w : World} {B : Nat} {fs : List HP} (hm : slices_ContainsFunc_m s1 = some r) (hS : Sep w0 B w (fs)) (hr_s1 : RdF w0 B fs A1 (vI s1)) (_hc_s1 : s1.length ≤ c1) (_hn_s1 : n1 = s1.length) :
    Calls Try.prog 87 #[.slice A1 n1 c1, .func (.func 153) #[] #[]] w fun e w' => e = .returned (.bool r) ∧ Sep w0 B w' (fs) := by
  obtain ⟨i3, hi3, hz3, hs3, hb3⟩ := info_parts Info3
  obtain rfl := _hn_s1
  unfold slices_ContainsFunc_m at hm
  replace hm := start_b hm
  refine enter (l := [.slice A1 s1.length c1, .func (.func 153) #[] #[]]) (n := 9) Try.func87 rfl rfl (by simp) (fun a hF => ?_)
  refine reg [] [] [0, 1] [pl 0 (.slice A1 s1.length c1), pl 1 (.func (.func 153) #[] #[])] hF hS Fol (by kernel_rfl) (by kernel_rfl) (by kernel_rfl) ?_ (fun a w hF hS => ?_)
  · exact obs_nil
  obtain ⟨r1, hr1, hm⟩ := call_b hm
  refine reg [⟨false, [], callFunc 140 #[.slice A1 s1.length c1, .func (.func 153) #[] #[]], .int .i64 r1⟩] [none, none, some (.int .i64 r1), none, none] [4] [pl 4 (.bool (decide ((0 : Int) ≤ r1)))] hF hS Fol (by kernel_rfl) (by kernel_rfl) (by kernel_rfl) ?_ (fun a w hF hS => ?_)
  · exact obs_cons (ob_call Try.func140 (by kernel_rfl) rfl (fun _ _ hS => slices_IndexFunc_w hr1 hS (fun _ hS => (hr_s1 _ (hS.dropN 0))) _hc_s1 rfl)) <| obs_nil
  refine wpIn_ret ?_
  have hm : some (decide ((0 : Int) ≤ r1)) = some r := hm
  obtain rfl := Option.some.inj hm
  exact retV (rs := [.tmp 4]) (vs := [.bool (decide ((0 : Int) ≤ r1))]) hF rfl (rv_t (by kernel_rfl) <| rv_nil) rfl ⟨rfl, hS⟩

noncomputable def slices_Values_m  (s1 : List Int) : Option Unit :=
  some ()

set_option maxRecDepth 100000 in
set_option maxHeartbeats 4000000 in
theorem slices_Values_w {A1 : Option Addr} {c1 : Nat} {n1 : Nat} {s1 : List Int} {r : Unit} {w0 w : World} {B : Nat} {fs : List HP} (hm : slices_Values_m s1 = some r) (hS : Sep w0 B w (fs)) (hr_s1 : RdF w0 B fs A1 (vI s1)) (_hc_s1 : s1.length ≤ c1) (_hn_s1 : n1 = s1.length) :
    Calls Try.prog 155 #[.slice A1 n1 c1] w fun e w' => ∃ v, e = .returned v ∧ ∃ (g2 : Nat), v = .func (.func 196) #[] #[.pointer (some ⟨g2, 0, none⟩)] ∧ Sep w0 B w' (blk g2 34 #[.slice A1 n1 c1] :: fs) := by
  obtain ⟨i3, hi3, hz3, hs3, hb3⟩ := info_parts Info3
  obtain rfl := _hn_s1
  unfold slices_Values_m at hm
  replace hm := start_b hm
  refine enter (l := [.slice A1 s1.length c1]) (n := 4) Try.func155 rfl rfl (by simp) (fun a hF => ?_)
  refine seqR ?_
  refine at_do (d := 1) (s := vS (Instr.box 34 (.slice A1 s1.length c1))) (v := .pointer (some ⟨w.heap.size, 0, none⟩)) (w' := w.alloc (.cells #[.slice A1 s1.length c1] 34)) hF (by kernel_rfl) (by kernel_rfl) (by kernel_rfl) (fun a hF => ?_)
  have hS : Sep w0 B (w.alloc (.cells #[.slice A1 s1.length c1] 34)) (blk w.heap.size 34 #[.slice A1 s1.length c1] :: (fs)) := hS.box 34 #[.slice A1 s1.length c1]
  generalize w.heap.size = g1 at hF hS
  generalize w.alloc (.cells #[.slice A1 s1.length c1] 34) = w at hS ⊢
  refine at_run 1 [] [] [1] [pl 1 (.pointer (some ⟨g1, 0, none⟩))] hF hS (by kernel_rfl) (by kernel_rfl) ?_ (fun a w hF hS => ?_)
  · exact obs_nil
  refine at_end [1] [pl 1 (.pointer (some ⟨g1, 0, none⟩))] hF rfl (by kernel_rfl) (fun hF => ?_)
  refine then_n ?_
  refine reg [] [] [2] [pl 2 (.func (.func 196) #[] #[.pointer (some ⟨g1, 0, none⟩)])] hF hS Fol (by kernel_rfl) (by kernel_rfl) (by kernel_rfl) ?_ (fun a w hF hS => ?_)
  · exact obs_nil
  refine wpIn_ret ?_
  have hm : some () = some r := hm
  obtain rfl := Option.some.inj hm
  exact retV (rs := [.tmp 2]) (vs := [.func (.func 196) #[] #[.pointer (some ⟨g1, 0, none⟩)]]) hF rfl (rv_t (by kernel_rfl) <| rv_nil) rfl ⟨_, rfl, g1, rfl, hS⟩

noncomputable def slices_Sorted_m (v1 : List Int) : Option (List Int) :=
  asrt ((v1.length : Int) + 512 ≤ bigN) <| some (sortI v1)

theorem slices_Sorted_w {g1 : Nat} {A1 : Option Addr} {c1 : Nat} {n1 : Nat} {v1 : List Int} {r : (List Int)} {w0 w : World} {B : Nat} {fs : List HP} (hm : slices_Sorted_m v1 = some r) (hS : Sep w0 B w (blk g1 34 #[.slice A1 n1 c1] :: fs)) (hr_v1 : RdF w0 B fs A1 (vI v1)) (_hc_v1 : v1.length ≤ c1) (_hn_v1 : n1 = v1.length) :
    Calls Try.prog 154 #[.func (.func 196) #[] #[.pointer (some ⟨g1, 0, none⟩)]] w fun e w' => ∃ v, e = .returned v ∧ ∃ (A2 : Option Addr) (c2 : Nat), v = .slice A2 r.length c2 ∧ Sep w0 B w' (blk g1 34 #[.slice A1 n1 c1] :: own 3 (.slice A2 r.length c2) (vI r) :: fs) := by
  unfold slices_Sorted_m at hm
  obtain ⟨hb, hm⟩ := asrt_b (start_b hm)
  obtain rfl := Option.some.inj hm
  exact sorted_own hS hr_v1 _hn_v1 hb

noncomputable def slices_Compact_2_m (s1 : List Int) : Option (List Int) :=
  asrt ((s1.length : Int) ≤ bigN) <| some (compI s1)

theorem slices_Compact_2_w {A1 : Option Addr} {c1 : Nat} {n1 : Nat} {s1 : List Int} {r : (List Int)} {w0 w : World} {B : Nat} {fs : List HP} (hm : slices_Compact_2_m s1 = some r) (hS : Sep w0 B w (own 3 (.slice A1 n1 c1) (vI s1) :: fs)) :
    Calls Try.prog 156 #[.slice A1 n1 c1] w fun e w' => ∃ v, e = .returned v ∧ ∃ (A2 : Option Addr) (c2 : Nat), v = .slice A2 r.length c2 ∧ Sep w0 B w' (own 3 (.slice A2 r.length c2) (vI r) :: fs) := by
  unfold slices_Compact_2_m at hm
  obtain ⟨hb, hm⟩ := asrt_b (start_b hm)
  obtain rfl := Option.some.inj hm
  exact compact_own CompactL hS hb

noncomputable def bridge_check_J2  : Option Int :=
  some 0

noncomputable def bridge_check_J1  (l1 : List Int) : Option Int :=
  (slices_Values_m l1).bind fun r2 => (slices_Sorted_m l1).bind fun r3 => (slices_Compact_2_m r3).bind fun r4 => if (decide ((r4.length : Int) < (l1.length : Int))) then (some 6) else (bridge_check_J2)

noncomputable def bridge_check_m  (l1 : List Int) : Option Int :=
  (slices_ContainsFunc_m l1).bind fun r1 => if r1 then (some 3) else ((bridge_check_J1 l1))

set_option maxRecDepth 100000 in
set_option maxHeartbeats 4000000 in
theorem bridge_check_w {A1 : Option Addr} {c1 : Nat} {n1 : Nat} {l1 : List Int} {r : Int} {w0 w : World} {B : Nat} {fs : List HP} (hm : bridge_check_m l1 = some r) (hS : Sep w0 B w (fs)) (hr_l1 : RdF w0 B fs A1 (vI l1)) (_hc_l1 : l1.length ≤ c1) (_hn_l1 : n1 = l1.length) :
    Calls Try.prog 111 #[.slice A1 n1 c1] w fun e w' => e = .returned (.int .i64 r) ∧ Sep w0 B w' (fs) := by
  obtain ⟨i3, hi3, hz3, hs3, hb3⟩ := info_parts Info3
  obtain rfl := _hn_l1
  unfold bridge_check_m at hm
  replace hm := start_b hm
  refine enter (l := [.slice A1 l1.length c1]) (n := 15) Try.func111 rfl rfl (by simp) (fun a hF => ?_)
  refine reg [] [] [0] [pl 0 (.slice A1 l1.length c1)] hF hS Fol (by kernel_rfl) (by kernel_rfl) (by kernel_rfl) ?_ (fun a w hF hS => ?_)
  · exact obs_nil
  refine seq_cut (fun a w => Fr 15 [pl 0 (.slice A1 l1.length c1)] a ∧ Sep w0 B w (fs) ∧ ((bridge_check_J1 l1)).bind some = some r) ?_ ?_
  · rintro a w ⟨hF, hS, hm⟩
    unfold bridge_check_J1 at hm
    refine seqR ?_
    obtain ⟨r2, hr2, hm⟩ := call_b hm
    obtain ⟨r3, hr3, hm⟩ := call_b hm
    refine at_run 1 [] [] [0, 6] [pl 0 (.slice A1 l1.length c1), pl 6 (.slice A1 l1.length c1)] hF hS (by kernel_rfl) (by kernel_rfl) ?_ (fun a w hF hS => ?_)
    · exact obs_nil
    refine at_call (f := 155) (args := #[.slice A1 l1.length c1]) (d := 7) hF (by kernel_rfl) (by kernel_rfl) Try.func155 (by kernel_rfl) rfl (slices_Values_w hr2 hS (fun _ hS => (hr_l1 _ (hS.dropN 0))) _hc_l1 rfl) (fun v a w hR hF => ?_)
    clear hS
    obtain ⟨g1, rfl, hS⟩ := hR
    have hS : Sep w0 B w (blk g1 34 #[.slice A1 l1.length c1] :: fs) := hS
    refine at_call (f := 154) (args := #[.func (.func 196) #[] #[.pointer (some ⟨g1, 0, none⟩)]]) (d := 8) hF (by kernel_rfl) (by kernel_rfl) Try.func154 (by kernel_rfl) rfl (slices_Sorted_w hr3 hS (fun _ hS => (hr_l1 _ (hS.dropN 0))) _hc_l1 rfl) (fun v a w hR hF => ?_)
    clear hS
    obtain ⟨A2, c2, rfl, hS⟩ := hR
    have hS : Sep w0 B w (blk g1 34 #[.slice A1 l1.length c1] :: own 3 (.slice A2 r3.length c2) (vI r3) :: fs) := hS
    refine at_run 1 [] [] [0, 3] [pl 0 (.slice A1 l1.length c1), pl 3 (.slice A2 r3.length c2)] hF hS (by kernel_rfl) (by kernel_rfl) ?_ (fun a w hF hS => ?_)
    · exact obs_nil
    refine at_end [0, 3] [pl 0 (.slice A1 l1.length c1), pl 3 (.slice A2 r3.length c2)] hF rfl (by kernel_rfl) (fun hF => ?_)
    refine then_n ?_
    refine seq_cut (fun a w => Fr 15 [] a ∧ Sep w0 B w (fs) ∧ (bridge_check_J2).bind some = some r) ?_ ?_
    · rintro a w ⟨hF, hS, hm⟩
      unfold bridge_check_J2 at hm
      refine reg [] [] [2] [pl 2 (.int .i64 0)] hF hS Fol (by kernel_rfl) (by kernel_rfl) (by kernel_rfl) ?_ (fun a w hF hS => ?_)
      · exact obs_nil
      refine wpIn_ret ?_
      have hm : some 0 = some r := hm
      obtain rfl := Option.some.inj hm
      exact retV (rs := [.tmp 2]) (vs := [.int .i64 0]) hF rfl (rv_t (by kernel_rfl) <| rv_nil) rfl ⟨rfl, hS⟩
    · refine seqR ?_
      obtain ⟨r4, hr4, hm⟩ := call_b hm
      refine at_run 1 [] [] [0, 9] [pl 0 (.slice A1 l1.length c1), pl 9 (.slice A2 r3.length c2)] hF hS (by kernel_rfl) (by kernel_rfl) ?_ (fun a w hF hS => ?_)
      · exact obs_nil
      have hS : Sep w0 B w (own 3 (.slice A2 r3.length c2) (vI r3) :: blk g1 34 #[.slice A1 l1.length c1] :: fs) := hS.pickN 2 [1, 0] (by decide)
      refine at_call (f := 156) (args := #[.slice A2 r3.length c2]) (d := 10) hF (by kernel_rfl) (by kernel_rfl) Try.func156 (by kernel_rfl) rfl (slices_Compact_2_w hr4 hS ) (fun v a w hR hF => ?_)
      clear hS
      obtain ⟨A3, c3, rfl, hS⟩ := hR
      have hS : Sep w0 B w (own 3 (.slice A3 r4.length c3) (vI r4) :: blk g1 34 #[.slice A1 l1.length c1] :: fs) := hS
      refine at_run 4 [] [] [14] [pl 14 (.bool (decide ((r4.length : Int) < (l1.length : Int))))] hF hS (by kernel_rfl) (by kernel_rfl) ?_ (fun a w hF hS => ?_)
      · exact obs_nil
      refine at_end [14] [pl 14 (.bool (decide ((r4.length : Int) < (l1.length : Int))))] hF rfl (by kernel_rfl) (fun hF => ?_)
      refine then_n ?_
      refine cond_ev (t := 14) (b := decide ((r4.length : Int) < (l1.length : Int))) hF (by kernel_rfl) (fun hb => ?_) (fun hb => ?_)
      · replace hm := if_t hm hb
        refine reg [] [] [2] [pl 2 (.int .i64 6)] hF hS Fol (by kernel_rfl) (by kernel_rfl) (by kernel_rfl) ?_ (fun a w hF hS => ?_)
        · exact obs_nil
        refine wpIn_ret ?_
        refine then_r ?_
        have hS := hS.pickN 2 [] (by decide)
        have hm : some 6 = some r := hm
        obtain rfl := Option.some.inj hm
        exact retV (rs := [.tmp 2]) (vs := [.int .i64 6]) hF rfl (rv_t (by kernel_rfl) <| rv_nil) rfl ⟨rfl, hS⟩
      · replace hm := if_f hm hb
        refine wpIn_skip ?_
        refine then_n ?_
        have hS := hS.pickN 2 [] (by decide)
        exact ⟨hF.weak [] (by kernel_rfl), hS, hm⟩
  · obtain ⟨r1, hr1, hm⟩ := call_b hm
    refine reg [⟨false, [], callFunc 87 #[.slice A1 l1.length c1, .func (.func 153) #[] #[]], .bool r1⟩] [none, some (.bool r1)] [0, 5] [pl 0 (.slice A1 l1.length c1), pl 5 (.bool r1)] hF hS Fol (by kernel_rfl) (by kernel_rfl) (by kernel_rfl) ?_ (fun a w hF hS => ?_)
    · exact obs_cons (ob_call Try.func87 (by kernel_rfl) rfl (fun _ _ hS => slices_ContainsFunc_w hr1 hS (fun _ hS => (hr_l1 _ (hS.dropN 0))) _hc_l1 rfl)) <| obs_nil
    refine cond_ev (t := 5) (b := r1) hF (by kernel_rfl) (fun hb => ?_) (fun hb => ?_)
    · replace hm := if_t hm hb
      refine reg [] [] [2] [pl 2 (.int .i64 3)] hF hS Fol (by kernel_rfl) (by kernel_rfl) (by kernel_rfl) ?_ (fun a w hF hS => ?_)
      · exact obs_nil
      refine wpIn_ret ?_
      refine then_r ?_
      have hm : some 3 = some r := hm
      obtain rfl := Option.some.inj hm
      exact retV (rs := [.tmp 2]) (vs := [.int .i64 3]) hF rfl (rv_t (by kernel_rfl) <| rv_nil) rfl ⟨rfl, hS⟩
    · replace hm := if_f hm hb
      refine wpIn_skip ?_
      refine then_n ?_
      exact ⟨hF.weak [0] (by kernel_rfl), hS, hm⟩

noncomputable def bridge_table_state_J3  (z1 : Int) (s3 : Int) : Option (St (Int × Int) Int) :=
  some (.next (s3, (w64 (z1 + 1))))

noncomputable def bridge_table_state_J2  (d1 : List Int) (s1 : Int) (z1 : Int) : Option (St (Int × Int) Int) :=
  asrt (0 ≤ z1 ∧ z1 < 52) <| if (decide ((geti d1 z1) < 4)) then (asrt ((0 : Int) ≤ z1) <| (bridge_table_state_J3 z1) (orK .u64 s1 (shlK .u64 1 z1))) else ((bridge_table_state_J3 z1) s1)

noncomputable def bridge_table_state_J1  (leader1 : Int) (s2 : Int) : Option (Int × Int) :=
  some (s2, leader1)

noncomputable def bridge_table_state_K1  (leader1 : Int) : Int → Option (Int × Int) :=
  fun (x : Int) => match x with | s2 => (bridge_table_state_J1 leader1) s2

noncomputable def bridge_table_state_L1  (d1 : List Int) : (Int × Int) → Option (St (Int × Int) Int) :=
  fun (x : (Int × Int)) => match x with | (s1, z1) => if (decide (z1 < 52)) then ((bridge_table_state_J2 d1 s1 z1)) else (some (.done s1))

noncomputable def bridge_table_state_m  (t_strain1 : Int) (t_known1 : List ((Int × Int) × Int)) (d1 : List Int) (leader1 : Int) : Option (Int × Int) :=
  (loop (bridge_table_state_L1 d1) (0, 0)).bind (bridge_table_state_K1 leader1)

set_option maxRecDepth 100000 in
set_option maxHeartbeats 4000000 in
theorem bridge_table_state_w {g1 : Nat} {t_strain1 : Int} {g2 : Nat} {t_known1 : List ((Int × Int) × Int)} {g3 : Nat} {d1 : List Int} {leader1 : Int} {r : (Int × Int)} {w0 w : World} {B : Nat} {fs : List HP} (hm : bridge_table_state_m t_strain1 t_known1 d1 leader1 = some r) (hS : Sep w0 B w (blk g1 150 #[.int .i64 t_strain1, .map (some g2)] :: mapH kf198 (Value.int .i64) g2 t_known1 :: blk g3 147 (List.toArray (([] : List Value) ++ (arr1 (Value.int .i64) (0 : Int) 52 d1 ++ ([] : List Value)))) :: fs)) :
    Calls Try.prog 158 #[.pointer (some ⟨g1, 0, none⟩), .pointer (some ⟨g3, 0, none⟩), .int .i64 leader1] w fun e w' => e = .returned (.agg #[.int .u64 r.1, .int .i64 r.2]) ∧ Sep w0 B w' (blk g1 150 #[.int .i64 t_strain1, .map (some g2)] :: mapH kf198 (Value.int .i64) g2 t_known1 :: blk g3 147 (List.toArray (([] : List Value) ++ (arr1 (Value.int .i64) (0 : Int) 52 d1 ++ ([] : List Value)))) :: fs) := by
  obtain ⟨i3, hi3, hz3, hs3, hb3⟩ := info_parts Info3
  obtain ⟨i196, hi196, hz196, hs196, hb196⟩ := info_parts Info196
  unfold bridge_table_state_m at hm
  replace hm := start_b hm
  refine enter (l := [.pointer (some ⟨g1, 0, none⟩), .pointer (some ⟨g3, 0, none⟩), .int .i64 leader1]) (n := 29) Try.func158 rfl rfl (by simp) (fun a hF => ?_)
  refine seqR ?_
  refine at_do (d := 6) (s := vS (Instr.alloc 198 true (.tuple #[]))) (v := .pointer (some ⟨w.heap.size, 0, none⟩)) (w' := w.alloc (.cells #[.int .u64 0, .int .i64 0] 198)) hF (by kernel_rfl) (by kernel_rfl) (by kernel_rfl) (fun a hF => ?_)
  have hS : Sep w0 B (w.alloc (.cells #[.int .u64 0, .int .i64 0] 198)) (blk w.heap.size 198 #[.int .u64 0, .int .i64 0] :: (blk g1 150 #[.int .i64 t_strain1, .map (some g2)] :: mapH kf198 (Value.int .i64) g2 t_known1 :: blk g3 147 (List.toArray (([] : List Value) ++ (arr1 (Value.int .i64) (0 : Int) 52 d1 ++ ([] : List Value)))) :: fs)) := hS.box 198 #[.int .u64 0, .int .i64 0]
  generalize w.heap.size = g4 at hF hS
  generalize w.alloc (.cells #[.int .u64 0, .int .i64 0] 198) = w at hS ⊢
  refine at_end [1, 2, 6] [pl 1 (.pointer (some ⟨g3, 0, none⟩)), pl 2 (.int .i64 leader1), pl 6 (.pointer (some ⟨g4, 0, none⟩))] hF rfl (by kernel_rfl) (fun hF => ?_)
  refine then_n ?_
  refine seqR ?_
  refine at_run 2 [] [] [1, 6, 11] [pl 1 (.pointer (some ⟨g3, 0, none⟩)), pl 6 (.pointer (some ⟨g4, 0, none⟩)), pl 11 (.agg #[.int .u64 0, .int .i64 leader1])] hF hS (by kernel_rfl) (by kernel_rfl) ?_ (fun a w hF hS => ?_)
  · exact obs_nil
  refine at_do (d := 7) (s := vS (Instr.alloc 198 true (.tuple #[]))) (v := .pointer (some ⟨w.heap.size, 0, none⟩)) (w' := w.alloc (.cells #[.int .u64 0, .int .i64 0] 198)) hF (by kernel_rfl) (by kernel_rfl) (by kernel_rfl) (fun a hF => ?_)
  have hS : Sep w0 B (w.alloc (.cells #[.int .u64 0, .int .i64 0] 198)) (blk w.heap.size 198 #[.int .u64 0, .int .i64 0] :: (blk g4 198 #[.int .u64 0, .int .i64 0] :: blk g1 150 #[.int .i64 t_strain1, .map (some g2)] :: mapH kf198 (Value.int .i64) g2 t_known1 :: blk g3 147 (List.toArray (([] : List Value) ++ (arr1 (Value.int .i64) (0 : Int) 52 d1 ++ ([] : List Value)))) :: fs)) := hS.box 198 #[.int .u64 0, .int .i64 0]
  generalize w.heap.size = g5 at hF hS
  generalize w.alloc (.cells #[.int .u64 0, .int .i64 0] 198) = w at hS ⊢
  obtain ⟨w, hrun, hS⟩ := run_putA (P := Try.prog) (t := 198) (us := #[.int .u64 0, .int .i64 leader1]) (o := 0) (hS.at_ 0 rfl) (by kernel_rfl) (all_one (by kernel_rfl)) (Nat.le_of_ble_eq_true (by kernel_rfl))
  refine at_skip hF (by kernel_rfl) hrun ?_
  have hS : Sep w0 B w (blk g5 198 #[.int .u64 0, .int .i64 leader1] :: blk g4 198 #[.int .u64 0, .int .i64 0] :: blk g1 150 #[.int .i64 t_strain1, .map (some g2)] :: mapH kf198 (Value.int .i64) g2 t_known1 :: blk g3 147 (List.toArray (([] : List Value) ++ (arr1 (Value.int .i64) (0 : Int) 52 d1 ++ ([] : List Value)))) :: fs) := hS
  refine at_end [1, 6, 7] [pl 1 (.pointer (some ⟨g3, 0, none⟩)), pl 6 (.pointer (some ⟨g4, 0, none⟩)), pl 7 (.pointer (some ⟨g5, 0, none⟩))] hF rfl (by kernel_rfl) (fun hF => ?_)
  refine then_n ?_
  refine seq_cut (fun a w => ∃ (s2 : Int), Fr 29 [pl 6 (.pointer (some ⟨g4, 0, none⟩)), pl 7 (.pointer (some ⟨g5, 0, none⟩))] a ∧ Sep w0 B w (blk g4 198 #[.int .u64 0, .int .i64 0] :: blk g5 198 #[.int .u64 s2, .int .i64 leader1] :: blk g1 150 #[.int .i64 t_strain1, .map (some g2)] :: mapH kf198 (Value.int .i64) g2 t_known1 :: blk g3 147 (List.toArray (([] : List Value) ++ (arr1 (Value.int .i64) (0 : Int) 52 d1 ++ ([] : List Value)))) :: fs) ∧ ((bridge_table_state_J1 leader1) s2).bind some = some r) ?_ ?_
  · rintro a w ⟨s2, hF, hS, hm⟩
    unfold bridge_table_state_J1 at hm
    refine seqR ?_
    refine at_run 1 [⟨false, [], vS (Instr.loadAt 198 (.pointer (some ⟨g5, 0, none⟩))), .agg #[.int .u64 s2, .int .i64 leader1]⟩] [some (.agg #[.int .u64 s2, .int .i64 leader1])] [6, 28] [pl 6 (.pointer (some ⟨g4, 0, none⟩)), pl 28 (.agg #[.int .u64 s2, .int .i64 leader1])] hF hS (by kernel_rfl) (by kernel_rfl) ?_ (fun a w hF hS => ?_)
    · exact obs_cons (ob_loadA (cs := #[.int .u64 s2, .int .i64 leader1]) (by kernel_rfl) (by kernel_rfl) (fun _ _ hS => (hS.at_ 1 rfl).cellsAt 0 (by rfl))) <| obs_nil
    obtain ⟨w, hrun, hS⟩ := run_putA (P := Try.prog) (t := 198) (us := #[.int .u64 s2, .int .i64 leader1]) (o := 0) (hS.at_ 0 rfl) (by kernel_rfl) (all_one (by kernel_rfl)) (Nat.le_of_ble_eq_true (by kernel_rfl))
    refine at_skip hF (by kernel_rfl) hrun ?_
    have hS : Sep w0 B w (blk g4 198 #[.int .u64 s2, .int .i64 leader1] :: blk g5 198 #[.int .u64 s2, .int .i64 leader1] :: blk g1 150 #[.int .i64 t_strain1, .map (some g2)] :: mapH kf198 (Value.int .i64) g2 t_known1 :: blk g3 147 (List.toArray (([] : List Value) ++ (arr1 (Value.int .i64) (0 : Int) 52 d1 ++ ([] : List Value)))) :: fs) := hS
    refine at_end [6] [pl 6 (.pointer (some ⟨g4, 0, none⟩))] hF rfl (by kernel_rfl) (fun hF => ?_)
    refine then_n ?_
    refine wpIn_ret ?_
    have hld0 := run_loadVarA (P := Try.prog) (t := 198) (cs := #[.int .u64 s2, .int .i64 leader1]) (by kernel_rfl) (by kernel_rfl) ((hS.at_ 0 rfl).cellsAt 0 (by rfl))
    have hS := hS.pickN 5 [2, 3, 4] (by decide)
    have hm : some (s2, leader1) = some r := hm
    obtain rfl := Option.some.inj hm
    exact retV (rs := [.cell 6 198]) (vs := [.agg #[.int .u64 s2, .int .i64 leader1]]) hF rfl (rv_c (by kernel_rfl) hld0 <| rv_nil) rfl ⟨rfl, hS⟩
  · refine reg [] [] [6, 7, 12, 13] [pl 6 (.pointer (some ⟨g4, 0, none⟩)), pl 7 (.pointer (some ⟨g5, 0, none⟩)), pl 12 (.pointer (some ⟨g3, 0, none⟩)), pl 13 (.int .i64 0)] hF hS Fol (by kernel_rfl) (by kernel_rfl) (by kernel_rfl) ?_ (fun a w hF hS => ?_)
    · exact obs_nil
    refine wpIn_block ?_
    have hS := hS.pickN 5 [1, 0, 4, 2, 3] (by decide)
    refine wp_loop_model (S := (Int × Int)) (R := Int) (bridge_table_state_L1 d1) (fun x => ((bridge_table_state_K1 leader1) x).bind some) r (fun (x : (Int × Int)) a w => Fr 29 [pl 6 (.pointer (some ⟨g4, 0, none⟩)), pl 7 (.pointer (some ⟨g5, 0, none⟩)), pl 12 (.pointer (some ⟨g3, 0, none⟩)), pl 13 (.int .i64 x.2)] a ∧ Sep w0 B w (blk g4 198 #[.int .u64 0, .int .i64 0] :: blk g5 198 #[.int .u64 x.1, .int .i64 leader1] :: blk g3 147 (List.toArray (([] : List Value) ++ (arr1 (Value.int .i64) (0 : Int) 52 d1 ++ ([] : List Value)))) :: blk g1 150 #[.int .i64 t_strain1, .map (some g2)] :: mapH kf198 (Value.int .i64) g2 t_known1 :: fs)) (assoc_b hm) ⟨hF.weak [6, 7, 12, 13] (by kernel_rfl), hS⟩ ?_
    clear hF hS hm
    rintro nn1 ⟨s1, z1⟩ a w ⟨hF, hS⟩ hm
    generalize hφ1 : stK (bridge_table_state_L1 d1) nn1 (fun x => ((bridge_table_state_K1 leader1) x).bind some) = φ1 at hm
    unfold bridge_table_state_L1 at hm
    dsimp only at hF hS hm
    refine reg [] [] [6, 7, 12, 13, 14] [pl 6 (.pointer (some ⟨g4, 0, none⟩)), pl 7 (.pointer (some ⟨g5, 0, none⟩)), pl 12 (.pointer (some ⟨g3, 0, none⟩)), pl 13 (.int .i64 z1), pl 14 (.bool (decide (z1 < 52)))] hF hS Fol (by kernel_rfl) (by kernel_rfl) (by kernel_rfl) ?_ (fun a w hF hS => ?_)
    · exact obs_nil
    refine seq_cut (fun a w => Fr 29 [pl 6 (.pointer (some ⟨g4, 0, none⟩)), pl 7 (.pointer (some ⟨g5, 0, none⟩)), pl 12 (.pointer (some ⟨g3, 0, none⟩)), pl 13 (.int .i64 z1)] a ∧ Sep w0 B w (blk g4 198 #[.int .u64 0, .int .i64 0] :: blk g5 198 #[.int .u64 s1, .int .i64 leader1] :: blk g3 147 (List.toArray (([] : List Value) ++ (arr1 (Value.int .i64) (0 : Int) 52 d1 ++ ([] : List Value)))) :: blk g1 150 #[.int .i64 t_strain1, .map (some g2)] :: mapH kf198 (Value.int .i64) g2 t_known1 :: fs) ∧ ((bridge_table_state_J2 d1 s1 z1)).bind φ1 = some r) ?_ ?_
    · rintro a w ⟨hF, hS, hm⟩
      unfold bridge_table_state_J2 at hm
      refine seq_cut (fun a w => ∃ (s3 : Int), Fr 29 [pl 6 (.pointer (some ⟨g4, 0, none⟩)), pl 7 (.pointer (some ⟨g5, 0, none⟩)), pl 12 (.pointer (some ⟨g3, 0, none⟩)), pl 13 (.int .i64 z1)] a ∧ Sep w0 B w (blk g4 198 #[.int .u64 0, .int .i64 0] :: blk g5 198 #[.int .u64 s3, .int .i64 leader1] :: blk g3 147 (List.toArray (([] : List Value) ++ (arr1 (Value.int .i64) (0 : Int) 52 d1 ++ ([] : List Value)))) :: blk g1 150 #[.int .i64 t_strain1, .map (some g2)] :: mapH kf198 (Value.int .i64) g2 t_known1 :: fs) ∧ ((bridge_table_state_J3 z1) s3).bind φ1 = some r) ?_ ?_
      · rintro a w ⟨s3, hF, hS, hm⟩
        unfold bridge_table_state_J3 at hm
        refine reg1 [] [] [6, 7, 12, 13] [pl 6 (.pointer (some ⟨g4, 0, none⟩)), pl 7 (.pointer (some ⟨g5, 0, none⟩)), pl 12 (.pointer (some ⟨g3, 0, none⟩)), pl 13 (.int .i64 (w64 (z1 + 1)))] hF hS Fol (by kernel_rfl) (by kernel_rfl) (by kernel_rfl) ?_ (fun a w hF hS => ?_)
        · exact obs_nil
        refine then_n ?_
        rw [← hφ1] at hm
        exact ⟨(s3, (w64 (z1 + 1))), ⟨hF.weak [6, 7, 12, 13] (by kernel_rfl), hS⟩, hm⟩
      · refine wpIn_block ?_
        obtain ⟨hp1, hm⟩ := asrt_b hm
        refine reg [⟨true, [], vS (Instr.indexAt 147 (.pointer (some ⟨g3, 0, none⟩)) (.int .i64 z1)), .pointer (some ((⟨g3, 0, none⟩ : Addr).add (Int.toNat z1 * 1)))⟩, ⟨false, [], vS (Instr.loadAt 3 (.pointer (some ((⟨g3, 0, none⟩ : Addr).add (Int.toNat z1 * 1))))), .int .i64 (geti d1 z1)⟩] [none, none, some (.pointer (some ((⟨g3, 0, none⟩ : Addr).add (Int.toNat z1 * 1)))), some (.int .i64 (geti d1 z1)), none, none] [6, 7, 8, 9, 12, 13] [pl 6 (.pointer (some ⟨g4, 0, none⟩)), pl 7 (.pointer (some ⟨g5, 0, none⟩)), pl 8 (.int .i64 z1), pl 9 (.int .i64 (geti d1 z1)), pl 12 (.pointer (some ⟨g3, 0, none⟩)), pl 13 (.int .i64 z1)] hF hS Fol (by kernel_rfl) (by kernel_rfl) (by kernel_rfl) ?_ (fun a w hF hS => ?_)
        · exact obs_cons (ob_ixA UndA147 hi3 hs3 (fun _ => hp1)) <| obs_cons (ob_getA (m := d1) (Value.int .i64) (0 : Int) 52 ([] : List Value) ([] : List Value) z1 Agg3 rfl (fun _ hS => ⟨_, _, _, _, _, hS.at_ 2 rfl⟩) (fun hy => by have h0 := hp1; omega)) <| obs_nil
        refine reg [] [] [6, 7, 8, 12, 13, 20] [pl 6 (.pointer (some ⟨g4, 0, none⟩)), pl 7 (.pointer (some ⟨g5, 0, none⟩)), pl 8 (.int .i64 z1), pl 12 (.pointer (some ⟨g3, 0, none⟩)), pl 13 (.int .i64 z1), pl 20 (.bool (decide ((geti d1 z1) < 4)))] hF hS Fol (by kernel_rfl) (by kernel_rfl) (by kernel_rfl) ?_ (fun a w hF hS => ?_)
        · exact obs_nil
        refine cond_ev (t := 20) (b := decide ((geti d1 z1) < 4)) hF (by kernel_rfl) (fun hb => ?_) (fun hb => ?_)
        · replace hm := if_t hm hb
          obtain ⟨hp2, hm⟩ := asrt_b hm
          refine regMix4 [0, 1, 2, 3, 4, 5] [6] [⟨false, [], vS (Instr.loadAt 196 (.pointer (some ⟨g5, 0, none⟩))), .int .u64 s1⟩, ⟨true, [], vS (Op.shift .shl .u64 1 .i64 z1), .int .u64 (shlK .u64 1 z1)⟩] [none, some (.int .u64 s1), none, some (.int .u64 (shlK .u64 1 z1)), none, none] [6, 7, 12, 13, 25, 26] [pl 6 (.pointer (some ⟨g4, 0, none⟩)), pl 7 (.pointer (some ⟨g5, 0, none⟩)), pl 12 (.pointer (some ⟨g3, 0, none⟩)), pl 13 (.int .i64 z1), pl 25 (.int .u64 (orK .u64 s1 (shlK .u64 1 z1))), pl 26 (.pointer (some ⟨g5, 0, none⟩))] hF hS Fol (by kernel_rfl) (by kernel_rfl) (by kernel_rfl) (by kernel_rfl) (by kernel_rfl) ?_ (fun a w hF hS => ?_)
          · exact obs_cons (ob_load Agg196 (fun _ _ hS => (hS.at_ 1 rfl).cell rfl)) <| obs_cons (ob_shl (fun _ => hp2)) <| obs_nil
          obtain ⟨w, hrun, hS⟩ := run_put (P := Try.prog) (t := 196) (u := .int .u64 (orK .u64 s1 (shlK .u64 1 z1))) (i := 0) (hS.at_ 1 rfl) hi196 hs196 rfl (Nat.lt_of_lt_of_eq (Nat.lt_of_succ_le (Nat.le_of_ble_eq_true (by kernel_rfl))) rfl)
          refine at_skip hF (by kernel_rfl) hrun ?_
          have hS : Sep w0 B w (blk g4 198 #[.int .u64 0, .int .i64 0] :: blk g5 198 #[.int .u64 (orK .u64 s1 (shlK .u64 1 z1)), .int .i64 leader1] :: blk g3 147 (List.toArray (([] : List Value) ++ (arr1 (Value.int .i64) (0 : Int) 52 d1 ++ ([] : List Value)))) :: blk g1 150 #[.int .i64 t_strain1, .map (some g2)] :: mapH kf198 (Value.int .i64) g2 t_known1 :: fs) := hS
          refine at_end [6, 7, 12, 13] [pl 6 (.pointer (some ⟨g4, 0, none⟩)), pl 7 (.pointer (some ⟨g5, 0, none⟩)), pl 12 (.pointer (some ⟨g3, 0, none⟩)), pl 13 (.int .i64 z1)] hF rfl (by kernel_rfl) (fun hF => ?_)
          refine np_n ?_
          refine block_n ?_
          refine then_n ?_
          exact ⟨(orK .u64 s1 (shlK .u64 1 z1)), hF.weak [6, 7, 12, 13] (by kernel_rfl), hS, hm⟩
        · replace hm := if_f hm hb
          refine wpIn_skip ?_
          refine block_n ?_
          refine then_n ?_
          exact ⟨s1, hF.weak [6, 7, 12, 13] (by kernel_rfl), hS, hm⟩
    · refine cond_ev (t := 14) (b := decide (z1 < 52)) hF (by kernel_rfl) (fun hb => ?_) (fun hb => ?_)
      · replace hm := if_t hm hb
        refine wpIn_skip ?_
        refine then_n ?_
        exact ⟨hF.weak [6, 7, 12, 13] (by kernel_rfl), hS, hm⟩
      · replace hm := if_f hm hb
        refine wpIn_exit ?_
        refine then_e (then_e (block_e (then_n ?_)))
        have hS := hS.pickN 5 [0, 1, 3, 4, 2] (by decide)
        rw [← hφ1] at hm
        replace hm := done_b hm
        unfold bridge_table_state_K1 at hm
        try dsimp only at hm
        have hm : ((bridge_table_state_J1 leader1) s1).bind some = some r := hm
        exact ⟨s1, hF.weak [6, 7] (by kernel_rfl), hS, hm⟩

noncomputable def bridge_winner_1_J1  : Option Int :=
  some 0

noncomputable def bridge_winner_1_m  (c1 : Int) (p11 : Int) (p21 : List Int) : Option Int :=
  if ((Int.tmod c1 4) == p11) then (some (w64 (200 + c1))) else (asrt (0 ≤ (0 : Int) ∧ (0 : Int) < (p21.length : Int)) <| if ((Int.tmod c1 4) == (Int.tmod (geti p21 0) 4)) then (some (w64 (100 + c1))) else (bridge_winner_1_J1))

set_option maxRecDepth 100000 in
set_option maxHeartbeats 4000000 in
theorem bridge_winner_1_w {c1 : Int} {g1 : Nat} {p11 : Int} {g2 : Nat} {A1 : Option Addr} {c2 : Nat} {n1 : Nat} {p21 : List Int} {r : Int} {w0 w : World} {B : Nat} {fs : List HP} (hm : bridge_winner_1_m c1 p11 p21 = some r) (hS : Sep w0 B w (blk g1 3 #[.int .i64 p11] :: blk g2 34 #[.slice A1 n1 c2] :: fs)) (hr_p21 : RdF w0 B fs A1 (vI p21)) (_hc_p21 : p21.length ≤ c2) (_hn_p21 : n1 = p21.length) :
    Calls Try.prog 221 #[.int .i64 c1, .pointer (some ⟨g1, 0, none⟩), .pointer (some ⟨g2, 0, none⟩)] w fun e w' => e = .returned (.int .i64 r) ∧ Sep w0 B w' (blk g1 3 #[.int .i64 p11] :: blk g2 34 #[.slice A1 n1 c2] :: fs) := by
  obtain ⟨i3, hi3, hz3, hs3, hb3⟩ := info_parts Info3
  obtain rfl := _hn_p21
  unfold bridge_winner_1_m at hm
  replace hm := start_b hm
  refine enter (l := [.int .i64 c1, .pointer (some ⟨g1, 0, none⟩), .pointer (some ⟨g2, 0, none⟩)]) (n := 20) Try.func221 rfl rfl (by simp) (fun a hF => ?_)
  refine reg [] [] [0, 1, 2] [pl 0 (.int .i64 c1), pl 1 (.pointer (some ⟨g1, 0, none⟩)), pl 2 (.pointer (some ⟨g2, 0, none⟩))] hF hS Fol (by kernel_rfl) (by kernel_rfl) (by kernel_rfl) ?_ (fun a w hF hS => ?_)
  · exact obs_nil
  refine seq_cut (fun a w => Fr 20 [] a ∧ Sep w0 B w (blk g1 3 #[.int .i64 p11] :: blk g2 34 #[.slice A1 p21.length c2] :: fs) ∧ (bridge_winner_1_J1).bind some = some r) ?_ ?_
  · rintro a w ⟨hF, hS, hm⟩
    unfold bridge_winner_1_J1 at hm
    refine reg [] [] [4] [pl 4 (.int .i64 0)] hF hS Fol (by kernel_rfl) (by kernel_rfl) (by kernel_rfl) ?_ (fun a w hF hS => ?_)
    · exact obs_nil
    refine wpIn_ret ?_
    have hm : some 0 = some r := hm
    obtain rfl := Option.some.inj hm
    exact retV (rs := [.tmp 4]) (vs := [.int .i64 0]) hF rfl (rv_t (by kernel_rfl) <| rv_nil) rfl ⟨rfl, hS⟩
  · refine reg [] [] [0, 1, 2, 6] [pl 0 (.int .i64 c1), pl 1 (.pointer (some ⟨g1, 0, none⟩)), pl 2 (.pointer (some ⟨g2, 0, none⟩)), pl 6 (.int .i64 (Int.tmod c1 4))] hF hS Fol (by kernel_rfl) (by kernel_rfl) (by kernel_rfl) ?_ (fun a w hF hS => ?_)
    · exact obs_nil
    refine wpIn_block ?_
    refine reg [⟨false, [], vS (Instr.loadAt 3 (.pointer (some ⟨g1, 0, none⟩))), .int .i64 p11⟩] [some (.int .i64 p11), none, none] [0, 2, 6, 7] [pl 0 (.int .i64 c1), pl 2 (.pointer (some ⟨g2, 0, none⟩)), pl 6 (.int .i64 (Int.tmod c1 4)), pl 7 (.bool ((Int.tmod c1 4) == p11))] hF hS Fol (by kernel_rfl) (by kernel_rfl) (by kernel_rfl) ?_ (fun a w hF hS => ?_)
    · exact obs_cons (ob_load Agg3 (fun _ _ hS => (hS.at_ 0 rfl).cell rfl)) <| obs_nil
    refine cond_ev (t := 7) (b := ((Int.tmod c1 4) == p11)) hF (by kernel_rfl) (fun hb => ?_) (fun hb => ?_)
    · replace hm := if_t hm hb
      refine reg [] [] [4] [pl 4 (.int .i64 (w64 (200 + c1)))] hF hS Fol (by kernel_rfl) (by kernel_rfl) (by kernel_rfl) ?_ (fun a w hF hS => ?_)
      · exact obs_nil
      refine wpIn_ret ?_
      refine block_r (then_r ?_)
      have hm : some (w64 (200 + c1)) = some r := hm
      obtain rfl := Option.some.inj hm
      exact retV (rs := [.tmp 4]) (vs := [.int .i64 (w64 (200 + c1))]) hF rfl (rv_t (by kernel_rfl) <| rv_nil) rfl ⟨rfl, hS⟩
    · replace hm := if_f hm hb
      obtain ⟨hp1, hm⟩ := asrt_b hm
      refine reg [⟨false, [], vS (Instr.loadAt 34 (.pointer (some ⟨g2, 0, none⟩))), .slice A1 p21.length c2⟩, ⟨true, [], vS (Instr.indexAt 34 (.slice A1 p21.length c2) (.int .i64 0)), .pointer (some (sAddr A1 0))⟩, ⟨false, [], vS (Instr.loadAt 3 (.pointer (some (sAddr A1 0)))), .int .i64 (geti p21 0)⟩] [some (.slice A1 p21.length c2), some (.pointer (some (sAddr A1 0))), some (.int .i64 (geti p21 0)), none, none, none] [0, 12] [pl 0 (.int .i64 c1), pl 12 (.bool ((Int.tmod c1 4) == (Int.tmod (geti p21 0) 4)))] hF hS Fol (by kernel_rfl) (by kernel_rfl) (by kernel_rfl) ?_ (fun a w hF hS => ?_)
      · exact obs_cons (ob_load Agg34 (fun _ _ hS => (hS.at_ 1 rfl).cell rfl)) <| obs_cons (ob_ix1 (f := (Value.int .i64)) (m := p21) Und34 hi3 hs3 (hr_p21 _ (hS.dropN 2)) rfl (fun _ => hp1)) <| obs_cons (ob_get1 (n := p21.length) (m := p21) (Value.int .i64) (0 : Int) Agg3 (fun _ hS => ⟨_, (hr_p21 _ (hS.dropN 2))⟩) (fun _ hS => rfl) (fun _ => hp1)) <| obs_nil
      refine cond_ev (t := 12) (b := ((Int.tmod c1 4) == (Int.tmod (geti p21 0) 4))) hF (by kernel_rfl) (fun hb => ?_) (fun hb => ?_)
      · replace hm := if_t hm hb
        refine reg [] [] [4] [pl 4 (.int .i64 (w64 (100 + c1)))] hF hS Fol (by kernel_rfl) (by kernel_rfl) (by kernel_rfl) ?_ (fun a w hF hS => ?_)
        · exact obs_nil
        refine wpIn_ret ?_
        refine block_r (then_r ?_)
        have hm : some (w64 (100 + c1)) = some r := hm
        obtain rfl := Option.some.inj hm
        exact retV (rs := [.tmp 4]) (vs := [.int .i64 (w64 (100 + c1))]) hF rfl (rv_t (by kernel_rfl) <| rv_nil) rfl ⟨rfl, hS⟩
      · replace hm := if_f hm hb
        refine wpIn_skip ?_
        refine block_n ?_
        refine then_n ?_
        exact ⟨hF.weak [] (by kernel_rfl), hS, hm⟩

noncomputable def bridge_winner_J3  (z1 : Int) (best3 : Int) : Option (St (Int × Int) Int) :=
  some (.next (best3, (w64 (z1 + 1))))

noncomputable def bridge_winner_J4  (best1 : Int) (z1 : Int) (z2 : Bool) : Option (St (Int × Int) Int) :=
  if z2 then ((bridge_winner_J3 z1) z1) else ((bridge_winner_J3 z1) best1)

noncomputable def bridge_winner_J2  (l1 : List Int) (strain1 : Int) (best1 : Int) (z1 : Int) : Option (St (Int × Int) Int) :=
  asrt (0 ≤ z1 ∧ z1 < (l1.length : Int)) <| asrt (0 ≤ best1 ∧ best1 < (l1.length : Int)) <| (bridge_winner_1_m (geti l1 z1) strain1 l1).bind fun r1 => (bridge_winner_1_m (geti l1 best1) strain1 l1).bind fun r2 => (bridge_winner_J4 best1 z1) (decide (r2 < r1))

noncomputable def bridge_winner_J1  (best2 : Int) : Option Int :=
  some best2

noncomputable def bridge_winner_K1  : Int → Option Int :=
  fun (x : Int) => match x with | best2 => bridge_winner_J1 best2

noncomputable def bridge_winner_L1  (l1 : List Int) (strain1 : Int) : (Int × Int) → Option (St (Int × Int) Int) :=
  fun (x : (Int × Int)) => match x with | (best1, z1) => if (decide (z1 < (l1.length : Int))) then ((bridge_winner_J2 l1 strain1 best1 z1)) else (some (.done best1))

noncomputable def bridge_winner_m  (l1 : List Int) (strain1 : Int) : Option Int :=
  (loop (bridge_winner_L1 l1 strain1) (0, 0)).bind bridge_winner_K1

set_option maxRecDepth 100000 in
set_option maxHeartbeats 4000000 in
theorem bridge_winner_w {A1 : Option Addr} {c1 : Nat} {n1 : Nat} {l1 : List Int} {strain1 : Int} {r : Int} {w0 w : World} {B : Nat} {fs : List HP} (hm : bridge_winner_m l1 strain1 = some r) (hS : Sep w0 B w (fs)) (hr_l1 : RdF w0 B fs A1 (vI l1)) (_hc_l1 : l1.length ≤ c1) (_hn_l1 : n1 = l1.length) :
    Calls Try.prog 197 #[.slice A1 n1 c1, .int .i64 strain1] w fun e w' => e = .returned (.int .i64 r) ∧ Sep w0 B w' (fs) := by
  obtain ⟨i3, hi3, hz3, hs3, hb3⟩ := info_parts Info3
  obtain rfl := _hn_l1
  unfold bridge_winner_m at hm
  replace hm := start_b hm
  refine enter (l := [.slice A1 l1.length c1, .int .i64 strain1]) (n := 30) Try.func197 rfl rfl (by simp) (fun a hF => ?_)
  refine seqR ?_
  refine at_do (d := 2) (s := vS (Instr.box 34 (.slice A1 l1.length c1))) (v := .pointer (some ⟨w.heap.size, 0, none⟩)) (w' := w.alloc (.cells #[.slice A1 l1.length c1] 34)) hF (by kernel_rfl) (by kernel_rfl) (by kernel_rfl) (fun a hF => ?_)
  have hS : Sep w0 B (w.alloc (.cells #[.slice A1 l1.length c1] 34)) (blk w.heap.size 34 #[.slice A1 l1.length c1] :: (fs)) := hS.box 34 #[.slice A1 l1.length c1]
  generalize w.heap.size = g1 at hF hS
  generalize w.alloc (.cells #[.slice A1 l1.length c1] 34) = w at hS ⊢
  refine at_do (d := 3) (s := vS (Instr.box 3 (.int .i64 strain1))) (v := .pointer (some ⟨w.heap.size, 0, none⟩)) (w' := w.alloc (.cells #[.int .i64 strain1] 3)) hF (by kernel_rfl) (by kernel_rfl) (by kernel_rfl) (fun a hF => ?_)
  have hS : Sep w0 B (w.alloc (.cells #[.int .i64 strain1] 3)) (blk w.heap.size 3 #[.int .i64 strain1] :: (blk g1 34 #[.slice A1 l1.length c1] :: fs)) := hS.box 3 #[.int .i64 strain1]
  generalize w.heap.size = g2 at hF hS
  generalize w.alloc (.cells #[.int .i64 strain1] 3) = w at hS ⊢
  refine at_run 1 [] [] [2, 3] [pl 2 (.pointer (some ⟨g1, 0, none⟩)), pl 3 (.pointer (some ⟨g2, 0, none⟩))] hF hS (by kernel_rfl) (by kernel_rfl) ?_ (fun a w hF hS => ?_)
  · exact obs_nil
  refine at_end [2, 3] [pl 2 (.pointer (some ⟨g1, 0, none⟩)), pl 3 (.pointer (some ⟨g2, 0, none⟩))] hF rfl (by kernel_rfl) (fun hF => ?_)
  refine then_n ?_
  refine reg [] [] [2, 3, 5] [pl 2 (.pointer (some ⟨g1, 0, none⟩)), pl 3 (.pointer (some ⟨g2, 0, none⟩)), pl 5 (.int .i64 0)] hF hS Fol (by kernel_rfl) (by kernel_rfl) (by kernel_rfl) ?_ (fun a w hF hS => ?_)
  · exact obs_nil
  refine reg [] [] [2, 5, 6] [pl 2 (.pointer (some ⟨g1, 0, none⟩)), pl 5 (.int .i64 0), pl 6 (.func (.func 221) #[] #[.pointer (some ⟨g2, 0, none⟩), .pointer (some ⟨g1, 0, none⟩)])] hF hS Fol (by kernel_rfl) (by kernel_rfl) (by kernel_rfl) ?_ (fun a w hF hS => ?_)
  · exact obs_nil
  refine seq_cut (fun a w => ∃ (best2 : Int), Fr 30 [pl 5 (.int .i64 best2)] a ∧ Sep w0 B w (fs) ∧ (bridge_winner_J1 best2).bind some = some r) ?_ ?_
  · rintro a w ⟨best2, hF, hS, hm⟩
    unfold bridge_winner_J1 at hm
    refine reg [] [] [4] [pl 4 (.int .i64 best2)] hF hS Fol (by kernel_rfl) (by kernel_rfl) (by kernel_rfl) ?_ (fun a w hF hS => ?_)
    · exact obs_nil
    refine wpIn_ret ?_
    have hm : some best2 = some r := hm
    obtain rfl := Option.some.inj hm
    exact retV (rs := [.tmp 4]) (vs := [.int .i64 best2]) hF rfl (rv_t (by kernel_rfl) <| rv_nil) rfl ⟨rfl, hS⟩
  · refine reg [⟨false, [], vS (Instr.loadAt 34 (.pointer (some ⟨g1, 0, none⟩))), .slice A1 l1.length c1⟩] [some (.slice A1 l1.length c1), none, none] [2, 5, 6, 10, 11, 12] [pl 2 (.pointer (some ⟨g1, 0, none⟩)), pl 5 (.int .i64 0), pl 6 (.func (.func 221) #[] #[.pointer (some ⟨g2, 0, none⟩), .pointer (some ⟨g1, 0, none⟩)]), pl 10 (.slice A1 l1.length c1), pl 11 (.int .i64 (l1.length : Int)), pl 12 (.int .i64 0)] hF hS Fol (by kernel_rfl) (by kernel_rfl) (by kernel_rfl) ?_ (fun a w hF hS => ?_)
    · exact obs_cons (ob_load Agg34 (fun _ _ hS => (hS.at_ 1 rfl).cell rfl)) <| obs_nil
    refine wpIn_block ?_
    have hS := hS.pickN 2 [1, 0] (by decide)
    refine wp_loop_model (S := (Int × Int)) (R := Int) (bridge_winner_L1 l1 strain1) (fun x => (bridge_winner_K1 x).bind some) r (fun (x : (Int × Int)) a w => Fr 30 [pl 2 (.pointer (some ⟨g1, 0, none⟩)), pl 5 (.int .i64 x.1), pl 6 (.func (.func 221) #[] #[.pointer (some ⟨g2, 0, none⟩), .pointer (some ⟨g1, 0, none⟩)]), pl 10 (.slice A1 l1.length c1), pl 11 (.int .i64 (l1.length : Int)), pl 12 (.int .i64 x.2)] a ∧ Sep w0 B w (blk g1 34 #[.slice A1 l1.length c1] :: blk g2 3 #[.int .i64 strain1] :: fs)) (assoc_b hm) ⟨hF.weak [2, 5, 6, 10, 11, 12] (by kernel_rfl), hS⟩ ?_
    clear hF hS hm
    rintro nn1 ⟨best1, z1⟩ a w ⟨hF, hS⟩ hm
    generalize hφ1 : stK (bridge_winner_L1 l1 strain1) nn1 (fun x => (bridge_winner_K1 x).bind some) = φ1 at hm
    unfold bridge_winner_L1 at hm
    dsimp only at hF hS hm
    refine reg [] [] [2, 5, 6, 10, 11, 12, 13] [pl 2 (.pointer (some ⟨g1, 0, none⟩)), pl 5 (.int .i64 best1), pl 6 (.func (.func 221) #[] #[.pointer (some ⟨g2, 0, none⟩), .pointer (some ⟨g1, 0, none⟩)]), pl 10 (.slice A1 l1.length c1), pl 11 (.int .i64 (l1.length : Int)), pl 12 (.int .i64 z1), pl 13 (.bool (decide (z1 < (l1.length : Int))))] hF hS Fol (by kernel_rfl) (by kernel_rfl) (by kernel_rfl) ?_ (fun a w hF hS => ?_)
    · exact obs_nil
    refine seq_cut (fun a w => Fr 30 [pl 2 (.pointer (some ⟨g1, 0, none⟩)), pl 5 (.int .i64 best1), pl 6 (.func (.func 221) #[] #[.pointer (some ⟨g2, 0, none⟩), .pointer (some ⟨g1, 0, none⟩)]), pl 10 (.slice A1 l1.length c1), pl 11 (.int .i64 (l1.length : Int)), pl 12 (.int .i64 z1)] a ∧ Sep w0 B w (blk g1 34 #[.slice A1 l1.length c1] :: blk g2 3 #[.int .i64 strain1] :: fs) ∧ ((bridge_winner_J2 l1 strain1 best1 z1)).bind φ1 = some r) ?_ ?_
    · rintro a w ⟨hF, hS, hm⟩
      unfold bridge_winner_J2 at hm
      refine seq_cut (fun a w => ∃ (best3 : Int), Fr 30 [pl 2 (.pointer (some ⟨g1, 0, none⟩)), pl 5 (.int .i64 best3), pl 6 (.func (.func 221) #[] #[.pointer (some ⟨g2, 0, none⟩), .pointer (some ⟨g1, 0, none⟩)]), pl 10 (.slice A1 l1.length c1), pl 11 (.int .i64 (l1.length : Int)), pl 12 (.int .i64 z1)] a ∧ Sep w0 B w (blk g1 34 #[.slice A1 l1.length c1] :: blk g2 3 #[.int .i64 strain1] :: fs) ∧ ((bridge_winner_J3 z1) best3).bind φ1 = some r) ?_ ?_
      · rintro a w ⟨best3, hF, hS, hm⟩
        unfold bridge_winner_J3 at hm
        refine reg1 [] [] [2, 5, 6, 10, 11, 12] [pl 2 (.pointer (some ⟨g1, 0, none⟩)), pl 5 (.int .i64 best3), pl 6 (.func (.func 221) #[] #[.pointer (some ⟨g2, 0, none⟩), .pointer (some ⟨g1, 0, none⟩)]), pl 10 (.slice A1 l1.length c1), pl 11 (.int .i64 (l1.length : Int)), pl 12 (.int .i64 (w64 (z1 + 1)))] hF hS Fol (by kernel_rfl) (by kernel_rfl) (by kernel_rfl) ?_ (fun a w hF hS => ?_)
        · exact obs_nil
        refine then_n ?_
        rw [← hφ1] at hm
        exact ⟨(best3, (w64 (z1 + 1))), ⟨hF.weak [2, 5, 6, 10, 11, 12] (by kernel_rfl), hS⟩, hm⟩
      · refine wpIn_block ?_
        obtain ⟨hp1, hm⟩ := asrt_b hm
        refine reg [⟨true, [], vS (Instr.indexAt 34 (.slice A1 l1.length c1) (.int .i64 z1)), .pointer (some (sAddr A1 z1))⟩, ⟨false, [], vS (Instr.loadAt 3 (.pointer (some (sAddr A1 z1)))), .int .i64 (geti l1 z1)⟩] [none, some (.pointer (some (sAddr A1 z1))), some (.int .i64 (geti l1 z1)), none, none] [2, 5, 6, 7, 8, 10, 11, 12] [pl 2 (.pointer (some ⟨g1, 0, none⟩)), pl 5 (.int .i64 best1), pl 6 (.func (.func 221) #[] #[.pointer (some ⟨g2, 0, none⟩), .pointer (some ⟨g1, 0, none⟩)]), pl 7 (.int .i64 z1), pl 8 (.int .i64 (geti l1 z1)), pl 10 (.slice A1 l1.length c1), pl 11 (.int .i64 (l1.length : Int)), pl 12 (.int .i64 z1)] hF hS Fol (by kernel_rfl) (by kernel_rfl) (by kernel_rfl) ?_ (fun a w hF hS => ?_)
        · exact obs_cons (ob_ix1 (f := (Value.int .i64)) (m := l1) Und34 hi3 hs3 (hr_l1 _ (hS.dropN 2)) rfl (fun _ => hp1)) <| obs_cons (ob_get1 (n := l1.length) (m := l1) (Value.int .i64) (0 : Int) Agg3 (fun _ hS => ⟨_, (hr_l1 _ (hS.dropN 2))⟩) (fun _ hS => rfl) (fun _ => hp1)) <| obs_nil
        refine seq_cut (fun a w => ∃ (z2 : Bool), Fr 30 [pl 2 (.pointer (some ⟨g1, 0, none⟩)), pl 5 (.int .i64 best1), pl 6 (.func (.func 221) #[] #[.pointer (some ⟨g2, 0, none⟩), .pointer (some ⟨g1, 0, none⟩)]), pl 7 (.int .i64 z1), pl 10 (.slice A1 l1.length c1), pl 11 (.int .i64 (l1.length : Int)), pl 12 (.int .i64 z1), pl 26 (.bool z2)] a ∧ Sep w0 B w (blk g1 34 #[.slice A1 l1.length c1] :: blk g2 3 #[.int .i64 strain1] :: fs) ∧ ((bridge_winner_J4 best1 z1) z2).bind φ1 = some r) ?_ ?_
        · rintro a w ⟨z2, hF, hS, hm⟩
          unfold bridge_winner_J4 at hm
          refine cond_ev (t := 26) (b := z2) hF (by kernel_rfl) (fun hb => ?_) (fun hb => ?_)
          · replace hm := if_t hm hb
            refine reg1 [] [] [2, 5, 6, 10, 11, 12] [pl 2 (.pointer (some ⟨g1, 0, none⟩)), pl 5 (.int .i64 z1), pl 6 (.func (.func 221) #[] #[.pointer (some ⟨g2, 0, none⟩), .pointer (some ⟨g1, 0, none⟩)]), pl 10 (.slice A1 l1.length c1), pl 11 (.int .i64 (l1.length : Int)), pl 12 (.int .i64 z1)] hF hS Fol (by kernel_rfl) (by kernel_rfl) (by kernel_rfl) ?_ (fun a w hF hS => ?_)
            · exact obs_nil
            refine block_n ?_
            refine then_n ?_
            exact ⟨z1, hF.weak [2, 5, 6, 10, 11, 12] (by kernel_rfl), hS, hm⟩
          · replace hm := if_f hm hb
            refine wpIn_skip ?_
            refine block_n ?_
            refine then_n ?_
            exact ⟨best1, hF.weak [2, 5, 6, 10, 11, 12] (by kernel_rfl), hS, hm⟩
        · obtain ⟨hp2, hm⟩ := asrt_b hm
          obtain ⟨r1, hr1, hm⟩ := call_b hm
          obtain ⟨r2, hr2, hm⟩ := call_b hm
          refine regMix5 [0, 1, 3, 4, 5, 6, 7] [] 3 #[true, true, false, true, true, true, true, true, false, false] [⟨false, [], vS (Instr.loadAt 34 (.pointer (some ⟨g1, 0, none⟩))), .slice A1 l1.length c1⟩, ⟨true, [], vS (Instr.indexAt 34 (.slice A1 l1.length c1) (.int .i64 best1)), .pointer (some (sAddr A1 best1))⟩, ⟨false, [], vS (Instr.loadAt 3 (.pointer (some (sAddr A1 best1)))), .int .i64 (geti l1 best1)⟩] [none, none, none, some (.slice A1 l1.length c1), none, some (.pointer (some (sAddr A1 best1))), some (.int .i64 (geti l1 best1))] [2, 5, 6, 7, 10, 11, 12, 17, 18, 20, 24] [pl 2 (.pointer (some ⟨g1, 0, none⟩)), pl 5 (.int .i64 best1), pl 6 (.func (.func 221) #[] #[.pointer (some ⟨g2, 0, none⟩), .pointer (some ⟨g1, 0, none⟩)]), pl 7 (.int .i64 z1), pl 10 (.slice A1 l1.length c1), pl 11 (.int .i64 (l1.length : Int)), pl 12 (.int .i64 z1), pl 17 (.func (.func 221) #[] #[.pointer (some ⟨g2, 0, none⟩), .pointer (some ⟨g1, 0, none⟩)]), pl 18 (.int .i64 (geti l1 z1)), pl 20 (.func (.func 221) #[] #[.pointer (some ⟨g2, 0, none⟩), .pointer (some ⟨g1, 0, none⟩)]), pl 24 (.int .i64 (geti l1 best1))] hF hS Fol (by kernel_rfl) (by kernel_rfl) (by kernel_rfl) (by kernel_rfl) ?_ (fun a w hF hS => ?_)
          · exact obs_cons (ob_load Agg34 (fun _ _ hS => (hS.at_ 0 rfl).cell rfl)) <| obs_cons (ob_ix1 (f := (Value.int .i64)) (m := l1) Und34 hi3 hs3 (hr_l1 _ (hS.dropN 2)) rfl (fun _ => hp2)) <| obs_cons (ob_get1 (n := l1.length) (m := l1) (Value.int .i64) (0 : Int) Agg3 (fun _ hS => ⟨_, (hr_l1 _ (hS.dropN 2))⟩) (fun _ hS => rfl) (fun _ => hp2)) <| obs_nil
          refine any_step [2] (by kernel_rfl) rfl ?_
          refine (all_cons ?_ all_nil)
          · refine any_op (listed' := #[true, true, true, true, true, true, true, true, false, false]) (by kernel_rfl) (by kernel_rfl) ?_
            refine at_run 1 [⟨false, [], callFunc 221 #[.int .i64 (geti l1 z1), .pointer (some ⟨g2, 0, none⟩), .pointer (some ⟨g1, 0, none⟩)], .int .i64 r1⟩] [some (.int .i64 r1)] [2, 5, 6, 7, 10, 11, 12, 19, 20, 24] [pl 2 (.pointer (some ⟨g1, 0, none⟩)), pl 5 (.int .i64 best1), pl 6 (.func (.func 221) #[] #[.pointer (some ⟨g2, 0, none⟩), .pointer (some ⟨g1, 0, none⟩)]), pl 7 (.int .i64 z1), pl 10 (.slice A1 l1.length c1), pl 11 (.int .i64 (l1.length : Int)), pl 12 (.int .i64 z1), pl 19 (.int .i64 r1), pl 20 (.func (.func 221) #[] #[.pointer (some ⟨g2, 0, none⟩), .pointer (some ⟨g1, 0, none⟩)]), pl 24 (.int .i64 (geti l1 best1))] hF hS (by kernel_rfl) (by kernel_rfl) ?_ (fun a w hF hS => ?_)
            · exact obs_cons (ob_call Try.func221 (by kernel_rfl) rfl (fun _ _ hS => quiet_pick hS 2 [1, 0] (by decide) [1, 0] (by decide) (qs := (blk g2 3 #[.int .i64 strain1] :: blk g1 34 #[.slice A1 l1.length c1] :: fs)) rfl (fun hS => bridge_winner_1_w hr1 hS (fun _ hS => (hr_l1 _ (hS.dropN 0))) _hc_l1 rfl) 2 rfl)) <| obs_nil
            refine any_fin rfl hS ?_
            refine any_step [8] (by kernel_rfl) rfl ?_
            refine (all_cons ?_ all_nil)
            · refine any_op (listed' := #[true, true, true, true, true, true, true, true, true, false]) (by kernel_rfl) (by kernel_rfl) ?_
              refine at_run 1 [⟨false, [], callFunc 221 #[.int .i64 (geti l1 best1), .pointer (some ⟨g2, 0, none⟩), .pointer (some ⟨g1, 0, none⟩)], .int .i64 r2⟩] [some (.int .i64 r2)] [2, 5, 6, 7, 10, 11, 12, 19, 25] [pl 2 (.pointer (some ⟨g1, 0, none⟩)), pl 5 (.int .i64 best1), pl 6 (.func (.func 221) #[] #[.pointer (some ⟨g2, 0, none⟩), .pointer (some ⟨g1, 0, none⟩)]), pl 7 (.int .i64 z1), pl 10 (.slice A1 l1.length c1), pl 11 (.int .i64 (l1.length : Int)), pl 12 (.int .i64 z1), pl 19 (.int .i64 r1), pl 25 (.int .i64 r2)] hF hS (by kernel_rfl) (by kernel_rfl) ?_ (fun a w hF hS => ?_)
              · exact obs_cons (ob_call Try.func221 (by kernel_rfl) rfl (fun _ _ hS => quiet_pick hS 2 [1, 0] (by decide) [1, 0] (by decide) (qs := (blk g2 3 #[.int .i64 strain1] :: blk g1 34 #[.slice A1 l1.length c1] :: fs)) rfl (fun hS => bridge_winner_1_w hr2 hS (fun _ hS => (hr_l1 _ (hS.dropN 0))) _hc_l1 rfl) 2 rfl)) <| obs_nil
              refine any_fin rfl hS ?_
              refine any_step [9] (by kernel_rfl) rfl ?_
              refine (all_cons ?_ all_nil)
              · refine any_op (listed' := #[true, true, true, true, true, true, true, true, true, true]) (by kernel_rfl) (by kernel_rfl) ?_
                refine at_runW 1 [] [] [2, 5, 6, 7, 10, 11, 12, 26] [pl 2 (.pointer (some ⟨g1, 0, none⟩)), pl 5 (.int .i64 best1), pl 6 (.func (.func 221) #[] #[.pointer (some ⟨g2, 0, none⟩), .pointer (some ⟨g1, 0, none⟩)]), pl 7 (.int .i64 z1), pl 10 (.slice A1 l1.length c1), pl 11 (.int .i64 (l1.length : Int)), pl 12 (.int .i64 z1), pl 26 (.bool (decide (r2 < r1)))] hF hS (by kernel_rfl) (by kernel_rfl) ?_ (fun a hF => ?_)
                · exact obs_nil
                refine any_finI rfl (fun h => h) ?_
                refine any_end (by kernel_rfl) ?_
                refine np_n ?_
                refine then_n ?_
                exact ⟨(decide (r2 < r1)), hF.weak [2, 5, 6, 7, 10, 11, 12, 26] (by kernel_rfl), hS, hm⟩
    · refine cond_ev (t := 13) (b := decide (z1 < (l1.length : Int))) hF (by kernel_rfl) (fun hb => ?_) (fun hb => ?_)
      · replace hm := if_t hm hb
        refine wpIn_skip ?_
        refine then_n ?_
        exact ⟨hF.weak [2, 5, 6, 10, 11, 12] (by kernel_rfl), hS, hm⟩
      · replace hm := if_f hm hb
        refine wpIn_exit ?_
        refine then_e (then_e (block_e (then_n ?_)))
        have hS := hS.pickN 2 [] (by decide)
        rw [← hφ1] at hm
        replace hm := done_b hm
        unfold bridge_winner_K1 at hm
        try dsimp only at hm
        have hm : (bridge_winner_J1 best1).bind some = some r := hm
        exact ⟨best1, hF.weak [5] (by kernel_rfl), hS, hm⟩

noncomputable def bridge_may_1_m  (c1 : Int) (p11 : Int) : Option Bool :=
  some ((Int.tmod c1 4) == (Int.tmod p11 4))

set_option maxRecDepth 100000 in
set_option maxHeartbeats 4000000 in
theorem bridge_may_1_w {c1 : Int} {g1 : Nat} {p11 : Int} {r : Bool} {w0 w : World} {B : Nat} {fs : List HP} (hm : bridge_may_1_m c1 p11 = some r) (hS : Sep w0 B w (blk g1 3 #[.int .i64 p11] :: fs)) :
    Calls Try.prog 222 #[.int .i64 c1, .pointer (some ⟨g1, 0, none⟩)] w fun e w' => e = .returned (.bool r) ∧ Sep w0 B w' (blk g1 3 #[.int .i64 p11] :: fs) := by
  unfold bridge_may_1_m at hm
  replace hm := start_b hm
  refine enter (l := [.int .i64 c1, .pointer (some ⟨g1, 0, none⟩)]) (n := 9) Try.func222 rfl rfl (by simp) (fun a hF => ?_)
  refine reg [] [] [0, 1] [pl 0 (.int .i64 c1), pl 1 (.pointer (some ⟨g1, 0, none⟩))] hF hS Fol (by kernel_rfl) (by kernel_rfl) (by kernel_rfl) ?_ (fun a w hF hS => ?_)
  · exact obs_nil
  refine reg [⟨false, [], vS (Instr.loadAt 3 (.pointer (some ⟨g1, 0, none⟩))), .int .i64 p11⟩] [none, none, some (.int .i64 p11), none, none, none] [3] [pl 3 (.bool ((Int.tmod c1 4) == (Int.tmod p11 4)))] hF hS Fol (by kernel_rfl) (by kernel_rfl) (by kernel_rfl) ?_ (fun a w hF hS => ?_)
  · exact obs_cons (ob_load Agg3 (fun _ _ hS => (hS.at_ 0 rfl).cell rfl)) <| obs_nil
  refine wpIn_ret ?_
  have hm : some ((Int.tmod c1 4) == (Int.tmod p11 4)) = some r := hm
  obtain rfl := Option.some.inj hm
  exact retV (rs := [.tmp 3]) (vs := [.bool ((Int.tmod c1 4) == (Int.tmod p11 4))]) hF rfl (rv_t (by kernel_rfl) <| rv_nil) rfl ⟨rfl, hS⟩

noncomputable def slices_IndexFunc_2_J3  (z1 : Int) : Option (St Int (Fl Unit Int)) :=
  some (.next (w64 (z1 + 1)))

noncomputable def slices_IndexFunc_2_J2  (s1 : List Int) (v1 : Int) (z1 : Int) : Option (St Int (Fl Unit Int)) :=
  asrt (0 ≤ z1 ∧ z1 < (s1.length : Int)) <| (bridge_may_1_m (geti s1 z1) v1).bind fun r1 => if r1 then (some (.done (.ret z1))) else ((slices_IndexFunc_2_J3 z1))

noncomputable def slices_IndexFunc_2_J1  : Option Int :=
  some (-1)

noncomputable def slices_IndexFunc_2_K1  : (Fl Unit Int) → Option Int :=
  fun (x : (Fl Unit Int)) => match x with | .go _ => slices_IndexFunc_2_J1 | .ret x => some x

noncomputable def slices_IndexFunc_2_L1  (s1 : List Int) (v1 : Int) : Int → Option (St Int (Fl Unit Int)) :=
  fun (x : Int) => match x with | z1 => if (decide (z1 < (s1.length : Int))) then ((slices_IndexFunc_2_J2 s1 v1 z1)) else (some (.done (.go ())))

noncomputable def slices_IndexFunc_2_m  (s1 : List Int) (v1 : Int) : Option Int :=
  (loop (slices_IndexFunc_2_L1 s1 v1) 0).bind slices_IndexFunc_2_K1

set_option maxRecDepth 100000 in
set_option maxHeartbeats 4000000 in
theorem slices_IndexFunc_2_w {A1 : Option Addr} {c1 : Nat} {n1 : Nat} {s1 : List Int} {g1 : Nat} {v1 : Int} {r : Int} {w0 w : World} {B : Nat} {fs : List HP} (hm : slices_IndexFunc_2_m s1 v1 = some r) (hS : Sep w0 B w (blk g1 3 #[.int .i64 v1] :: fs)) (hr_s1 : RdF w0 B fs A1 (vI s1)) (_hc_s1 : s1.length ≤ c1) (_hn_s1 : n1 = s1.length) :
    Calls Try.prog 140 #[.slice A1 n1 c1, .func (.func 222) #[] #[.pointer (some ⟨g1, 0, none⟩)]] w fun e w' => e = .returned (.int .i64 r) ∧ Sep w0 B w' (blk g1 3 #[.int .i64 v1] :: fs) := by
  obtain ⟨i3, hi3, hz3, hs3, hb3⟩ := info_parts Info3
  obtain rfl := _hn_s1
  unfold slices_IndexFunc_2_m at hm
  replace hm := start_b hm
  refine enter (l := [.slice A1 s1.length c1, .func (.func 222) #[] #[.pointer (some ⟨g1, 0, none⟩)]]) (n := 19) Try.func140 rfl rfl (by simp) (fun a hF => ?_)
  refine reg [] [] [0, 1] [pl 0 (.slice A1 s1.length c1), pl 1 (.func (.func 222) #[] #[.pointer (some ⟨g1, 0, none⟩)])] hF hS Fol (by kernel_rfl) (by kernel_rfl) (by kernel_rfl) ?_ (fun a w hF hS => ?_)
  · exact obs_nil
  refine seq_cut (fun a w => Fr 19 [] a ∧ Sep w0 B w (blk g1 3 #[.int .i64 v1] :: fs) ∧ (slices_IndexFunc_2_J1).bind some = some r) ?_ ?_
  · rintro a w ⟨hF, hS, hm⟩
    unfold slices_IndexFunc_2_J1 at hm
    refine reg [] [] [4] [pl 4 (.int .i64 (-1))] hF hS Fol (by kernel_rfl) (by kernel_rfl) (by kernel_rfl) ?_ (fun a w hF hS => ?_)
    · exact obs_nil
    refine wpIn_ret ?_
    have hm : some (-1) = some r := hm
    obtain rfl := Option.some.inj hm
    exact retV (rs := [.tmp 4]) (vs := [.int .i64 (-1)]) hF rfl (rv_t (by kernel_rfl) <| rv_nil) rfl ⟨rfl, hS⟩
  · refine reg [] [] [0, 1, 7, 8] [pl 0 (.slice A1 s1.length c1), pl 1 (.func (.func 222) #[] #[.pointer (some ⟨g1, 0, none⟩)]), pl 7 (.int .i64 (s1.length : Int)), pl 8 (.int .i64 0)] hF hS Fol (by kernel_rfl) (by kernel_rfl) (by kernel_rfl) ?_ (fun a w hF hS => ?_)
    · exact obs_nil
    refine wpIn_block ?_
    refine wp_loop_model (S := Int) (R := (Fl Unit Int)) (slices_IndexFunc_2_L1 s1 v1) (fun x => (slices_IndexFunc_2_K1 x).bind some) r (fun (x : Int) a w => Fr 19 [pl 0 (.slice A1 s1.length c1), pl 1 (.func (.func 222) #[] #[.pointer (some ⟨g1, 0, none⟩)]), pl 7 (.int .i64 (s1.length : Int)), pl 8 (.int .i64 x)] a ∧ Sep w0 B w (blk g1 3 #[.int .i64 v1] :: fs)) (assoc_b hm) ⟨hF.weak [0, 1, 7, 8] (by kernel_rfl), hS⟩ ?_
    clear hF hS hm
    rintro nn1 z1 a w ⟨hF, hS⟩ hm
    generalize hφ1 : stK (slices_IndexFunc_2_L1 s1 v1) nn1 (fun x => (slices_IndexFunc_2_K1 x).bind some) = φ1 at hm
    unfold slices_IndexFunc_2_L1 at hm
    dsimp only at hm
    refine reg [] [] [0, 1, 7, 8, 9] [pl 0 (.slice A1 s1.length c1), pl 1 (.func (.func 222) #[] #[.pointer (some ⟨g1, 0, none⟩)]), pl 7 (.int .i64 (s1.length : Int)), pl 8 (.int .i64 z1), pl 9 (.bool (decide (z1 < (s1.length : Int))))] hF hS Fol (by kernel_rfl) (by kernel_rfl) (by kernel_rfl) ?_ (fun a w hF hS => ?_)
    · exact obs_nil
    refine seq_cut (fun a w => Fr 19 [pl 0 (.slice A1 s1.length c1), pl 1 (.func (.func 222) #[] #[.pointer (some ⟨g1, 0, none⟩)]), pl 7 (.int .i64 (s1.length : Int)), pl 8 (.int .i64 z1)] a ∧ Sep w0 B w (blk g1 3 #[.int .i64 v1] :: fs) ∧ ((slices_IndexFunc_2_J2 s1 v1 z1)).bind φ1 = some r) ?_ ?_
    · rintro a w ⟨hF, hS, hm⟩
      unfold slices_IndexFunc_2_J2 at hm
      refine seq_cut (fun a w => Fr 19 [pl 0 (.slice A1 s1.length c1), pl 1 (.func (.func 222) #[] #[.pointer (some ⟨g1, 0, none⟩)]), pl 7 (.int .i64 (s1.length : Int)), pl 8 (.int .i64 z1)] a ∧ Sep w0 B w (blk g1 3 #[.int .i64 v1] :: fs) ∧ ((slices_IndexFunc_2_J3 z1)).bind φ1 = some r) ?_ ?_
      · rintro a w ⟨hF, hS, hm⟩
        unfold slices_IndexFunc_2_J3 at hm
        refine reg1 [] [] [0, 1, 7, 8] [pl 0 (.slice A1 s1.length c1), pl 1 (.func (.func 222) #[] #[.pointer (some ⟨g1, 0, none⟩)]), pl 7 (.int .i64 (s1.length : Int)), pl 8 (.int .i64 (w64 (z1 + 1)))] hF hS Fol (by kernel_rfl) (by kernel_rfl) (by kernel_rfl) ?_ (fun a w hF hS => ?_)
        · exact obs_nil
        refine then_n ?_
        rw [← hφ1] at hm
        exact ⟨(w64 (z1 + 1)), ⟨hF.weak [0, 1, 7, 8] (by kernel_rfl), hS⟩, hm⟩
      · refine wpIn_block ?_
        refine reg [] [] [0, 1, 5, 7, 8] [pl 0 (.slice A1 s1.length c1), pl 1 (.func (.func 222) #[] #[.pointer (some ⟨g1, 0, none⟩)]), pl 5 (.int .i64 z1), pl 7 (.int .i64 (s1.length : Int)), pl 8 (.int .i64 z1)] hF hS Fol (by kernel_rfl) (by kernel_rfl) (by kernel_rfl) ?_ (fun a w hF hS => ?_)
        · exact obs_nil
        obtain ⟨hp1, hm⟩ := asrt_b hm
        obtain ⟨r1, hr1, hm⟩ := call_b hm
        refine reg [⟨true, [], vS (Instr.indexAt 34 (.slice A1 s1.length c1) (.int .i64 z1)), .pointer (some (sAddr A1 z1))⟩, ⟨false, [], vS (Instr.loadAt 3 (.pointer (some (sAddr A1 z1)))), .int .i64 (geti s1 z1)⟩, ⟨false, [], callFunc 222 #[.int .i64 (geti s1 z1), .pointer (some ⟨g1, 0, none⟩)], .bool r1⟩] [none, none, none, some (.pointer (some (sAddr A1 z1))), some (.int .i64 (geti s1 z1)), some (.bool r1)] [0, 1, 5, 7, 8, 16] [pl 0 (.slice A1 s1.length c1), pl 1 (.func (.func 222) #[] #[.pointer (some ⟨g1, 0, none⟩)]), pl 5 (.int .i64 z1), pl 7 (.int .i64 (s1.length : Int)), pl 8 (.int .i64 z1), pl 16 (.bool r1)] hF hS Fol (by kernel_rfl) (by kernel_rfl) (by kernel_rfl) ?_ (fun a w hF hS => ?_)
        · exact obs_cons (ob_ix1 (f := (Value.int .i64)) (m := s1) Und34 hi3 hs3 (hr_s1 _ (hS.dropN 1)) rfl (fun _ => hp1)) <| obs_cons (ob_get1 (n := s1.length) (m := s1) (Value.int .i64) (0 : Int) Agg3 (fun _ hS => ⟨_, (hr_s1 _ (hS.dropN 1))⟩) (fun _ hS => rfl) (fun _ => hp1)) <| obs_cons (ob_call Try.func222 (by kernel_rfl) rfl (fun _ _ hS => bridge_may_1_w hr1 hS )) <| obs_nil
        refine cond_ev (t := 16) (b := r1) hF (by kernel_rfl) (fun hb => ?_) (fun hb => ?_)
        · replace hm := if_t hm hb
          refine reg [] [] [4] [pl 4 (.int .i64 z1)] hF hS Fol (by kernel_rfl) (by kernel_rfl) (by kernel_rfl) ?_ (fun a w hF hS => ?_)
          · exact obs_nil
          refine wpIn_ret ?_
          refine block_r (then_r (then_r (block_r (then_r ?_))))
          rw [← hφ1] at hm
          replace hm := done_b hm
          unfold slices_IndexFunc_2_K1 at hm
          try dsimp only at hm
          have hm : some z1 = some r := hm
          obtain rfl := Option.some.inj hm
          exact retV (rs := [.tmp 4]) (vs := [.int .i64 z1]) hF rfl (rv_t (by kernel_rfl) <| rv_nil) rfl ⟨rfl, hS⟩
        · replace hm := if_f hm hb
          refine wpIn_skip ?_
          refine block_n ?_
          refine then_n ?_
          exact ⟨hF.weak [0, 1, 7, 8] (by kernel_rfl), hS, hm⟩
    · refine cond_ev (t := 9) (b := decide (z1 < (s1.length : Int))) hF (by kernel_rfl) (fun hb => ?_) (fun hb => ?_)
      · replace hm := if_t hm hb
        refine wpIn_skip ?_
        refine then_n ?_
        exact ⟨hF.weak [0, 1, 7, 8] (by kernel_rfl), hS, hm⟩
      · replace hm := if_f hm hb
        refine wpIn_exit ?_
        refine then_e (then_e (block_e (then_n ?_)))
        rw [← hφ1] at hm
        replace hm := done_b hm
        unfold slices_IndexFunc_2_K1 at hm
        try dsimp only at hm
        have hm : (slices_IndexFunc_2_J1).bind some = some r := hm
        exact ⟨hF.weak [] (by kernel_rfl), hS, hm⟩

noncomputable def slices_ContainsFunc_2_m  (s1 : List Int) (v1 : Int) : Option Bool :=
  (slices_IndexFunc_2_m s1 v1).bind fun r1 => some (decide ((0 : Int) ≤ r1))

set_option maxRecDepth 100000 in
set_option maxHeartbeats 4000000 in
theorem slices_ContainsFunc_2_w {A1 : Option Addr} {c1 : Nat} {n1 : Nat} {s1 : List Int} {g1 : Nat} {v1 : Int} {r : Bool} {w0 w : World} {B : Nat} {fs : List HP} (hm : slices_ContainsFunc_2_m s1 v1 = some r) (hS : Sep w0 B w (blk g1 3 #[.int .i64 v1] :: fs)) (hr_s1 : RdF w0 B fs A1 (vI s1)) (_hc_s1 : s1.length ≤ c1) (_hn_s1 : n1 = s1.length) :
    Calls Try.prog 87 #[.slice A1 n1 c1, .func (.func 222) #[] #[.pointer (some ⟨g1, 0, none⟩)]] w fun e w' => e = .returned (.bool r) ∧ Sep w0 B w' (blk g1 3 #[.int .i64 v1] :: fs) := by
  obtain ⟨i3, hi3, hz3, hs3, hb3⟩ := info_parts Info3
  obtain rfl := _hn_s1
  unfold slices_ContainsFunc_2_m at hm
  replace hm := start_b hm
  refine enter (l := [.slice A1 s1.length c1, .func (.func 222) #[] #[.pointer (some ⟨g1, 0, none⟩)]]) (n := 9) Try.func87 rfl rfl (by simp) (fun a hF => ?_)
  refine reg [] [] [0, 1] [pl 0 (.slice A1 s1.length c1), pl 1 (.func (.func 222) #[] #[.pointer (some ⟨g1, 0, none⟩)])] hF hS Fol (by kernel_rfl) (by kernel_rfl) (by kernel_rfl) ?_ (fun a w hF hS => ?_)
  · exact obs_nil
  obtain ⟨r1, hr1, hm⟩ := call_b hm
  refine reg [⟨false, [], callFunc 140 #[.slice A1 s1.length c1, .func (.func 222) #[] #[.pointer (some ⟨g1, 0, none⟩)]], .int .i64 r1⟩] [none, none, some (.int .i64 r1), none, none] [4] [pl 4 (.bool (decide ((0 : Int) ≤ r1)))] hF hS Fol (by kernel_rfl) (by kernel_rfl) (by kernel_rfl) ?_ (fun a w hF hS => ?_)
  · exact obs_cons (ob_call Try.func140 (by kernel_rfl) rfl (fun _ _ hS => slices_IndexFunc_2_w hr1 hS (fun _ hS => (hr_s1 _ (hS.dropN 0))) _hc_s1 rfl)) <| obs_nil
  refine wpIn_ret ?_
  have hm : some (decide ((0 : Int) ≤ r1)) = some r := hm
  obtain rfl := Option.some.inj hm
  exact retV (rs := [.tmp 4]) (vs := [.bool (decide ((0 : Int) ≤ r1))]) hF rfl (rv_t (by kernel_rfl) <| rv_nil) rfl ⟨rfl, hS⟩

noncomputable def bridge_may_m  (hand1 : List Int) (led1 : Int) (card1 : Int) : Option Bool :=
  ((if (!((decide (led1 < 0)) || ((Int.tmod card1 4) == (Int.tmod led1 4)))) then slices_ContainsFunc_2_m hand1 led1 else some false)).bind fun r1 => some (((decide (led1 < 0)) || ((Int.tmod card1 4) == (Int.tmod led1 4))) || (!r1))

set_option maxRecDepth 100000 in
set_option maxHeartbeats 4000000 in
theorem bridge_may_w {A1 : Option Addr} {c1 : Nat} {n1 : Nat} {hand1 : List Int} {led1 : Int} {card1 : Int} {r : Bool} {w0 w : World} {B : Nat} {fs : List HP} (hm : bridge_may_m hand1 led1 card1 = some r) (hS : Sep w0 B w (fs)) (hr_hand1 : RdF w0 B fs A1 (vI hand1)) (_hc_hand1 : hand1.length ≤ c1) (_hn_hand1 : n1 = hand1.length) :
    Calls Try.prog 198 #[.slice A1 n1 c1, .int .i64 led1, .int .i64 card1] w fun e w' => e = .returned (.bool r) ∧ Sep w0 B w' (fs) := by
  obtain ⟨i3, hi3, hz3, hs3, hb3⟩ := info_parts Info3
  obtain rfl := _hn_hand1
  unfold bridge_may_m at hm
  replace hm := start_b hm
  refine enter (l := [.slice A1 hand1.length c1, .int .i64 led1, .int .i64 card1]) (n := 22) Try.func198 rfl rfl (by simp) (fun a hF => ?_)
  refine seqR ?_
  refine at_do (d := 4) (s := vS (Instr.box 3 (.int .i64 led1))) (v := .pointer (some ⟨w.heap.size, 0, none⟩)) (w' := w.alloc (.cells #[.int .i64 led1] 3)) hF (by kernel_rfl) (by kernel_rfl) (by kernel_rfl) (fun a hF => ?_)
  have hS : Sep w0 B (w.alloc (.cells #[.int .i64 led1] 3)) (blk w.heap.size 3 #[.int .i64 led1] :: (fs)) := hS.box 3 #[.int .i64 led1]
  generalize w.heap.size = g1 at hF hS
  generalize w.alloc (.cells #[.int .i64 led1] 3) = w at hS ⊢
  refine at_run 1 [] [] [0, 2, 4] [pl 0 (.slice A1 hand1.length c1), pl 2 (.int .i64 card1), pl 4 (.pointer (some ⟨g1, 0, none⟩))] hF hS (by kernel_rfl) (by kernel_rfl) ?_ (fun a w hF hS => ?_)
  · exact obs_nil
  refine at_end [0, 2, 4] [pl 0 (.slice A1 hand1.length c1), pl 2 (.int .i64 card1), pl 4 (.pointer (some ⟨g1, 0, none⟩))] hF rfl (by kernel_rfl) (fun hF => ?_)
  refine then_n ?_
  obtain ⟨r1, hr1, hm⟩ := call_b hm
  refine reg [⟨false, [], vS (Instr.loadAt 3 (.pointer (some ⟨g1, 0, none⟩))), .int .i64 led1⟩, ⟨false, [(decide (led1 < 0), false)], vS (Instr.loadAt 3 (.pointer (some ⟨g1, 0, none⟩))), .int .i64 led1⟩, ⟨false, [((decide (led1 < 0)) || ((Int.tmod card1 4) == (Int.tmod led1 4)), false)], callFunc 87 #[.slice A1 hand1.length c1, .func (.func 222) #[] #[.pointer (some ⟨g1, 0, none⟩)]], .bool r1⟩] [some (.int .i64 led1), none, none, none, none, some (.int .i64 led1), none, none, none, none, none, none, some (.bool r1), none, none, none] [6] [pl 6 (.bool (((decide (led1 < 0)) || ((Int.tmod card1 4) == (Int.tmod led1 4))) || (!r1)))] hF hS Fol (by kernel_rfl) (by kernel_rfl) (by kernel_rfl) ?_ (fun a w hF hS => ?_)
  · exact obs_cons (ob_load Agg3 (fun _ _ hS => (hS.at_ 0 rfl).cell rfl)) <| obs_cons (ob_load Agg3 (fun _ _ hS => (hS.at_ 0 rfl).cell rfl)) <| obs_cons (ob_call Try.func87 (by kernel_rfl) rfl (fun hy _ hS => slices_ContainsFunc_2_w (ite_some hr1 (by rw [show ((decide (led1 < 0)) || ((Int.tmod card1 4) == (Int.tmod led1 4))) = false from hy ((decide (led1 < 0)) || ((Int.tmod card1 4) == (Int.tmod led1 4)), false) (by simp)]; try rfl)) hS (fun _ hS => (hr_hand1 _ (hS.dropN 0))) _hc_hand1 rfl)) <| obs_nil
  refine wpIn_ret ?_
  have hS := hS.pickN 1 [] (by decide)
  have hm : some (((decide (led1 < 0)) || ((Int.tmod card1 4) == (Int.tmod led1 4))) || (!r1)) = some r := hm
  obtain rfl := Option.some.inj hm
  exact retV (rs := [.tmp 6]) (vs := [.bool (((decide (led1 < 0)) || ((Int.tmod card1 4) == (Int.tmod led1 4))) || (!r1))]) hF rfl (rv_t (by kernel_rfl) <| rv_nil) rfl ⟨rfl, hS⟩

noncomputable def bridge_table_play_J4  (z1 : Int) (hand3 : List Int) : Option (St (List Int × Int) (List Int)) :=
  some (.next (hand3, (w64 (z1 + 1))))

noncomputable def bridge_table_play_J3  (d1 : List Int) (leader1 : Int) (l1 : List Int) (hand1 : List Int) (z1 : Int) : Option (St (List Int × Int) (List Int)) :=
  asrt (0 ≤ z1 ∧ z1 < 52) <| if ((geti d1 z1) == (Int.tmod (w64 (leader1 + (l1.length : Int))) 4)) then (asrt ((hand1.length : Int) + 1 ≤ bigN) <| (bridge_table_play_J4 z1) (hand1 ++ ([z1] : List Int))) else ((bridge_table_play_J4 z1) hand1)

noncomputable def bridge_table_play_J8  (z2 : Int) (t4 : List ((Int × Int) × Int)) (d5 : List Int) (top3 : Int) : Option (St (List ((Int × Int) × Int) × List Int × Int × Int) (Int × List ((Int × Int) × Int) × List Int)) :=
  some (.next (t4, d5, top3, (w64 (z2 + 1))))

noncomputable def bridge_table_play_J9  (rec_bridge_table_play : Int → List ((Int × Int) × Int) → List Int → Int → List Int → Option (Int × List ((Int × Int) × Int) × List Int)) (t_strain1 : Int) (leader1 : Int) (l1 : List Int) (hand2 : List Int) (t2 : List ((Int × Int) × Int)) (d3 : List Int) (top1 : Int) (z2 : Int) : Option (St (List ((Int × Int) × Int) × List Int × Int × Int) (Int × List ((Int × Int) × Int) × List Int)) :=
  asrt (0 ≤ (geti hand2 z2) ∧ (geti hand2 z2) < 52) <| asrt ((geti hand2 z2) < (d3.length : Int)) <| asrt ((l1.length : Int) + 1 ≤ bigN) <| (rec_bridge_table_play t_strain1 t2 (d3.set (Int.toNat (geti hand2 z2)) 4) leader1 (l1 ++ ([geti hand2 z2] : List Int))).bind fun r4 => asrt (0 ≤ (geti hand2 z2) ∧ (geti hand2 z2) < 52) <| asrt ((geti hand2 z2) < (r4.2.2.length : Int)) <| if (((decide (top1 < 0)) || (((bAnd (Int.tmod (w64 (leader1 + (l1.length : Int))) 4) 1) == 0) && (decide (top1 < r4.1)))) || (((bAnd (Int.tmod (w64 (leader1 + (l1.length : Int))) 4) 1) == 1) && (decide (r4.1 < top1)))) then ((bridge_table_play_J8 z2) r4.2.1 (r4.2.2.set (Int.toNat (geti hand2 z2)) (Int.tmod (w64 (leader1 + (l1.length : Int))) 4)) r4.1) else ((bridge_table_play_J8 z2) r4.2.1 (r4.2.2.set (Int.toNat (geti hand2 z2)) (Int.tmod (w64 (leader1 + (l1.length : Int))) 4)) top1)

noncomputable def bridge_table_play_J7  (rec_bridge_table_play : Int → List ((Int × Int) × Int) → List Int → Int → List Int → Option (Int × List ((Int × Int) × Int) × List Int)) (t_strain1 : Int) (leader1 : Int) (l1 : List Int) (hand2 : List Int) (led1 : Int) (t2 : List ((Int × Int) × Int)) (d3 : List Int) (top1 : Int) (z2 : Int) : Option (St (List ((Int × Int) × Int) × List Int × Int × Int) (Int × List ((Int × Int) × Int) × List Int)) :=
  asrt (0 ≤ z2 ∧ z2 < (hand2.length : Int)) <| (bridge_may_m hand2 led1 (geti hand2 z2)).bind fun r3 => if (!r3) then ((bridge_table_play_J8 z2) t2 d3 top1) else ((bridge_table_play_J9 rec_bridge_table_play t_strain1 leader1 l1 hand2 t2 d3 top1 z2))

noncomputable def bridge_table_play_L2  (rec_bridge_table_play : Int → List ((Int × Int) × Int) → List Int → Int → List Int → Option (Int × List ((Int × Int) × Int) × List Int)) (t_strain1 : Int) (leader1 : Int) (l1 : List Int) (hand2 : List Int) (led1 : Int) : (List ((Int × Int) × Int) × List Int × Int × Int) → Option (St (List ((Int × Int) × Int) × List Int × Int × Int) (Int × List ((Int × Int) × Int) × List Int)) :=
  fun (x : (List ((Int × Int) × Int) × List Int × Int × Int)) => match x with | (t2, d3, top1, z2) => if (decide (z2 < (hand2.length : Int))) then ((bridge_table_play_J7 rec_bridge_table_play t_strain1 leader1 l1 hand2 led1 t2 d3 top1 z2)) else (some (.done (top1, t2, d3)))

noncomputable def bridge_table_play_J6  (top2 : Int) (t3 : List ((Int × Int) × Int)) (d4 : List Int) : Option (Int × List ((Int × Int) × Int) × List Int) :=
  some (top2, t3, d4)

noncomputable def bridge_table_play_K2  : (Int × List ((Int × Int) × Int) × List Int) → Option (Int × List ((Int × Int) × Int) × List Int) :=
  fun (x : (Int × List ((Int × Int) × Int) × List Int)) => match x with | (top2, t3, d4) => bridge_table_play_J6 top2 t3 d4

noncomputable def bridge_table_play_J5  (rec_bridge_table_play : Int → List ((Int × Int) × Int) → List Int → Int → List Int → Option (Int × List ((Int × Int) × Int) × List Int)) (t_strain1 : Int) (t_known1 : List ((Int × Int) × Int)) (d1 : List Int) (leader1 : Int) (l1 : List Int) (hand2 : List Int) (led1 : Int) : Option (Int × List ((Int × Int) × Int) × List Int) :=
  (loop (bridge_table_play_L2 rec_bridge_table_play t_strain1 leader1 l1 hand2 led1) (t_known1, d1, (-1), 0)).bind bridge_table_play_K2

noncomputable def bridge_table_play_J2  (rec_bridge_table_play : Int → List ((Int × Int) × Int) → List Int → Int → List Int → Option (Int × List ((Int × Int) × Int) × List Int)) (t_strain1 : Int) (t_known1 : List ((Int × Int) × Int)) (d1 : List Int) (leader1 : Int) (l1 : List Int) (hand2 : List Int) : Option (Int × List ((Int × Int) × Int) × List Int) :=
  if (decide ((0 : Int) < (l1.length : Int))) then (asrt (0 ≤ (0 : Int) ∧ (0 : Int) < (l1.length : Int)) <| (bridge_table_play_J5 rec_bridge_table_play t_strain1 t_known1 d1 leader1 l1 hand2) (geti l1 0)) else ((bridge_table_play_J5 rec_bridge_table_play t_strain1 t_known1 d1 leader1 l1 hand2) (-1))

noncomputable def bridge_table_play_K1  (rec_bridge_table_play : Int → List ((Int × Int) × Int) → List Int → Int → List Int → Option (Int × List ((Int × Int) × Int) × List Int)) (t_strain1 : Int) (t_known1 : List ((Int × Int) × Int)) (d1 : List Int) (leader1 : Int) (l1 : List Int) : (List Int) → Option (Int × List ((Int × Int) × Int) × List Int) :=
  fun (x : (List Int)) => match x with | hand2 => (bridge_table_play_J2 rec_bridge_table_play t_strain1 t_known1 d1 leader1 l1) hand2

noncomputable def bridge_table_play_L1  (d1 : List Int) (leader1 : Int) (l1 : List Int) : (List Int × Int) → Option (St (List Int × Int) (List Int)) :=
  fun (x : (List Int × Int)) => match x with | (hand1, z1) => if (decide (z1 < 52)) then ((bridge_table_play_J3 d1 leader1 l1 hand1 z1)) else (some (.done hand1))

noncomputable def bridge_table_play_J1  (rec_bridge_table_play : Int → List ((Int × Int) × Int) → List Int → Int → List Int → Option (Int × List ((Int × Int) × Int) × List Int)) (t_strain1 : Int) (t_known1 : List ((Int × Int) × Int)) (d1 : List Int) (leader1 : Int) (l1 : List Int) : Option (Int × List ((Int × Int) × Int) × List Int) :=
  (loop (bridge_table_play_L1 d1 leader1 l1) (([] : List Int), 0)).bind (bridge_table_play_K1 rec_bridge_table_play t_strain1 t_known1 d1 leader1 l1)

noncomputable def bridge_table_play_B (rec_bridge_table_best : Int → List ((Int × Int) × Int) → List Int → Int → Option (Int × List ((Int × Int) × Int) × List Int)) (rec_bridge_table_play : Int → List ((Int × Int) × Int) → List Int → Int → List Int → Option (Int × List ((Int × Int) × Int) × List Int)) (t_strain1 : Int) (t_known1 : List ((Int × Int) × Int)) (d1 : List Int) (leader1 : Int) (l1 : List Int) : Option (Int × List ((Int × Int) × Int) × List Int) :=
  if ((l1.length : Int) == 4) then ((bridge_winner_m l1 t_strain1).bind fun r1 => (rec_bridge_table_best t_strain1 t_known1 d1 (Int.tmod (w64 (leader1 + r1)) 4)).bind fun r2 => some ((w64 ((w64 (1 - (bAnd (Int.tmod (w64 (leader1 + r1)) 4) 1))) + r2.1)), r2.2.1, r2.2.2)) else ((bridge_table_play_J1 rec_bridge_table_play t_strain1 t_known1 d1 leader1 l1))

noncomputable def bridge_table_play_mF (rec_bridge_table_best : Int → List ((Int × Int) × Int) → List Int → Int → Option (Int × List ((Int × Int) × Int) × List Int)) : Nat → Int → List ((Int × Int) × Int) → List Int → Int → List Int → Option (Int × List ((Int × Int) × Int) × List Int)
  | 0 => fun _ _ _ _ _ => none
  | n + 1 => fun t_strain1 t_known1 d1 leader1 l1 => bridge_table_play_B rec_bridge_table_best (bridge_table_play_mF rec_bridge_table_best n) t_strain1 t_known1 d1 leader1 l1

noncomputable def bridge_table_play_m (rec_bridge_table_best : Int → List ((Int × Int) × Int) → List Int → Int → Option (Int × List ((Int × Int) × Int) × List Int)) (t_strain1 : Int) (t_known1 : List ((Int × Int) × Int)) (d1 : List Int) (leader1 : Int) (l1 : List Int) : Option (Int × List ((Int × Int) × Int) × List Int) :=
  recM fun n => bridge_table_play_mF rec_bridge_table_best n t_strain1 t_known1 d1 leader1 l1

set_option maxRecDepth 100000 in
set_option maxHeartbeats 4000000 in
theorem bridge_table_play_wB {rec_bridge_table_best : Int → List ((Int × Int) × Int) → List Int → Int → Option (Int × List ((Int × Int) × Int) × List Int)} (ih_bridge_table_best : ∀ {g1 : Nat} {t_strain1 : Int} {g2 : Nat} {t_known1 : List ((Int × Int) × Int)} {g3 : Nat} {d1 : List Int} {leader1 : Int} {r : (Int × List ((Int × Int) × Int) × List Int)} {w0 w : World} {B : Nat} {fs : List HP} (_ : rec_bridge_table_best t_strain1 t_known1 d1 leader1 = some r) (_ : Sep w0 B w (blk g1 150 #[.int .i64 t_strain1, .map (some g2)] :: mapH kf198 (Value.int .i64) g2 t_known1 :: blk g3 147 (List.toArray (([] : List Value) ++ (arr1 (Value.int .i64) (0 : Int) 52 d1 ++ ([] : List Value)))) :: fs)), Calls Try.prog 113 #[.pointer (some ⟨g1, 0, none⟩), .pointer (some ⟨g3, 0, none⟩), .int .i64 leader1] w fun e w' => ∃ v, e = .returned v ∧ v = .int .i64 r.1 ∧ Sep w0 B w' (blk g1 150 #[.int .i64 t_strain1, .map (some g2)] :: mapH kf198 (Value.int .i64) g2 r.2.1 :: blk g3 147 (List.toArray (([] : List Value) ++ (arr1 (Value.int .i64) (0 : Int) 52 r.2.2 ++ ([] : List Value)))) :: fs)) {rec_bridge_table_play : Int → List ((Int × Int) × Int) → List Int → Int → List Int → Option (Int × List ((Int × Int) × Int) × List Int)} (ih_bridge_table_play : ∀ {g1 : Nat} {t_strain1 : Int} {g2 : Nat} {t_known1 : List ((Int × Int) × Int)} {g3 : Nat} {d1 : List Int} {leader1 : Int} {A1 : Option Addr} {c1 : Nat} {n1 : Nat} {l1 : List Int} {r : (Int × List ((Int × Int) × Int) × List Int)} {w0 w : World} {B : Nat} {fs : List HP} (_ : rec_bridge_table_play t_strain1 t_known1 d1 leader1 l1 = some r) (_ : Sep w0 B w (blk g1 150 #[.int .i64 t_strain1, .map (some g2)] :: mapH kf198 (Value.int .i64) g2 t_known1 :: blk g3 147 (List.toArray (([] : List Value) ++ (arr1 (Value.int .i64) (0 : Int) 52 d1 ++ ([] : List Value)))) :: fs)) (_hr_l1 : RdF w0 B fs A1 (vI l1)) (_hc_l1 : l1.length ≤ c1) (_hn_l1 : n1 = l1.length), Calls Try.prog 159 #[.pointer (some ⟨g1, 0, none⟩), .pointer (some ⟨g3, 0, none⟩), .int .i64 leader1, .slice A1 n1 c1] w fun e w' => ∃ v, e = .returned v ∧ v = .int .i64 r.1 ∧ Sep w0 B w' (blk g1 150 #[.int .i64 t_strain1, .map (some g2)] :: mapH kf198 (Value.int .i64) g2 r.2.1 :: blk g3 147 (List.toArray (([] : List Value) ++ (arr1 (Value.int .i64) (0 : Int) 52 r.2.2 ++ ([] : List Value)))) :: fs)) {g1 : Nat} {t_strain1 : Int} {g2 : Nat} {t_known1 : List ((Int × Int) × Int)} {g3 : Nat} {d1 : List Int} {leader1 : Int} {A1 : Option Addr} {c1 : Nat} {n1 : Nat} {l1 : List Int} {r : (Int × List ((Int × Int) × Int) × List Int)} {w0 w : World} {B : Nat} {fs : List HP} (hm : bridge_table_play_B rec_bridge_table_best rec_bridge_table_play t_strain1 t_known1 d1 leader1 l1 = some r) (hS : Sep w0 B w (blk g1 150 #[.int .i64 t_strain1, .map (some g2)] :: mapH kf198 (Value.int .i64) g2 t_known1 :: blk g3 147 (List.toArray (([] : List Value) ++ (arr1 (Value.int .i64) (0 : Int) 52 d1 ++ ([] : List Value)))) :: fs)) (hr_l1 : RdF w0 B fs A1 (vI l1)) (_hc_l1 : l1.length ≤ c1) (_hn_l1 : n1 = l1.length) :
    Calls Try.prog 159 #[.pointer (some ⟨g1, 0, none⟩), .pointer (some ⟨g3, 0, none⟩), .int .i64 leader1, .slice A1 n1 c1] w fun e w' => ∃ v, e = .returned v ∧ v = .int .i64 r.1 ∧ Sep w0 B w' (blk g1 150 #[.int .i64 t_strain1, .map (some g2)] :: mapH kf198 (Value.int .i64) g2 r.2.1 :: blk g3 147 (List.toArray (([] : List Value) ++ (arr1 (Value.int .i64) (0 : Int) 52 r.2.2 ++ ([] : List Value)))) :: fs) := by
  obtain ⟨i3, hi3, hz3, hs3, hb3⟩ := info_parts Info3
  obtain rfl := _hn_l1
  unfold bridge_table_play_B at hm
  replace hm := start_b hm
  refine enter (l := [.pointer (some ⟨g1, 0, none⟩), .pointer (some ⟨g3, 0, none⟩), .int .i64 leader1, .slice A1 l1.length c1]) (n := 123) Try.func159 rfl rfl (by simp) (fun a hF => ?_)
  refine reg [] [] [0, 1, 2, 3] [pl 0 (.pointer (some ⟨g1, 0, none⟩)), pl 1 (.pointer (some ⟨g3, 0, none⟩)), pl 2 (.int .i64 leader1), pl 3 (.slice A1 l1.length c1)] hF hS Fol (by kernel_rfl) (by kernel_rfl) (by kernel_rfl) ?_ (fun a w hF hS => ?_)
  · exact obs_nil
  refine seq_cut (fun a w => Fr 123 [pl 0 (.pointer (some ⟨g1, 0, none⟩)), pl 1 (.pointer (some ⟨g3, 0, none⟩)), pl 2 (.int .i64 leader1), pl 3 (.slice A1 l1.length c1)] a ∧ Sep w0 B w (blk g1 150 #[.int .i64 t_strain1, .map (some g2)] :: mapH kf198 (Value.int .i64) g2 t_known1 :: blk g3 147 (List.toArray (([] : List Value) ++ (arr1 (Value.int .i64) (0 : Int) 52 d1 ++ ([] : List Value)))) :: fs) ∧ ((bridge_table_play_J1 rec_bridge_table_play t_strain1 t_known1 d1 leader1 l1)).bind some = some r) ?_ ?_
  · rintro a w ⟨hF, hS, hm⟩
    unfold bridge_table_play_J1 at hm
    refine reg [] [] [0, 1, 2, 3, 10] [pl 0 (.pointer (some ⟨g1, 0, none⟩)), pl 1 (.pointer (some ⟨g3, 0, none⟩)), pl 2 (.int .i64 leader1), pl 3 (.slice A1 l1.length c1), pl 10 (.int .i64 (Int.tmod (w64 (leader1 + (l1.length : Int))) 4))] hF hS Fol (by kernel_rfl) (by kernel_rfl) (by kernel_rfl) ?_ (fun a w hF hS => ?_)
    · exact obs_nil
    refine reg [] [] [0, 1, 2, 3, 10, 11] [pl 0 (.pointer (some ⟨g1, 0, none⟩)), pl 1 (.pointer (some ⟨g3, 0, none⟩)), pl 2 (.int .i64 leader1), pl 3 (.slice A1 l1.length c1), pl 10 (.int .i64 (Int.tmod (w64 (leader1 + (l1.length : Int))) 4)), pl 11 (.slice none 0 0)] hF hS Fol (by kernel_rfl) (by kernel_rfl) (by kernel_rfl) ?_ (fun a w hF hS => ?_)
    · exact obs_nil
    refine seq_cut (fun a w => ∃ (hand2 : List Int) (A3 : Option Addr) (c3 : Nat), Fr 123 [pl 0 (.pointer (some ⟨g1, 0, none⟩)), pl 1 (.pointer (some ⟨g3, 0, none⟩)), pl 2 (.int .i64 leader1), pl 3 (.slice A1 l1.length c1), pl 10 (.int .i64 (Int.tmod (w64 (leader1 + (l1.length : Int))) 4)), pl 11 (.slice A3 hand2.length c3)] a ∧ Sep w0 B w (blk g1 150 #[.int .i64 t_strain1, .map (some g2)] :: mapH kf198 (Value.int .i64) g2 t_known1 :: blk g3 147 (List.toArray (([] : List Value) ++ (arr1 (Value.int .i64) (0 : Int) 52 d1 ++ ([] : List Value)))) :: own 3 (.slice A3 hand2.length c3) (vI hand2) :: fs) ∧ ((bridge_table_play_J2 rec_bridge_table_play t_strain1 t_known1 d1 leader1 l1) hand2).bind some = some r) ?_ ?_
    · rintro a w ⟨hand2, A3, c3, hF, hS, hm⟩
      unfold bridge_table_play_J2 at hm
      refine reg [] [] [0, 1, 2, 3, 10, 11, 14] [pl 0 (.pointer (some ⟨g1, 0, none⟩)), pl 1 (.pointer (some ⟨g3, 0, none⟩)), pl 2 (.int .i64 leader1), pl 3 (.slice A1 l1.length c1), pl 10 (.int .i64 (Int.tmod (w64 (leader1 + (l1.length : Int))) 4)), pl 11 (.slice A3 hand2.length c3), pl 14 (.int .i64 (-1))] hF hS Fol (by kernel_rfl) (by kernel_rfl) (by kernel_rfl) ?_ (fun a w hF hS => ?_)
      · exact obs_nil
      refine seq_cut (fun a w => ∃ (led1 : Int), Fr 123 [pl 0 (.pointer (some ⟨g1, 0, none⟩)), pl 1 (.pointer (some ⟨g3, 0, none⟩)), pl 2 (.int .i64 leader1), pl 3 (.slice A1 l1.length c1), pl 10 (.int .i64 (Int.tmod (w64 (leader1 + (l1.length : Int))) 4)), pl 11 (.slice A3 hand2.length c3), pl 14 (.int .i64 led1)] a ∧ Sep w0 B w (blk g1 150 #[.int .i64 t_strain1, .map (some g2)] :: mapH kf198 (Value.int .i64) g2 t_known1 :: blk g3 147 (List.toArray (([] : List Value) ++ (arr1 (Value.int .i64) (0 : Int) 52 d1 ++ ([] : List Value)))) :: own 3 (.slice A3 hand2.length c3) (vI hand2) :: fs) ∧ ((bridge_table_play_J5 rec_bridge_table_play t_strain1 t_known1 d1 leader1 l1 hand2) led1).bind some = some r) ?_ ?_
      · rintro a w ⟨led1, hF, hS, hm⟩
        unfold bridge_table_play_J5 at hm
        refine reg [] [] [0, 1, 2, 3, 10, 11, 14, 15] [pl 0 (.pointer (some ⟨g1, 0, none⟩)), pl 1 (.pointer (some ⟨g3, 0, none⟩)), pl 2 (.int .i64 leader1), pl 3 (.slice A1 l1.length c1), pl 10 (.int .i64 (Int.tmod (w64 (leader1 + (l1.length : Int))) 4)), pl 11 (.slice A3 hand2.length c3), pl 14 (.int .i64 led1), pl 15 (.int .i64 (-1))] hF hS Fol (by kernel_rfl) (by kernel_rfl) (by kernel_rfl) ?_ (fun a w hF hS => ?_)
        · exact obs_nil
        refine seq_cut (fun a w => ∃ (top2 : Int) (t3 : List ((Int × Int) × Int)) (d4 : List Int), Fr 123 [pl 15 (.int .i64 top2)] a ∧ Sep w0 B w (blk g1 150 #[.int .i64 t_strain1, .map (some g2)] :: mapH kf198 (Value.int .i64) g2 t3 :: blk g3 147 (List.toArray (([] : List Value) ++ (arr1 (Value.int .i64) (0 : Int) 52 d4 ++ ([] : List Value)))) :: fs) ∧ (bridge_table_play_J6 top2 t3 d4).bind some = some r) ?_ ?_
        · rintro a w ⟨top2, t3, d4, hF, hS, hm⟩
          unfold bridge_table_play_J6 at hm
          refine reg [] [] [8] [pl 8 (.int .i64 top2)] hF hS Fol (by kernel_rfl) (by kernel_rfl) (by kernel_rfl) ?_ (fun a w hF hS => ?_)
          · exact obs_nil
          refine wpIn_ret ?_
          have hm : some (top2, t3, d4) = some r := hm
          obtain rfl := Option.some.inj hm
          exact retV (rs := [.tmp 8]) (vs := [.int .i64 top2]) hF rfl (rv_t (by kernel_rfl) <| rv_nil) rfl ⟨_, rfl, rfl, hS⟩
        · refine reg [] [] [0, 1, 2, 3, 10, 11, 14, 15, 65, 66, 67] [pl 0 (.pointer (some ⟨g1, 0, none⟩)), pl 1 (.pointer (some ⟨g3, 0, none⟩)), pl 2 (.int .i64 leader1), pl 3 (.slice A1 l1.length c1), pl 10 (.int .i64 (Int.tmod (w64 (leader1 + (l1.length : Int))) 4)), pl 11 (.slice A3 hand2.length c3), pl 14 (.int .i64 led1), pl 15 (.int .i64 (-1)), pl 65 (.slice A3 hand2.length c3), pl 66 (.int .i64 (hand2.length : Int)), pl 67 (.int .i64 0)] hF hS Fol (by kernel_rfl) (by kernel_rfl) (by kernel_rfl) ?_ (fun a w hF hS => ?_)
          · exact obs_nil
          refine wpIn_block ?_
          refine wp_loop_model (S := (List ((Int × Int) × Int) × List Int × Int × Int)) (R := (Int × List ((Int × Int) × Int) × List Int)) (bridge_table_play_L2 rec_bridge_table_play t_strain1 leader1 l1 hand2 led1) (fun x => (bridge_table_play_K2 x).bind some) r (fun (x : (List ((Int × Int) × Int) × List Int × Int × Int)) a w => Fr 123 [pl 0 (.pointer (some ⟨g1, 0, none⟩)), pl 1 (.pointer (some ⟨g3, 0, none⟩)), pl 2 (.int .i64 leader1), pl 3 (.slice A1 l1.length c1), pl 10 (.int .i64 (Int.tmod (w64 (leader1 + (l1.length : Int))) 4)), pl 11 (.slice A3 hand2.length c3), pl 14 (.int .i64 led1), pl 15 (.int .i64 x.2.2.1), pl 65 (.slice A3 hand2.length c3), pl 66 (.int .i64 (hand2.length : Int)), pl 67 (.int .i64 x.2.2.2)] a ∧ Sep w0 B w (blk g1 150 #[.int .i64 t_strain1, .map (some g2)] :: mapH kf198 (Value.int .i64) g2 x.1 :: blk g3 147 (List.toArray (([] : List Value) ++ (arr1 (Value.int .i64) (0 : Int) 52 x.2.1 ++ ([] : List Value)))) :: own 3 (.slice A3 hand2.length c3) (vI hand2) :: fs)) (assoc_b hm) ⟨hF.weak [0, 1, 2, 3, 10, 11, 14, 15, 65, 66, 67] (by kernel_rfl), hS⟩ ?_
          clear hF hS hm
          rintro nn2 ⟨t2, d3, top1, z2⟩ a w ⟨hF, hS⟩ hm
          generalize hφ2 : stK (bridge_table_play_L2 rec_bridge_table_play t_strain1 leader1 l1 hand2 led1) nn2 (fun x => (bridge_table_play_K2 x).bind some) = φ2 at hm
          unfold bridge_table_play_L2 at hm
          dsimp only at hF hS hm
          refine reg [] [] [0, 1, 2, 3, 10, 11, 14, 15, 65, 66, 67, 68] [pl 0 (.pointer (some ⟨g1, 0, none⟩)), pl 1 (.pointer (some ⟨g3, 0, none⟩)), pl 2 (.int .i64 leader1), pl 3 (.slice A1 l1.length c1), pl 10 (.int .i64 (Int.tmod (w64 (leader1 + (l1.length : Int))) 4)), pl 11 (.slice A3 hand2.length c3), pl 14 (.int .i64 led1), pl 15 (.int .i64 top1), pl 65 (.slice A3 hand2.length c3), pl 66 (.int .i64 (hand2.length : Int)), pl 67 (.int .i64 z2), pl 68 (.bool (decide (z2 < (hand2.length : Int))))] hF hS Fol (by kernel_rfl) (by kernel_rfl) (by kernel_rfl) ?_ (fun a w hF hS => ?_)
          · exact obs_nil
          refine seq_cut (fun a w => Fr 123 [pl 0 (.pointer (some ⟨g1, 0, none⟩)), pl 1 (.pointer (some ⟨g3, 0, none⟩)), pl 2 (.int .i64 leader1), pl 3 (.slice A1 l1.length c1), pl 10 (.int .i64 (Int.tmod (w64 (leader1 + (l1.length : Int))) 4)), pl 11 (.slice A3 hand2.length c3), pl 14 (.int .i64 led1), pl 15 (.int .i64 top1), pl 65 (.slice A3 hand2.length c3), pl 66 (.int .i64 (hand2.length : Int)), pl 67 (.int .i64 z2)] a ∧ Sep w0 B w (blk g1 150 #[.int .i64 t_strain1, .map (some g2)] :: mapH kf198 (Value.int .i64) g2 t2 :: blk g3 147 (List.toArray (([] : List Value) ++ (arr1 (Value.int .i64) (0 : Int) 52 d3 ++ ([] : List Value)))) :: own 3 (.slice A3 hand2.length c3) (vI hand2) :: fs) ∧ ((bridge_table_play_J7 rec_bridge_table_play t_strain1 leader1 l1 hand2 led1 t2 d3 top1 z2)).bind φ2 = some r) ?_ ?_
          · rintro a w ⟨hF, hS, hm⟩
            unfold bridge_table_play_J7 at hm
            refine seq_cut (fun a w => ∃ (t4 : List ((Int × Int) × Int)) (d5 : List Int) (top3 : Int), Fr 123 [pl 0 (.pointer (some ⟨g1, 0, none⟩)), pl 1 (.pointer (some ⟨g3, 0, none⟩)), pl 2 (.int .i64 leader1), pl 3 (.slice A1 l1.length c1), pl 10 (.int .i64 (Int.tmod (w64 (leader1 + (l1.length : Int))) 4)), pl 11 (.slice A3 hand2.length c3), pl 14 (.int .i64 led1), pl 15 (.int .i64 top3), pl 65 (.slice A3 hand2.length c3), pl 66 (.int .i64 (hand2.length : Int)), pl 67 (.int .i64 z2)] a ∧ Sep w0 B w (blk g1 150 #[.int .i64 t_strain1, .map (some g2)] :: mapH kf198 (Value.int .i64) g2 t4 :: blk g3 147 (List.toArray (([] : List Value) ++ (arr1 (Value.int .i64) (0 : Int) 52 d5 ++ ([] : List Value)))) :: own 3 (.slice A3 hand2.length c3) (vI hand2) :: fs) ∧ ((bridge_table_play_J8 z2) t4 d5 top3).bind φ2 = some r) ?_ ?_
            · rintro a w ⟨t4, d5, top3, hF, hS, hm⟩
              unfold bridge_table_play_J8 at hm
              refine reg1 [] [] [0, 1, 2, 3, 10, 11, 14, 15, 65, 66, 67] [pl 0 (.pointer (some ⟨g1, 0, none⟩)), pl 1 (.pointer (some ⟨g3, 0, none⟩)), pl 2 (.int .i64 leader1), pl 3 (.slice A1 l1.length c1), pl 10 (.int .i64 (Int.tmod (w64 (leader1 + (l1.length : Int))) 4)), pl 11 (.slice A3 hand2.length c3), pl 14 (.int .i64 led1), pl 15 (.int .i64 top3), pl 65 (.slice A3 hand2.length c3), pl 66 (.int .i64 (hand2.length : Int)), pl 67 (.int .i64 (w64 (z2 + 1)))] hF hS Fol (by kernel_rfl) (by kernel_rfl) (by kernel_rfl) ?_ (fun a w hF hS => ?_)
              · exact obs_nil
              refine then_n ?_
              rw [← hφ2] at hm
              exact ⟨(t4, d5, top3, (w64 (z2 + 1))), ⟨hF.weak [0, 1, 2, 3, 10, 11, 14, 15, 65, 66, 67] (by kernel_rfl), hS⟩, hm⟩
            · refine wpIn_block ?_
              obtain ⟨hp4, hm⟩ := asrt_b hm
              refine reg [⟨true, [], vS (Instr.indexAt 34 (.slice A3 hand2.length c3) (.int .i64 z2)), .pointer (some (sAddr A3 z2))⟩, ⟨false, [], vS (Instr.loadAt 3 (.pointer (some (sAddr A3 z2)))), .int .i64 (geti hand2 z2)⟩] [some (.pointer (some (sAddr A3 z2))), some (.int .i64 (geti hand2 z2)), none] [0, 1, 2, 3, 10, 11, 14, 15, 17, 65, 66, 67] [pl 0 (.pointer (some ⟨g1, 0, none⟩)), pl 1 (.pointer (some ⟨g3, 0, none⟩)), pl 2 (.int .i64 leader1), pl 3 (.slice A1 l1.length c1), pl 10 (.int .i64 (Int.tmod (w64 (leader1 + (l1.length : Int))) 4)), pl 11 (.slice A3 hand2.length c3), pl 14 (.int .i64 led1), pl 15 (.int .i64 top1), pl 17 (.int .i64 (geti hand2 z2)), pl 65 (.slice A3 hand2.length c3), pl 66 (.int .i64 (hand2.length : Int)), pl 67 (.int .i64 z2)] hF hS Fol (by kernel_rfl) (by kernel_rfl) (by kernel_rfl) ?_ (fun a w hF hS => ?_)
              · exact obs_cons (ob_ix1 (f := (Value.int .i64)) (m := hand2) Und34 hi3 hs3 (hS.at_ 3 rfl).rd rfl (fun _ => hp4)) <| obs_cons (ob_get1 (n := hand2.length) (m := hand2) (Value.int .i64) (0 : Int) Agg3 (fun _ hS => ⟨_, (hS.at_ 3 rfl).rd⟩) (fun _ hS => rfl) (fun _ => hp4)) <| obs_nil
              refine seq_cut (fun a w => Fr 123 [pl 0 (.pointer (some ⟨g1, 0, none⟩)), pl 1 (.pointer (some ⟨g3, 0, none⟩)), pl 2 (.int .i64 leader1), pl 3 (.slice A1 l1.length c1), pl 10 (.int .i64 (Int.tmod (w64 (leader1 + (l1.length : Int))) 4)), pl 11 (.slice A3 hand2.length c3), pl 14 (.int .i64 led1), pl 15 (.int .i64 top1), pl 17 (.int .i64 (geti hand2 z2)), pl 65 (.slice A3 hand2.length c3), pl 66 (.int .i64 (hand2.length : Int)), pl 67 (.int .i64 z2)] a ∧ Sep w0 B w (blk g1 150 #[.int .i64 t_strain1, .map (some g2)] :: mapH kf198 (Value.int .i64) g2 t2 :: blk g3 147 (List.toArray (([] : List Value) ++ (arr1 (Value.int .i64) (0 : Int) 52 d3 ++ ([] : List Value)))) :: own 3 (.slice A3 hand2.length c3) (vI hand2) :: fs) ∧ ((bridge_table_play_J9 rec_bridge_table_play t_strain1 leader1 l1 hand2 t2 d3 top1 z2)).bind φ2 = some r) ?_ ?_
              · rintro a w ⟨hF, hS, hm⟩
                unfold bridge_table_play_J9 at hm
                refine seqR ?_
                obtain ⟨hp5, hm⟩ := asrt_b hm
                obtain ⟨hp6, hm⟩ := asrt_b hm
                refine at_run 4 [⟨true, [], vS (Instr.indexAt 147 (.pointer (some ⟨g3, 0, none⟩)) (.int .i64 (geti hand2 z2))), .pointer (some ((⟨g3, 0, none⟩ : Addr).add (Int.toNat (geti hand2 z2) * 1)))⟩] [none, none, none, some (.pointer (some ((⟨g3, 0, none⟩ : Addr).add (Int.toNat (geti hand2 z2) * 1))))] [0, 1, 2, 3, 10, 11, 14, 15, 17, 65, 66, 67, 79] [pl 0 (.pointer (some ⟨g1, 0, none⟩)), pl 1 (.pointer (some ⟨g3, 0, none⟩)), pl 2 (.int .i64 leader1), pl 3 (.slice A1 l1.length c1), pl 10 (.int .i64 (Int.tmod (w64 (leader1 + (l1.length : Int))) 4)), pl 11 (.slice A3 hand2.length c3), pl 14 (.int .i64 led1), pl 15 (.int .i64 top1), pl 17 (.int .i64 (geti hand2 z2)), pl 65 (.slice A3 hand2.length c3), pl 66 (.int .i64 (hand2.length : Int)), pl 67 (.int .i64 z2), pl 79 (.pointer (some ((⟨g3, 0, none⟩ : Addr).add (Int.toNat (geti hand2 z2) * 1))))] hF hS (by kernel_rfl) (by kernel_rfl) ?_ (fun a w hF hS => ?_)
                · exact obs_cons (ob_ixA UndA147 hi3 hs3 (fun _ => hp5)) <| obs_nil
                obtain ⟨w, hrun, hS⟩ := run_setA (P := Try.prog) (t := 3) (x := 4) (i := (geti hand2 z2)) (m := d3) (d := Int.toNat (geti hand2 z2) * 1) (Value.int .i64) (0 : Int) 52 ([] : List Value) ([] : List Value) (hS.at_ 2 rfl) rfl hi3 hs3 rfl (by have h0 := hp5; omega) (by have h0 := hp5; have h9 := hp6; omega)
                refine at_skip hF (by kernel_rfl) hrun ?_
                have hS : Sep w0 B w (blk g1 150 #[.int .i64 t_strain1, .map (some g2)] :: mapH kf198 (Value.int .i64) g2 t2 :: blk g3 147 (List.toArray (([] : List Value) ++ (arr1 (Value.int .i64) (0 : Int) 52 (d3.set (Int.toNat (geti hand2 z2)) 4) ++ ([] : List Value)))) :: own 3 (.slice A3 hand2.length c3) (vI hand2) :: fs) := hS
                refine at_end [0, 1, 2, 3, 10, 11, 14, 15, 17, 65, 66, 67] [pl 0 (.pointer (some ⟨g1, 0, none⟩)), pl 1 (.pointer (some ⟨g3, 0, none⟩)), pl 2 (.int .i64 leader1), pl 3 (.slice A1 l1.length c1), pl 10 (.int .i64 (Int.tmod (w64 (leader1 + (l1.length : Int))) 4)), pl 11 (.slice A3 hand2.length c3), pl 14 (.int .i64 led1), pl 15 (.int .i64 top1), pl 17 (.int .i64 (geti hand2 z2)), pl 65 (.slice A3 hand2.length c3), pl 66 (.int .i64 (hand2.length : Int)), pl 67 (.int .i64 z2)] hF rfl (by kernel_rfl) (fun hF => ?_)
                refine then_n ?_
                refine seqR ?_
                obtain ⟨hp7, hm⟩ := asrt_b hm
                obtain ⟨r4, hr4, hm⟩ := call_b hm
                refine at_run 10 [⟨true, [], vS (Instr.sliceAt 34 (.slice A1 l1.length c1) none (some (.int .i64 (l1.length : Int))) (some (.int .i64 (l1.length : Int)))), .slice A1 l1.length l1.length⟩] [none, none, none, none, none, none, none, none, some (.slice A1 l1.length l1.length), none] [0, 1, 2, 3, 10, 11, 14, 15, 17, 65, 66, 67, 80, 81, 82, 88, 89] [pl 0 (.pointer (some ⟨g1, 0, none⟩)), pl 1 (.pointer (some ⟨g3, 0, none⟩)), pl 2 (.int .i64 leader1), pl 3 (.slice A1 l1.length c1), pl 10 (.int .i64 (Int.tmod (w64 (leader1 + (l1.length : Int))) 4)), pl 11 (.slice A3 hand2.length c3), pl 14 (.int .i64 led1), pl 15 (.int .i64 top1), pl 17 (.int .i64 (geti hand2 z2)), pl 65 (.slice A3 hand2.length c3), pl 66 (.int .i64 (hand2.length : Int)), pl 67 (.int .i64 z2), pl 80 (.pointer (some ⟨g1, 0, none⟩)), pl 81 (.pointer (some ⟨g3, 0, none⟩)), pl 82 (.int .i64 leader1), pl 88 (.slice A1 l1.length l1.length), pl 89 (.int .i64 (geti hand2 z2))] hF hS (by kernel_rfl) (by kernel_rfl) ?_ (fun a w hF hS => ?_)
                · exact obs_cons (ob_full (k := .i64) (k' := .i64) Und34 hi3 hs3 (_hc_l1)) <| obs_nil
                refine at_do (d := 90) (s := vS (Instr.buildSlice 34 1 #[(0, .int .i64 (geti hand2 z2))])) (v := .slice (some ⟨w.heap.size, 0, none⟩) 1 1) (w' := w.alloc (.cells #[.int .i64 (geti hand2 z2)] 3)) hF (by kernel_rfl) (by kernel_rfl) (by kernel_rfl) (fun a hF => ?_)
                have hS : Sep w0 B (w.alloc (.cells #[.int .i64 (geti hand2 z2)] 3)) (own 3 (.slice (some (⟨w.heap.size, 0, none⟩ : Addr)) 1 1) (vI ([geti hand2 z2] : List Int)) :: (blk g1 150 #[.int .i64 t_strain1, .map (some g2)] :: mapH kf198 (Value.int .i64) g2 t2 :: blk g3 147 (List.toArray (([] : List Value) ++ (arr1 (Value.int .i64) (0 : Int) 52 (d3.set (Int.toNat (geti hand2 z2)) 4) ++ ([] : List Value)))) :: own 3 (.slice A3 hand2.length c3) (vI hand2) :: fs)) := hS.lit 3 #[.int .i64 (geti hand2 z2)] 1 rfl (by omega)
                generalize (some (⟨w.heap.size, 0, none⟩ : Addr)) = g5 at hF hS
                generalize w.alloc (.cells #[.int .i64 (geti hand2 z2)] 3) = w at hS ⊢
                obtain ⟨A6, c6, w, hrun, hS⟩ := run_appFull (P := Try.prog) (t := 34) (m := l1) (ys := ([geti hand2 z2] : List Int)) (A := A1) (n := l1.length) (c := l1.length) (A2 := g5) (m2 := 1) (c2 := 1) (Value.int .i64) (0 : Int) hS (hr_l1 _ (hS.dropN 5)) rfl rfl (hS.at_ 0 rfl).rd ((hS.at_ 0 rfl).len1) (by simp) 34 Und34 hi3 hz3 hs3 hb3 rfl hp7
                have hS : Sep w0 B w (own 3 (.slice A6 ((l1 ++ ([geti hand2 z2] : List Int)).length) c6) (vI (l1 ++ ([geti hand2 z2] : List Int))) :: own 3 (.slice g5 1 1) (vI ([geti hand2 z2] : List Int)) :: blk g1 150 #[.int .i64 t_strain1, .map (some g2)] :: mapH kf198 (Value.int .i64) g2 t2 :: blk g3 147 (List.toArray (([] : List Value) ++ (arr1 (Value.int .i64) (0 : Int) 52 (d3.set (Int.toNat (geti hand2 z2)) 4) ++ ([] : List Value)))) :: own 3 (.slice A3 hand2.length c3) (vI hand2) :: fs) := hS
                refine at_do (d := 91) hF (by kernel_rfl) (by kernel_rfl) hrun (fun a hF => ?_)
                have hS : Sep w0 B w (blk g1 150 #[.int .i64 t_strain1, .map (some g2)] :: mapH kf198 (Value.int .i64) g2 t2 :: blk g3 147 (List.toArray (([] : List Value) ++ (arr1 (Value.int .i64) (0 : Int) 52 (d3.set (Int.toNat (geti hand2 z2)) 4) ++ ([] : List Value)))) :: own 3 (.slice A6 ((l1 ++ ([geti hand2 z2] : List Int)).length) c6) (vI (l1 ++ ([geti hand2 z2] : List Int))) :: own 3 (.slice g5 1 1) (vI ([geti hand2 z2] : List Int)) :: own 3 (.slice A3 hand2.length c3) (vI hand2) :: fs) := hS.pickN 6 [2, 3, 4, 0, 1, 5] (by decide)
                refine at_call (f := 159) (args := #[.pointer (some ⟨g1, 0, none⟩), .pointer (some ⟨g3, 0, none⟩), .int .i64 leader1, .slice A6 ((l1 ++ ([geti hand2 z2] : List Int)).length) c6]) (d := 92) hF (by kernel_rfl) (by kernel_rfl) Try.func159 (by kernel_rfl) rfl (ih_bridge_table_play hr4 hS (fun _ hS => (hS.at_ 0 rfl).rd) (((hS.dropN 3).at_ 0 rfl).cap1) rfl) (fun v a w hR hF => ?_)
                clear hS
                obtain ⟨rfl, hS⟩ := hR
                have hS : Sep w0 B w (blk g1 150 #[.int .i64 t_strain1, .map (some g2)] :: mapH kf198 (Value.int .i64) g2 r4.2.1 :: blk g3 147 (List.toArray (([] : List Value) ++ (arr1 (Value.int .i64) (0 : Int) 52 r4.2.2 ++ ([] : List Value)))) :: own 3 (.slice A6 ((l1 ++ ([geti hand2 z2] : List Int)).length) c6) (vI (l1 ++ ([geti hand2 z2] : List Int))) :: own 3 (.slice g5 1 1) (vI ([geti hand2 z2] : List Int)) :: own 3 (.slice A3 hand2.length c3) (vI hand2) :: fs) := hS
                refine at_run 1 [] [] [0, 1, 2, 3, 10, 11, 14, 15, 17, 18, 65, 66, 67] [pl 0 (.pointer (some ⟨g1, 0, none⟩)), pl 1 (.pointer (some ⟨g3, 0, none⟩)), pl 2 (.int .i64 leader1), pl 3 (.slice A1 l1.length c1), pl 10 (.int .i64 (Int.tmod (w64 (leader1 + (l1.length : Int))) 4)), pl 11 (.slice A3 hand2.length c3), pl 14 (.int .i64 led1), pl 15 (.int .i64 top1), pl 17 (.int .i64 (geti hand2 z2)), pl 18 (.int .i64 r4.1), pl 65 (.slice A3 hand2.length c3), pl 66 (.int .i64 (hand2.length : Int)), pl 67 (.int .i64 z2)] hF hS (by kernel_rfl) (by kernel_rfl) ?_ (fun a w hF hS => ?_)
                · exact obs_nil
                refine at_end [0, 1, 2, 3, 10, 11, 14, 15, 17, 18, 65, 66, 67] [pl 0 (.pointer (some ⟨g1, 0, none⟩)), pl 1 (.pointer (some ⟨g3, 0, none⟩)), pl 2 (.int .i64 leader1), pl 3 (.slice A1 l1.length c1), pl 10 (.int .i64 (Int.tmod (w64 (leader1 + (l1.length : Int))) 4)), pl 11 (.slice A3 hand2.length c3), pl 14 (.int .i64 led1), pl 15 (.int .i64 top1), pl 17 (.int .i64 (geti hand2 z2)), pl 18 (.int .i64 r4.1), pl 65 (.slice A3 hand2.length c3), pl 66 (.int .i64 (hand2.length : Int)), pl 67 (.int .i64 z2)] hF rfl (by kernel_rfl) (fun hF => ?_)
                refine then_n ?_
                refine seqR ?_
                obtain ⟨hp8, hm⟩ := asrt_b hm
                obtain ⟨hp9, hm⟩ := asrt_b hm
                refine at_run 5 [⟨true, [], vS (Instr.indexAt 147 (.pointer (some ⟨g3, 0, none⟩)) (.int .i64 (geti hand2 z2))), .pointer (some ((⟨g3, 0, none⟩ : Addr).add (Int.toNat (geti hand2 z2) * 1)))⟩] [none, none, none, none, some (.pointer (some ((⟨g3, 0, none⟩ : Addr).add (Int.toNat (geti hand2 z2) * 1))))] [0, 1, 2, 3, 10, 11, 14, 15, 18, 65, 66, 67, 95, 97] [pl 0 (.pointer (some ⟨g1, 0, none⟩)), pl 1 (.pointer (some ⟨g3, 0, none⟩)), pl 2 (.int .i64 leader1), pl 3 (.slice A1 l1.length c1), pl 10 (.int .i64 (Int.tmod (w64 (leader1 + (l1.length : Int))) 4)), pl 11 (.slice A3 hand2.length c3), pl 14 (.int .i64 led1), pl 15 (.int .i64 top1), pl 18 (.int .i64 r4.1), pl 65 (.slice A3 hand2.length c3), pl 66 (.int .i64 (hand2.length : Int)), pl 67 (.int .i64 z2), pl 95 (.int .i64 (Int.tmod (w64 (leader1 + (l1.length : Int))) 4)), pl 97 (.pointer (some ((⟨g3, 0, none⟩ : Addr).add (Int.toNat (geti hand2 z2) * 1))))] hF hS (by kernel_rfl) (by kernel_rfl) ?_ (fun a w hF hS => ?_)
                · exact obs_cons (ob_ixA UndA147 hi3 hs3 (fun _ => hp8)) <| obs_nil
                obtain ⟨w, hrun, hS⟩ := run_setA (P := Try.prog) (t := 3) (x := (Int.tmod (w64 (leader1 + (l1.length : Int))) 4)) (i := (geti hand2 z2)) (m := r4.2.2) (d := Int.toNat (geti hand2 z2) * 1) (Value.int .i64) (0 : Int) 52 ([] : List Value) ([] : List Value) (hS.at_ 2 rfl) rfl hi3 hs3 rfl (by have h0 := hp8; omega) (by have h0 := hp8; have h9 := hp9; omega)
                refine at_skip hF (by kernel_rfl) hrun ?_
                have hS : Sep w0 B w (blk g1 150 #[.int .i64 t_strain1, .map (some g2)] :: mapH kf198 (Value.int .i64) g2 r4.2.1 :: blk g3 147 (List.toArray (([] : List Value) ++ (arr1 (Value.int .i64) (0 : Int) 52 (r4.2.2.set (Int.toNat (geti hand2 z2)) (Int.tmod (w64 (leader1 + (l1.length : Int))) 4)) ++ ([] : List Value)))) :: own 3 (.slice A6 ((l1 ++ ([geti hand2 z2] : List Int)).length) c6) (vI (l1 ++ ([geti hand2 z2] : List Int))) :: own 3 (.slice g5 1 1) (vI ([geti hand2 z2] : List Int)) :: own 3 (.slice A3 hand2.length c3) (vI hand2) :: fs) := hS
                refine at_end [0, 1, 2, 3, 10, 11, 14, 15, 18, 65, 66, 67] [pl 0 (.pointer (some ⟨g1, 0, none⟩)), pl 1 (.pointer (some ⟨g3, 0, none⟩)), pl 2 (.int .i64 leader1), pl 3 (.slice A1 l1.length c1), pl 10 (.int .i64 (Int.tmod (w64 (leader1 + (l1.length : Int))) 4)), pl 11 (.slice A3 hand2.length c3), pl 14 (.int .i64 led1), pl 15 (.int .i64 top1), pl 18 (.int .i64 r4.1), pl 65 (.slice A3 hand2.length c3), pl 66 (.int .i64 (hand2.length : Int)), pl 67 (.int .i64 z2)] hF rfl (by kernel_rfl) (fun hF => ?_)
                refine then_n ?_
                refine reg [] [] [0, 1, 2, 3, 10, 11, 14, 15, 18, 65, 66, 67, 119] [pl 0 (.pointer (some ⟨g1, 0, none⟩)), pl 1 (.pointer (some ⟨g3, 0, none⟩)), pl 2 (.int .i64 leader1), pl 3 (.slice A1 l1.length c1), pl 10 (.int .i64 (Int.tmod (w64 (leader1 + (l1.length : Int))) 4)), pl 11 (.slice A3 hand2.length c3), pl 14 (.int .i64 led1), pl 15 (.int .i64 top1), pl 18 (.int .i64 r4.1), pl 65 (.slice A3 hand2.length c3), pl 66 (.int .i64 (hand2.length : Int)), pl 67 (.int .i64 z2), pl 119 (.bool (((decide (top1 < 0)) || (((bAnd (Int.tmod (w64 (leader1 + (l1.length : Int))) 4) 1) == 0) && (decide (top1 < r4.1)))) || (((bAnd (Int.tmod (w64 (leader1 + (l1.length : Int))) 4) 1) == 1) && (decide (r4.1 < top1)))))] hF hS Fol (by kernel_rfl) (by kernel_rfl) (by kernel_rfl) ?_ (fun a w hF hS => ?_)
                · exact obs_nil
                refine cond_ev (t := 119) (b := ((decide (top1 < 0)) || (((bAnd (Int.tmod (w64 (leader1 + (l1.length : Int))) 4) 1) == 0) && (decide (top1 < r4.1)))) || (((bAnd (Int.tmod (w64 (leader1 + (l1.length : Int))) 4) 1) == 1) && (decide (r4.1 < top1)))) hF (by kernel_rfl) (fun hb => ?_) (fun hb => ?_)
                · replace hm := if_t hm hb
                  refine reg1 [] [] [0, 1, 2, 3, 10, 11, 14, 15, 65, 66, 67] [pl 0 (.pointer (some ⟨g1, 0, none⟩)), pl 1 (.pointer (some ⟨g3, 0, none⟩)), pl 2 (.int .i64 leader1), pl 3 (.slice A1 l1.length c1), pl 10 (.int .i64 (Int.tmod (w64 (leader1 + (l1.length : Int))) 4)), pl 11 (.slice A3 hand2.length c3), pl 14 (.int .i64 led1), pl 15 (.int .i64 r4.1), pl 65 (.slice A3 hand2.length c3), pl 66 (.int .i64 (hand2.length : Int)), pl 67 (.int .i64 z2)] hF hS Fol (by kernel_rfl) (by kernel_rfl) (by kernel_rfl) ?_ (fun a w hF hS => ?_)
                  · exact obs_nil
                  refine block_n ?_
                  refine then_n ?_
                  have hS := hS.pickN 6 [0, 1, 2, 5] (by decide)
                  exact ⟨r4.2.1, (r4.2.2.set (Int.toNat (geti hand2 z2)) (Int.tmod (w64 (leader1 + (l1.length : Int))) 4)), r4.1, hF.weak [0, 1, 2, 3, 10, 11, 14, 15, 65, 66, 67] (by kernel_rfl), hS, hm⟩
                · replace hm := if_f hm hb
                  refine wpIn_skip ?_
                  refine block_n ?_
                  refine then_n ?_
                  have hS := hS.pickN 6 [0, 1, 2, 5] (by decide)
                  exact ⟨r4.2.1, (r4.2.2.set (Int.toNat (geti hand2 z2)) (Int.tmod (w64 (leader1 + (l1.length : Int))) 4)), top1, hF.weak [0, 1, 2, 3, 10, 11, 14, 15, 65, 66, 67] (by kernel_rfl), hS, hm⟩
              · obtain ⟨r3, hr3, hm⟩ := call_b hm
                refine reg [⟨false, [], callFunc 198 #[.slice A3 hand2.length c3, .int .i64 led1, .int .i64 (geti hand2 z2)], .bool r3⟩] [none, none, none, some (.bool r3), none] [0, 1, 2, 3, 10, 11, 14, 15, 17, 65, 66, 67, 75] [pl 0 (.pointer (some ⟨g1, 0, none⟩)), pl 1 (.pointer (some ⟨g3, 0, none⟩)), pl 2 (.int .i64 leader1), pl 3 (.slice A1 l1.length c1), pl 10 (.int .i64 (Int.tmod (w64 (leader1 + (l1.length : Int))) 4)), pl 11 (.slice A3 hand2.length c3), pl 14 (.int .i64 led1), pl 15 (.int .i64 top1), pl 17 (.int .i64 (geti hand2 z2)), pl 65 (.slice A3 hand2.length c3), pl 66 (.int .i64 (hand2.length : Int)), pl 67 (.int .i64 z2), pl 75 (.bool (!r3))] hF hS Fol (by kernel_rfl) (by kernel_rfl) (by kernel_rfl) ?_ (fun a w hF hS => ?_)
                · exact obs_cons (ob_call Try.func198 (by kernel_rfl) rfl (fun _ _ hS => bridge_may_w hr3 hS (fun _ hS => (hS.at_ 3 rfl).rd) ((hS.at_ 3 rfl).cap1) rfl)) <| obs_nil
                refine cond_ev (t := 75) (b := !r3) hF (by kernel_rfl) (fun hb => ?_) (fun hb => ?_)
                · replace hm := if_t hm hb
                  refine wpIn_exit ?_
                  refine then_e (block_e (then_n ?_))
                  exact ⟨t2, d3, top1, hF.weak [0, 1, 2, 3, 10, 11, 14, 15, 65, 66, 67] (by kernel_rfl), hS, hm⟩
                · replace hm := if_f hm hb
                  refine wpIn_skip ?_
                  refine then_n ?_
                  exact ⟨hF.weak [0, 1, 2, 3, 10, 11, 14, 15, 17, 65, 66, 67] (by kernel_rfl), hS, hm⟩
          · refine cond_ev (t := 68) (b := decide (z2 < (hand2.length : Int))) hF (by kernel_rfl) (fun hb => ?_) (fun hb => ?_)
            · replace hm := if_t hm hb
              refine wpIn_skip ?_
              refine then_n ?_
              exact ⟨hF.weak [0, 1, 2, 3, 10, 11, 14, 15, 65, 66, 67] (by kernel_rfl), hS, hm⟩
            · replace hm := if_f hm hb
              refine wpIn_exit ?_
              refine then_e (then_e (block_e (then_n ?_)))
              have hS := hS.pickN 4 [0, 1, 2] (by decide)
              rw [← hφ2] at hm
              replace hm := done_b hm
              unfold bridge_table_play_K2 at hm
              try dsimp only at hm
              have hm : (bridge_table_play_J6 top1 t2 d3).bind some = some r := hm
              exact ⟨top1, t2, d3, hF.weak [15] (by kernel_rfl), hS, hm⟩
      · refine reg [] [] [0, 1, 2, 3, 10, 11, 14, 61] [pl 0 (.pointer (some ⟨g1, 0, none⟩)), pl 1 (.pointer (some ⟨g3, 0, none⟩)), pl 2 (.int .i64 leader1), pl 3 (.slice A1 l1.length c1), pl 10 (.int .i64 (Int.tmod (w64 (leader1 + (l1.length : Int))) 4)), pl 11 (.slice A3 hand2.length c3), pl 14 (.int .i64 (-1)), pl 61 (.bool (decide ((0 : Int) < (l1.length : Int))))] hF hS Fol (by kernel_rfl) (by kernel_rfl) (by kernel_rfl) ?_ (fun a w hF hS => ?_)
        · exact obs_nil
        refine cond_ev (t := 61) (b := decide ((0 : Int) < (l1.length : Int))) hF (by kernel_rfl) (fun hb => ?_) (fun hb => ?_)
        · replace hm := if_t hm hb
          obtain ⟨hp3, hm⟩ := asrt_b hm
          refine reg1 [⟨true, [], vS (Instr.indexAt 34 (.slice A1 l1.length c1) (.int .i64 0)), .pointer (some (sAddr A1 0))⟩, ⟨false, [], vS (Instr.loadAt 3 (.pointer (some (sAddr A1 0)))), .int .i64 (geti l1 0)⟩] [none, some (.pointer (some (sAddr A1 0))), some (.int .i64 (geti l1 0)), none] [0, 1, 2, 3, 10, 11, 14] [pl 0 (.pointer (some ⟨g1, 0, none⟩)), pl 1 (.pointer (some ⟨g3, 0, none⟩)), pl 2 (.int .i64 leader1), pl 3 (.slice A1 l1.length c1), pl 10 (.int .i64 (Int.tmod (w64 (leader1 + (l1.length : Int))) 4)), pl 11 (.slice A3 hand2.length c3), pl 14 (.int .i64 (geti l1 0))] hF hS Fol (by kernel_rfl) (by kernel_rfl) (by kernel_rfl) ?_ (fun a w hF hS => ?_)
          · exact obs_cons (ob_ix1 (f := (Value.int .i64)) (m := l1) Und34 hi3 hs3 (hr_l1 _ (hS.dropN 4)) rfl (fun _ => hp3)) <| obs_cons (ob_get1 (n := l1.length) (m := l1) (Value.int .i64) (0 : Int) Agg3 (fun _ hS => ⟨_, (hr_l1 _ (hS.dropN 4))⟩) (fun _ hS => rfl) (fun _ => hp3)) <| obs_nil
          refine then_n ?_
          exact ⟨(geti l1 0), hF.weak [0, 1, 2, 3, 10, 11, 14] (by kernel_rfl), hS, hm⟩
        · replace hm := if_f hm hb
          refine wpIn_skip ?_
          refine then_n ?_
          exact ⟨(-1), hF.weak [0, 1, 2, 3, 10, 11, 14] (by kernel_rfl), hS, hm⟩
    · refine reg [] [] [0, 1, 2, 3, 10, 11, 44, 45] [pl 0 (.pointer (some ⟨g1, 0, none⟩)), pl 1 (.pointer (some ⟨g3, 0, none⟩)), pl 2 (.int .i64 leader1), pl 3 (.slice A1 l1.length c1), pl 10 (.int .i64 (Int.tmod (w64 (leader1 + (l1.length : Int))) 4)), pl 11 (.slice none 0 0), pl 44 (.pointer (some ⟨g3, 0, none⟩)), pl 45 (.int .i64 0)] hF hS Fol (by kernel_rfl) (by kernel_rfl) (by kernel_rfl) ?_ (fun a w hF hS => ?_)
      · exact obs_nil
      refine wpIn_block ?_
      have hS : Sep w0 B w (own 3 (.slice none 0 0) (vI ([] : List Int)) :: blk g1 150 #[.int .i64 t_strain1, .map (some g2)] :: mapH kf198 (Value.int .i64) g2 t_known1 :: blk g3 147 (List.toArray (([] : List Value) ++ (arr1 (Value.int .i64) (0 : Int) 52 d1 ++ ([] : List Value)))) :: fs) := hS.nil 3
      have hl1 := (hS.at_ 0 rfl).len1
      have hS := (hS.at_ 0 rfl).reN hl1
      have hS : Sep w0 B w (own 3 (.slice none (([] : List Int).length) 0) (vI ([] : List Int)) :: blk g1 150 #[.int .i64 t_strain1, .map (some g2)] :: mapH kf198 (Value.int .i64) g2 t_known1 :: blk g3 147 (List.toArray (([] : List Value) ++ (arr1 (Value.int .i64) (0 : Int) 52 d1 ++ ([] : List Value)))) :: fs) := hS
      have hF := hF.cast (t := 11) (v := .slice none 0 0) (v' := .slice none (([] : List Int).length) 0) rfl rfl (congrArg (fun k => Value.slice none k 0) hl1)
      have hS := hS.pickN 4 [1, 2, 3, 0] (by decide)
      refine wp_loop_model (S := (List Int × Int)) (R := (List Int)) (bridge_table_play_L1 d1 leader1 l1) (fun x => ((bridge_table_play_K1 rec_bridge_table_play t_strain1 t_known1 d1 leader1 l1) x).bind some) r (fun (x : (List Int × Int)) a w => ∃ (A2 : Option Addr) (c2 : Nat), Fr 123 [pl 0 (.pointer (some ⟨g1, 0, none⟩)), pl 1 (.pointer (some ⟨g3, 0, none⟩)), pl 2 (.int .i64 leader1), pl 3 (.slice A1 l1.length c1), pl 10 (.int .i64 (Int.tmod (w64 (leader1 + (l1.length : Int))) 4)), pl 11 (.slice A2 x.1.length c2), pl 44 (.pointer (some ⟨g3, 0, none⟩)), pl 45 (.int .i64 x.2)] a ∧ Sep w0 B w (blk g1 150 #[.int .i64 t_strain1, .map (some g2)] :: mapH kf198 (Value.int .i64) g2 t_known1 :: blk g3 147 (List.toArray (([] : List Value) ++ (arr1 (Value.int .i64) (0 : Int) 52 d1 ++ ([] : List Value)))) :: own 3 (.slice A2 x.1.length c2) (vI x.1) :: fs)) (assoc_b hm) ⟨none, 0, hF.weak [0, 1, 2, 3, 10, 11, 44, 45] (by kernel_rfl), hS⟩ ?_
      clear hF hS hm
      rintro nn1 ⟨hand1, z1⟩ a w ⟨A2, c2, hF, hS⟩ hm
      generalize hφ1 : stK (bridge_table_play_L1 d1 leader1 l1) nn1 (fun x => ((bridge_table_play_K1 rec_bridge_table_play t_strain1 t_known1 d1 leader1 l1) x).bind some) = φ1 at hm
      unfold bridge_table_play_L1 at hm
      dsimp only at hF hS hm
      refine reg [] [] [0, 1, 2, 3, 10, 11, 44, 45, 46] [pl 0 (.pointer (some ⟨g1, 0, none⟩)), pl 1 (.pointer (some ⟨g3, 0, none⟩)), pl 2 (.int .i64 leader1), pl 3 (.slice A1 l1.length c1), pl 10 (.int .i64 (Int.tmod (w64 (leader1 + (l1.length : Int))) 4)), pl 11 (.slice A2 hand1.length c2), pl 44 (.pointer (some ⟨g3, 0, none⟩)), pl 45 (.int .i64 z1), pl 46 (.bool (decide (z1 < 52)))] hF hS Fol (by kernel_rfl) (by kernel_rfl) (by kernel_rfl) ?_ (fun a w hF hS => ?_)
      · exact obs_nil
      refine seq_cut (fun a w => Fr 123 [pl 0 (.pointer (some ⟨g1, 0, none⟩)), pl 1 (.pointer (some ⟨g3, 0, none⟩)), pl 2 (.int .i64 leader1), pl 3 (.slice A1 l1.length c1), pl 10 (.int .i64 (Int.tmod (w64 (leader1 + (l1.length : Int))) 4)), pl 11 (.slice A2 hand1.length c2), pl 44 (.pointer (some ⟨g3, 0, none⟩)), pl 45 (.int .i64 z1)] a ∧ Sep w0 B w (blk g1 150 #[.int .i64 t_strain1, .map (some g2)] :: mapH kf198 (Value.int .i64) g2 t_known1 :: blk g3 147 (List.toArray (([] : List Value) ++ (arr1 (Value.int .i64) (0 : Int) 52 d1 ++ ([] : List Value)))) :: own 3 (.slice A2 hand1.length c2) (vI hand1) :: fs) ∧ ((bridge_table_play_J3 d1 leader1 l1 hand1 z1)).bind φ1 = some r) ?_ ?_
      · rintro a w ⟨hF, hS, hm⟩
        unfold bridge_table_play_J3 at hm
        refine seq_cut (fun a w => ∃ (hand3 : List Int) (A5 : Option Addr) (c5 : Nat), Fr 123 [pl 0 (.pointer (some ⟨g1, 0, none⟩)), pl 1 (.pointer (some ⟨g3, 0, none⟩)), pl 2 (.int .i64 leader1), pl 3 (.slice A1 l1.length c1), pl 10 (.int .i64 (Int.tmod (w64 (leader1 + (l1.length : Int))) 4)), pl 11 (.slice A5 hand3.length c5), pl 44 (.pointer (some ⟨g3, 0, none⟩)), pl 45 (.int .i64 z1)] a ∧ Sep w0 B w (blk g1 150 #[.int .i64 t_strain1, .map (some g2)] :: mapH kf198 (Value.int .i64) g2 t_known1 :: blk g3 147 (List.toArray (([] : List Value) ++ (arr1 (Value.int .i64) (0 : Int) 52 d1 ++ ([] : List Value)))) :: own 3 (.slice A5 hand3.length c5) (vI hand3) :: fs) ∧ ((bridge_table_play_J4 z1) hand3).bind φ1 = some r) ?_ ?_
        · rintro a w ⟨hand3, A5, c5, hF, hS, hm⟩
          unfold bridge_table_play_J4 at hm
          refine reg1 [] [] [0, 1, 2, 3, 10, 11, 44, 45] [pl 0 (.pointer (some ⟨g1, 0, none⟩)), pl 1 (.pointer (some ⟨g3, 0, none⟩)), pl 2 (.int .i64 leader1), pl 3 (.slice A1 l1.length c1), pl 10 (.int .i64 (Int.tmod (w64 (leader1 + (l1.length : Int))) 4)), pl 11 (.slice A5 hand3.length c5), pl 44 (.pointer (some ⟨g3, 0, none⟩)), pl 45 (.int .i64 (w64 (z1 + 1)))] hF hS Fol (by kernel_rfl) (by kernel_rfl) (by kernel_rfl) ?_ (fun a w hF hS => ?_)
          · exact obs_nil
          refine then_n ?_
          rw [← hφ1] at hm
          exact ⟨(hand3, (w64 (z1 + 1))), ⟨A5, c5, hF.weak [0, 1, 2, 3, 10, 11, 44, 45] (by kernel_rfl), hS⟩, hm⟩
        · refine wpIn_block ?_
          obtain ⟨hp1, hm⟩ := asrt_b hm
          refine reg [⟨true, [], vS (Instr.indexAt 147 (.pointer (some ⟨g3, 0, none⟩)) (.int .i64 z1)), .pointer (some ((⟨g3, 0, none⟩ : Addr).add (Int.toNat z1 * 1)))⟩, ⟨false, [], vS (Instr.loadAt 3 (.pointer (some ((⟨g3, 0, none⟩ : Addr).add (Int.toNat z1 * 1))))), .int .i64 (geti d1 z1)⟩] [none, none, some (.pointer (some ((⟨g3, 0, none⟩ : Addr).add (Int.toNat z1 * 1)))), some (.int .i64 (geti d1 z1)), none, none] [0, 1, 2, 3, 10, 11, 12, 13, 44, 45] [pl 0 (.pointer (some ⟨g1, 0, none⟩)), pl 1 (.pointer (some ⟨g3, 0, none⟩)), pl 2 (.int .i64 leader1), pl 3 (.slice A1 l1.length c1), pl 10 (.int .i64 (Int.tmod (w64 (leader1 + (l1.length : Int))) 4)), pl 11 (.slice A2 hand1.length c2), pl 12 (.int .i64 z1), pl 13 (.int .i64 (geti d1 z1)), pl 44 (.pointer (some ⟨g3, 0, none⟩)), pl 45 (.int .i64 z1)] hF hS Fol (by kernel_rfl) (by kernel_rfl) (by kernel_rfl) ?_ (fun a w hF hS => ?_)
          · exact obs_cons (ob_ixA UndA147 hi3 hs3 (fun _ => hp1)) <| obs_cons (ob_getA (m := d1) (Value.int .i64) (0 : Int) 52 ([] : List Value) ([] : List Value) z1 Agg3 rfl (fun _ hS => ⟨_, _, _, _, _, hS.at_ 2 rfl⟩) (fun hy => by have h0 := hp1; omega)) <| obs_nil
          refine reg [] [] [0, 1, 2, 3, 10, 11, 12, 44, 45, 53] [pl 0 (.pointer (some ⟨g1, 0, none⟩)), pl 1 (.pointer (some ⟨g3, 0, none⟩)), pl 2 (.int .i64 leader1), pl 3 (.slice A1 l1.length c1), pl 10 (.int .i64 (Int.tmod (w64 (leader1 + (l1.length : Int))) 4)), pl 11 (.slice A2 hand1.length c2), pl 12 (.int .i64 z1), pl 44 (.pointer (some ⟨g3, 0, none⟩)), pl 45 (.int .i64 z1), pl 53 (.bool ((geti d1 z1) == (Int.tmod (w64 (leader1 + (l1.length : Int))) 4)))] hF hS Fol (by kernel_rfl) (by kernel_rfl) (by kernel_rfl) ?_ (fun a w hF hS => ?_)
          · exact obs_nil
          refine cond_ev (t := 53) (b := ((geti d1 z1) == (Int.tmod (w64 (leader1 + (l1.length : Int))) 4))) hF (by kernel_rfl) (fun hb => ?_) (fun hb => ?_)
          · replace hm := if_t hm hb
            refine oneR ?_
            obtain ⟨hp2, hm⟩ := asrt_b hm
            refine at_run 2 [] [] [0, 1, 2, 3, 10, 44, 45, 54, 55] [pl 0 (.pointer (some ⟨g1, 0, none⟩)), pl 1 (.pointer (some ⟨g3, 0, none⟩)), pl 2 (.int .i64 leader1), pl 3 (.slice A1 l1.length c1), pl 10 (.int .i64 (Int.tmod (w64 (leader1 + (l1.length : Int))) 4)), pl 44 (.pointer (some ⟨g3, 0, none⟩)), pl 45 (.int .i64 z1), pl 54 (.slice A2 hand1.length c2), pl 55 (.int .i64 z1)] hF hS (by kernel_rfl) (by kernel_rfl) ?_ (fun a w hF hS => ?_)
            · exact obs_nil
            refine at_do (d := 56) (s := vS (Instr.buildSlice 34 1 #[(0, .int .i64 z1)])) (v := .slice (some ⟨w.heap.size, 0, none⟩) 1 1) (w' := w.alloc (.cells #[.int .i64 z1] 3)) hF (by kernel_rfl) (by kernel_rfl) (by kernel_rfl) (fun a hF => ?_)
            have hS : Sep w0 B (w.alloc (.cells #[.int .i64 z1] 3)) (own 3 (.slice (some (⟨w.heap.size, 0, none⟩ : Addr)) 1 1) (vI ([z1] : List Int)) :: (blk g1 150 #[.int .i64 t_strain1, .map (some g2)] :: mapH kf198 (Value.int .i64) g2 t_known1 :: blk g3 147 (List.toArray (([] : List Value) ++ (arr1 (Value.int .i64) (0 : Int) 52 d1 ++ ([] : List Value)))) :: own 3 (.slice A2 hand1.length c2) (vI hand1) :: fs)) := hS.lit 3 #[.int .i64 z1] 1 rfl (by omega)
            generalize (some (⟨w.heap.size, 0, none⟩ : Addr)) = g4 at hF hS
            generalize w.alloc (.cells #[.int .i64 z1] 3) = w at hS ⊢
            obtain ⟨A4, c4, w, hrun, hS⟩ := run_app1 (P := Try.prog) (t := 34) (m := hand1) (ys := ([z1] : List Int)) (A2 := g4) (m2 := 1) (c2 := 1) (Value.int .i64) (0 : Int) (hS.at_ 4 rfl) (hS.at_ 0 rfl).rd ((hS.at_ 0 rfl).len1) 34 Und34 hi3 hz3 hs3 (by omega) rfl (fun _ => rfl) hp2
            have hS : Sep w0 B w (own 3 (.slice g4 1 1) (vI ([z1] : List Int)) :: blk g1 150 #[.int .i64 t_strain1, .map (some g2)] :: mapH kf198 (Value.int .i64) g2 t_known1 :: blk g3 147 (List.toArray (([] : List Value) ++ (arr1 (Value.int .i64) (0 : Int) 52 d1 ++ ([] : List Value)))) :: own 3 (.slice A4 ((hand1 ++ ([z1] : List Int)).length) c4) (vI (hand1 ++ ([z1] : List Int))) :: fs) := hS
            refine at_do (d := 57) hF (by kernel_rfl) (by kernel_rfl) hrun (fun a hF => ?_)
            refine at_run 1 [] [] [0, 1, 2, 3, 10, 11, 44, 45] [pl 0 (.pointer (some ⟨g1, 0, none⟩)), pl 1 (.pointer (some ⟨g3, 0, none⟩)), pl 2 (.int .i64 leader1), pl 3 (.slice A1 l1.length c1), pl 10 (.int .i64 (Int.tmod (w64 (leader1 + (l1.length : Int))) 4)), pl 11 (.slice A4 ((hand1 ++ ([z1] : List Int)).length) c4), pl 44 (.pointer (some ⟨g3, 0, none⟩)), pl 45 (.int .i64 z1)] hF hS (by kernel_rfl) (by kernel_rfl) ?_ (fun a w hF hS => ?_)
            · exact obs_nil
            refine at_end [0, 1, 2, 3, 10, 11, 44, 45] [pl 0 (.pointer (some ⟨g1, 0, none⟩)), pl 1 (.pointer (some ⟨g3, 0, none⟩)), pl 2 (.int .i64 leader1), pl 3 (.slice A1 l1.length c1), pl 10 (.int .i64 (Int.tmod (w64 (leader1 + (l1.length : Int))) 4)), pl 11 (.slice A4 ((hand1 ++ ([z1] : List Int)).length) c4), pl 44 (.pointer (some ⟨g3, 0, none⟩)), pl 45 (.int .i64 z1)] hF rfl (by kernel_rfl) (fun hF => ?_)
            refine block_n ?_
            refine then_n ?_
            have hS := hS.pickN 5 [1, 2, 3, 4] (by decide)
            exact ⟨(hand1 ++ ([z1] : List Int)), A4, c4, hF.weak [0, 1, 2, 3, 10, 11, 44, 45] (by kernel_rfl), hS, hm⟩
          · replace hm := if_f hm hb
            refine wpIn_skip ?_
            refine block_n ?_
            refine then_n ?_
            exact ⟨hand1, A2, c2, hF.weak [0, 1, 2, 3, 10, 11, 44, 45] (by kernel_rfl), hS, hm⟩
      · refine cond_ev (t := 46) (b := decide (z1 < 52)) hF (by kernel_rfl) (fun hb => ?_) (fun hb => ?_)
        · replace hm := if_t hm hb
          refine wpIn_skip ?_
          refine then_n ?_
          exact ⟨hF.weak [0, 1, 2, 3, 10, 11, 44, 45] (by kernel_rfl), hS, hm⟩
        · replace hm := if_f hm hb
          refine wpIn_exit ?_
          refine then_e (then_e (block_e (then_n ?_)))
          rw [← hφ1] at hm
          replace hm := done_b hm
          unfold bridge_table_play_K1 at hm
          try dsimp only at hm
          have hm : ((bridge_table_play_J2 rec_bridge_table_play t_strain1 t_known1 d1 leader1 l1) hand1).bind some = some r := hm
          exact ⟨hand1, A2, c2, hF.weak [0, 1, 2, 3, 10, 11] (by kernel_rfl), hS, hm⟩
  · refine reg [] [] [0, 1, 2, 3, 21] [pl 0 (.pointer (some ⟨g1, 0, none⟩)), pl 1 (.pointer (some ⟨g3, 0, none⟩)), pl 2 (.int .i64 leader1), pl 3 (.slice A1 l1.length c1), pl 21 (.bool ((l1.length : Int) == 4))] hF hS Fol (by kernel_rfl) (by kernel_rfl) (by kernel_rfl) ?_ (fun a w hF hS => ?_)
    · exact obs_nil
    refine cond_ev (t := 21) (b := ((l1.length : Int) == 4)) hF (by kernel_rfl) (fun hb => ?_) (fun hb => ?_)
    · replace hm := if_t hm hb
      obtain ⟨r1, hr1, hm⟩ := call_b hm
      refine reg [⟨false, [], vS (Instr.loadAt 3 (.pointer (some ⟨g1, 0, none⟩))), .int .i64 t_strain1⟩, ⟨false, [], callFunc 197 #[.slice A1 l1.length c1, .int .i64 t_strain1], .int .i64 r1⟩] [none, none, none, none, none, some (.int .i64 t_strain1), some (.int .i64 r1), none, none, none] [0, 1, 9] [pl 0 (.pointer (some ⟨g1, 0, none⟩)), pl 1 (.pointer (some ⟨g3, 0, none⟩)), pl 9 (.int .i64 (Int.tmod (w64 (leader1 + r1)) 4))] hF hS Fol (by kernel_rfl) (by kernel_rfl) (by kernel_rfl) ?_ (fun a w hF hS => ?_)
      · exact obs_cons (ob_load Agg3 (fun _ _ hS => (hS.at_ 0 rfl).cell rfl)) <| obs_cons (ob_call Try.func197 (by kernel_rfl) rfl (fun _ _ hS => bridge_winner_w hr1 hS (fun _ hS => (hr_l1 _ (hS.dropN 3))) _hc_l1 rfl)) <| obs_nil
      refine seqR ?_
      obtain ⟨r2, hr2, hm⟩ := call_b hm
      refine at_run 6 [] [] [33, 34, 35, 36] [pl 33 (.int .i64 (w64 (1 - (bAnd (Int.tmod (w64 (leader1 + r1)) 4) 1)))), pl 34 (.pointer (some ⟨g1, 0, none⟩)), pl 35 (.pointer (some ⟨g3, 0, none⟩)), pl 36 (.int .i64 (Int.tmod (w64 (leader1 + r1)) 4))] hF hS (by kernel_rfl) (by kernel_rfl) ?_ (fun a w hF hS => ?_)
      · exact obs_nil
      refine at_call (f := 113) (args := #[.pointer (some ⟨g1, 0, none⟩), .pointer (some ⟨g3, 0, none⟩), .int .i64 (Int.tmod (w64 (leader1 + r1)) 4)]) (d := 37) hF (by kernel_rfl) (by kernel_rfl) Try.func113 (by kernel_rfl) rfl (ih_bridge_table_best hr2 hS ) (fun v a w hR hF => ?_)
      clear hS
      obtain ⟨rfl, hS⟩ := hR
      have hS : Sep w0 B w (blk g1 150 #[.int .i64 t_strain1, .map (some g2)] :: mapH kf198 (Value.int .i64) g2 r2.2.1 :: blk g3 147 (List.toArray (([] : List Value) ++ (arr1 (Value.int .i64) (0 : Int) 52 r2.2.2 ++ ([] : List Value)))) :: fs) := hS
      refine at_run 2 [] [] [8] [pl 8 (.int .i64 (w64 ((w64 (1 - (bAnd (Int.tmod (w64 (leader1 + r1)) 4) 1))) + r2.1)))] hF hS (by kernel_rfl) (by kernel_rfl) ?_ (fun a w hF hS => ?_)
      · exact obs_nil
      refine at_end [8] [pl 8 (.int .i64 (w64 ((w64 (1 - (bAnd (Int.tmod (w64 (leader1 + r1)) 4) 1))) + r2.1)))] hF rfl (by kernel_rfl) (fun hF => ?_)
      refine then_n ?_
      refine wpIn_ret ?_
      refine then_r ?_
      have hm : some ((w64 ((w64 (1 - (bAnd (Int.tmod (w64 (leader1 + r1)) 4) 1))) + r2.1)), r2.2.1, r2.2.2) = some r := hm
      obtain rfl := Option.some.inj hm
      exact retV (rs := [.tmp 8]) (vs := [.int .i64 (w64 ((w64 (1 - (bAnd (Int.tmod (w64 (leader1 + r1)) 4) 1))) + r2.1))]) hF rfl (rv_t (by kernel_rfl) <| rv_nil) rfl ⟨_, rfl, rfl, hS⟩
    · replace hm := if_f hm hb
      refine wpIn_skip ?_
      refine then_n ?_
      exact ⟨hF.weak [0, 1, 2, 3] (by kernel_rfl), hS, hm⟩

theorem bridge_table_play_w {rec_bridge_table_best : Int → List ((Int × Int) × Int) → List Int → Int → Option (Int × List ((Int × Int) × Int) × List Int)} (ih_bridge_table_best : ∀ {g1 : Nat} {t_strain1 : Int} {g2 : Nat} {t_known1 : List ((Int × Int) × Int)} {g3 : Nat} {d1 : List Int} {leader1 : Int} {r : (Int × List ((Int × Int) × Int) × List Int)} {w0 w : World} {B : Nat} {fs : List HP} (_ : rec_bridge_table_best t_strain1 t_known1 d1 leader1 = some r) (_ : Sep w0 B w (blk g1 150 #[.int .i64 t_strain1, .map (some g2)] :: mapH kf198 (Value.int .i64) g2 t_known1 :: blk g3 147 (List.toArray (([] : List Value) ++ (arr1 (Value.int .i64) (0 : Int) 52 d1 ++ ([] : List Value)))) :: fs)), Calls Try.prog 113 #[.pointer (some ⟨g1, 0, none⟩), .pointer (some ⟨g3, 0, none⟩), .int .i64 leader1] w fun e w' => ∃ v, e = .returned v ∧ v = .int .i64 r.1 ∧ Sep w0 B w' (blk g1 150 #[.int .i64 t_strain1, .map (some g2)] :: mapH kf198 (Value.int .i64) g2 r.2.1 :: blk g3 147 (List.toArray (([] : List Value) ++ (arr1 (Value.int .i64) (0 : Int) 52 r.2.2 ++ ([] : List Value)))) :: fs)) {g1 : Nat} {t_strain1 : Int} {g2 : Nat} {t_known1 : List ((Int × Int) × Int)} {g3 : Nat} {d1 : List Int} {leader1 : Int} {A1 : Option Addr} {c1 : Nat} {n1 : Nat} {l1 : List Int} {r : (Int × List ((Int × Int) × Int) × List Int)} {w0 w : World} {B : Nat} {fs : List HP} (hm : bridge_table_play_m rec_bridge_table_best t_strain1 t_known1 d1 leader1 l1 = some r) (hS : Sep w0 B w (blk g1 150 #[.int .i64 t_strain1, .map (some g2)] :: mapH kf198 (Value.int .i64) g2 t_known1 :: blk g3 147 (List.toArray (([] : List Value) ++ (arr1 (Value.int .i64) (0 : Int) 52 d1 ++ ([] : List Value)))) :: fs)) (hr_l1 : RdF w0 B fs A1 (vI l1)) (_hc_l1 : l1.length ≤ c1) (_hn_l1 : n1 = l1.length) :
    Calls Try.prog 159 #[.pointer (some ⟨g1, 0, none⟩), .pointer (some ⟨g3, 0, none⟩), .int .i64 leader1, .slice A1 n1 c1] w fun e w' => ∃ v, e = .returned v ∧ v = .int .i64 r.1 ∧ Sep w0 B w' (blk g1 150 #[.int .i64 t_strain1, .map (some g2)] :: mapH kf198 (Value.int .i64) g2 r.2.1 :: blk g3 147 (List.toArray (([] : List Value) ++ (arr1 (Value.int .i64) (0 : Int) 52 r.2.2 ++ ([] : List Value)))) :: fs) := by
  have key : ∀ (n : Nat) {g1 : Nat} {t_strain1 : Int} {g2 : Nat} {t_known1 : List ((Int × Int) × Int)} {g3 : Nat} {d1 : List Int} {leader1 : Int} {A1 : Option Addr} {c1 : Nat} {n1 : Nat} {l1 : List Int} {r : (Int × List ((Int × Int) × Int) × List Int)} {w0 w : World} {B : Nat} {fs : List HP} (_ : bridge_table_play_mF rec_bridge_table_best n t_strain1 t_known1 d1 leader1 l1 = some r) (_ : Sep w0 B w (blk g1 150 #[.int .i64 t_strain1, .map (some g2)] :: mapH kf198 (Value.int .i64) g2 t_known1 :: blk g3 147 (List.toArray (([] : List Value) ++ (arr1 (Value.int .i64) (0 : Int) 52 d1 ++ ([] : List Value)))) :: fs)) (hr_l1 : RdF w0 B fs A1 (vI l1)) (_hc_l1 : l1.length ≤ c1) (_hn_l1 : n1 = l1.length), Calls Try.prog 159 #[.pointer (some ⟨g1, 0, none⟩), .pointer (some ⟨g3, 0, none⟩), .int .i64 leader1, .slice A1 n1 c1] w fun e w' => ∃ v, e = .returned v ∧ v = .int .i64 r.1 ∧ Sep w0 B w' (blk g1 150 #[.int .i64 t_strain1, .map (some g2)] :: mapH kf198 (Value.int .i64) g2 r.2.1 :: blk g3 147 (List.toArray (([] : List Value) ++ (arr1 (Value.int .i64) (0 : Int) 52 r.2.2 ++ ([] : List Value)))) :: fs) := by
    intro n
    induction n with
    | zero => intros; rename_i hm0 _ _ _ _; cases hm0
    | succ n ih => intros; rename_i hm0 hS0 h0 h1 h2; exact bridge_table_play_wB ih_bridge_table_best (rec_bridge_table_play := bridge_table_play_mF rec_bridge_table_best n) (fun hm hS h0 h1 h2 => ih hm hS h0 h1 h2) hm0 hS0 h0 h1 h2
  obtain ⟨n, hn⟩ := recM_some hm
  exact key n hn hS hr_l1 _hc_l1 _hn_l1

set_option maxRecDepth 100000 in
theorem bridge_table_play_J9_le_bridge_table_play {rec_bridge_table_play1 rec_bridge_table_play2 : Int → List ((Int × Int) × Int) → List Int → Int → List Int → Option (Int × List ((Int × Int) × Int) × List Int)} (h_rec_bridge_table_play : ∀ a0 a1 a2 a3 a4, Le (rec_bridge_table_play1 a0 a1 a2 a3 a4) (rec_bridge_table_play2 a0 a1 a2 a3 a4)) (t_strain1 : Int) (leader1 : Int) (l1 : List Int) (hand2 : List Int) (t2 : List ((Int × Int) × Int)) (d3 : List Int) (top1 : Int) (z2 : Int) : Le (bridge_table_play_J9 rec_bridge_table_play1 t_strain1 leader1 l1 hand2 t2 d3 top1 z2) (bridge_table_play_J9 rec_bridge_table_play2 t_strain1 leader1 l1 hand2 t2 d3 top1 z2) := by
  unfold bridge_table_play_J9
  repeat' (first | with_reducible exact Le.refl _ | with_reducible exact h_rec_bridge_table_play _ _ _ _ _ | with_reducible refine Le.asrt ?_ | with_reducible refine Le.ite ?_ ?_ | refine Le.bind ?_ (fun _ => ?_) | refine Le.loop2 (fun _ => ?_) | refine Le.elim2 (fun _ => ?_) (fun _ => ?_))

set_option maxRecDepth 100000 in
theorem bridge_table_play_J7_le_bridge_table_play {rec_bridge_table_play1 rec_bridge_table_play2 : Int → List ((Int × Int) × Int) → List Int → Int → List Int → Option (Int × List ((Int × Int) × Int) × List Int)} (h_rec_bridge_table_play : ∀ a0 a1 a2 a3 a4, Le (rec_bridge_table_play1 a0 a1 a2 a3 a4) (rec_bridge_table_play2 a0 a1 a2 a3 a4)) (t_strain1 : Int) (leader1 : Int) (l1 : List Int) (hand2 : List Int) (led1 : Int) (t2 : List ((Int × Int) × Int)) (d3 : List Int) (top1 : Int) (z2 : Int) : Le (bridge_table_play_J7 rec_bridge_table_play1 t_strain1 leader1 l1 hand2 led1 t2 d3 top1 z2) (bridge_table_play_J7 rec_bridge_table_play2 t_strain1 leader1 l1 hand2 led1 t2 d3 top1 z2) := by
  unfold bridge_table_play_J7
  repeat' (first | with_reducible exact Le.refl _ | with_reducible exact h_rec_bridge_table_play _ _ _ _ _ | with_reducible exact bridge_table_play_J9_le_bridge_table_play h_rec_bridge_table_play _ _ _ _ _ _ _ _ | with_reducible refine Le.asrt ?_ | with_reducible refine Le.ite ?_ ?_ | refine Le.bind ?_ (fun _ => ?_) | refine Le.loop2 (fun _ => ?_) | refine Le.elim2 (fun _ => ?_) (fun _ => ?_))

set_option maxRecDepth 100000 in
theorem bridge_table_play_L2_le_bridge_table_play {rec_bridge_table_play1 rec_bridge_table_play2 : Int → List ((Int × Int) × Int) → List Int → Int → List Int → Option (Int × List ((Int × Int) × Int) × List Int)} (h_rec_bridge_table_play : ∀ a0 a1 a2 a3 a4, Le (rec_bridge_table_play1 a0 a1 a2 a3 a4) (rec_bridge_table_play2 a0 a1 a2 a3 a4)) (t_strain1 : Int) (leader1 : Int) (l1 : List Int) (hand2 : List Int) (led1 : Int) (x : (List ((Int × Int) × Int) × List Int × Int × Int)) : Le (bridge_table_play_L2 rec_bridge_table_play1 t_strain1 leader1 l1 hand2 led1 x) (bridge_table_play_L2 rec_bridge_table_play2 t_strain1 leader1 l1 hand2 led1 x) := by
  rcases x with ⟨t2, d3, top1, z2⟩
  all_goals
    unfold bridge_table_play_L2
    try dsimp only
    repeat' (first | with_reducible exact Le.refl _ | with_reducible exact h_rec_bridge_table_play _ _ _ _ _ | with_reducible exact bridge_table_play_J7_le_bridge_table_play h_rec_bridge_table_play _ _ _ _ _ _ _ _ _ | with_reducible refine Le.asrt ?_ | with_reducible refine Le.ite ?_ ?_ | refine Le.bind ?_ (fun _ => ?_) | refine Le.loop2 (fun _ => ?_) | refine Le.elim2 (fun _ => ?_) (fun _ => ?_))

set_option maxRecDepth 100000 in
theorem bridge_table_play_J5_le_bridge_table_play {rec_bridge_table_play1 rec_bridge_table_play2 : Int → List ((Int × Int) × Int) → List Int → Int → List Int → Option (Int × List ((Int × Int) × Int) × List Int)} (h_rec_bridge_table_play : ∀ a0 a1 a2 a3 a4, Le (rec_bridge_table_play1 a0 a1 a2 a3 a4) (rec_bridge_table_play2 a0 a1 a2 a3 a4)) (t_strain1 : Int) (t_known1 : List ((Int × Int) × Int)) (d1 : List Int) (leader1 : Int) (l1 : List Int) (hand2 : List Int) (led1 : Int) : Le (bridge_table_play_J5 rec_bridge_table_play1 t_strain1 t_known1 d1 leader1 l1 hand2 led1) (bridge_table_play_J5 rec_bridge_table_play2 t_strain1 t_known1 d1 leader1 l1 hand2 led1) := by
  unfold bridge_table_play_J5
  repeat' (first | with_reducible exact Le.refl _ | with_reducible exact h_rec_bridge_table_play _ _ _ _ _ | with_reducible exact bridge_table_play_L2_le_bridge_table_play h_rec_bridge_table_play _ _ _ _ _ _ | with_reducible refine Le.asrt ?_ | with_reducible refine Le.ite ?_ ?_ | refine Le.bind ?_ (fun _ => ?_) | refine Le.loop2 (fun _ => ?_) | refine Le.elim2 (fun _ => ?_) (fun _ => ?_))

set_option maxRecDepth 100000 in
theorem bridge_table_play_J2_le_bridge_table_play {rec_bridge_table_play1 rec_bridge_table_play2 : Int → List ((Int × Int) × Int) → List Int → Int → List Int → Option (Int × List ((Int × Int) × Int) × List Int)} (h_rec_bridge_table_play : ∀ a0 a1 a2 a3 a4, Le (rec_bridge_table_play1 a0 a1 a2 a3 a4) (rec_bridge_table_play2 a0 a1 a2 a3 a4)) (t_strain1 : Int) (t_known1 : List ((Int × Int) × Int)) (d1 : List Int) (leader1 : Int) (l1 : List Int) (hand2 : List Int) : Le (bridge_table_play_J2 rec_bridge_table_play1 t_strain1 t_known1 d1 leader1 l1 hand2) (bridge_table_play_J2 rec_bridge_table_play2 t_strain1 t_known1 d1 leader1 l1 hand2) := by
  unfold bridge_table_play_J2
  repeat' (first | with_reducible exact Le.refl _ | with_reducible exact h_rec_bridge_table_play _ _ _ _ _ | with_reducible exact bridge_table_play_J5_le_bridge_table_play h_rec_bridge_table_play _ _ _ _ _ _ _ | with_reducible refine Le.asrt ?_ | with_reducible refine Le.ite ?_ ?_ | refine Le.bind ?_ (fun _ => ?_) | refine Le.loop2 (fun _ => ?_) | refine Le.elim2 (fun _ => ?_) (fun _ => ?_))

set_option maxRecDepth 100000 in
theorem bridge_table_play_K1_le_bridge_table_play {rec_bridge_table_play1 rec_bridge_table_play2 : Int → List ((Int × Int) × Int) → List Int → Int → List Int → Option (Int × List ((Int × Int) × Int) × List Int)} (h_rec_bridge_table_play : ∀ a0 a1 a2 a3 a4, Le (rec_bridge_table_play1 a0 a1 a2 a3 a4) (rec_bridge_table_play2 a0 a1 a2 a3 a4)) (t_strain1 : Int) (t_known1 : List ((Int × Int) × Int)) (d1 : List Int) (leader1 : Int) (l1 : List Int) (x : (List Int)) : Le (bridge_table_play_K1 rec_bridge_table_play1 t_strain1 t_known1 d1 leader1 l1 x) (bridge_table_play_K1 rec_bridge_table_play2 t_strain1 t_known1 d1 leader1 l1 x) := by
  rcases x with hand2
  all_goals
    unfold bridge_table_play_K1
    try dsimp only
    repeat' (first | with_reducible exact Le.refl _ | with_reducible exact h_rec_bridge_table_play _ _ _ _ _ | with_reducible exact bridge_table_play_J2_le_bridge_table_play h_rec_bridge_table_play _ _ _ _ _ _ | with_reducible refine Le.asrt ?_ | with_reducible refine Le.ite ?_ ?_ | refine Le.bind ?_ (fun _ => ?_) | refine Le.loop2 (fun _ => ?_) | refine Le.elim2 (fun _ => ?_) (fun _ => ?_))

set_option maxRecDepth 100000 in
theorem bridge_table_play_J1_le_bridge_table_play {rec_bridge_table_play1 rec_bridge_table_play2 : Int → List ((Int × Int) × Int) → List Int → Int → List Int → Option (Int × List ((Int × Int) × Int) × List Int)} (h_rec_bridge_table_play : ∀ a0 a1 a2 a3 a4, Le (rec_bridge_table_play1 a0 a1 a2 a3 a4) (rec_bridge_table_play2 a0 a1 a2 a3 a4)) (t_strain1 : Int) (t_known1 : List ((Int × Int) × Int)) (d1 : List Int) (leader1 : Int) (l1 : List Int) : Le (bridge_table_play_J1 rec_bridge_table_play1 t_strain1 t_known1 d1 leader1 l1) (bridge_table_play_J1 rec_bridge_table_play2 t_strain1 t_known1 d1 leader1 l1) := by
  unfold bridge_table_play_J1
  repeat' (first | with_reducible exact Le.refl _ | with_reducible exact h_rec_bridge_table_play _ _ _ _ _ | with_reducible exact bridge_table_play_K1_le_bridge_table_play h_rec_bridge_table_play _ _ _ _ _ _ | with_reducible refine Le.asrt ?_ | with_reducible refine Le.ite ?_ ?_ | refine Le.bind ?_ (fun _ => ?_) | refine Le.loop2 (fun _ => ?_) | refine Le.elim2 (fun _ => ?_) (fun _ => ?_))

set_option maxRecDepth 100000 in
theorem bridge_table_play_B_le (rec_bridge_table_best : Int → List ((Int × Int) × Int) → List Int → Int → Option (Int × List ((Int × Int) × Int) × List Int)) {rec_bridge_table_play1 rec_bridge_table_play2 : Int → List ((Int × Int) × Int) → List Int → Int → List Int → Option (Int × List ((Int × Int) × Int) × List Int)} (h_rec_bridge_table_play : ∀ a0 a1 a2 a3 a4, Le (rec_bridge_table_play1 a0 a1 a2 a3 a4) (rec_bridge_table_play2 a0 a1 a2 a3 a4)) (t_strain1 : Int) (t_known1 : List ((Int × Int) × Int)) (d1 : List Int) (leader1 : Int) (l1 : List Int) : Le (bridge_table_play_B rec_bridge_table_best rec_bridge_table_play1 t_strain1 t_known1 d1 leader1 l1) (bridge_table_play_B rec_bridge_table_best rec_bridge_table_play2 t_strain1 t_known1 d1 leader1 l1) := by
  unfold bridge_table_play_B
  repeat' (first | with_reducible exact Le.refl _ | with_reducible exact h_rec_bridge_table_play _ _ _ _ _ | with_reducible exact bridge_table_play_J1_le_bridge_table_play h_rec_bridge_table_play _ _ _ _ _ | with_reducible refine Le.asrt ?_ | with_reducible refine Le.ite ?_ ?_ | refine Le.bind ?_ (fun _ => ?_) | refine Le.loop2 (fun _ => ?_) | refine Le.elim2 (fun _ => ?_) (fun _ => ?_))

set_option maxRecDepth 100000 in
theorem bridge_table_play_mF_le (rec_bridge_table_best : Int → List ((Int × Int) × Int) → List Int → Int → Option (Int × List ((Int × Int) × Int) × List Int)) : ∀ (n : Nat) (t_strain1 : Int) (t_known1 : List ((Int × Int) × Int)) (d1 : List Int) (leader1 : Int) (l1 : List Int), Le (bridge_table_play_mF rec_bridge_table_best n t_strain1 t_known1 d1 leader1 l1) (bridge_table_play_mF rec_bridge_table_best (n + 1) t_strain1 t_known1 d1 leader1 l1)
  | 0, _, _, _, _, _ => fun _ h => by cases h
  | n + 1, _, _, _, _, _ => bridge_table_play_B_le rec_bridge_table_best (fun a0 a1 a2 a3 a4 => bridge_table_play_mF_le rec_bridge_table_best n a0 a1 a2 a3 a4) _ _ _ _ _

set_option maxRecDepth 100000 in
theorem bridge_table_play_B_le_bridge_table_best {rec_bridge_table_best1 rec_bridge_table_best2 : Int → List ((Int × Int) × Int) → List Int → Int → Option (Int × List ((Int × Int) × Int) × List Int)} (h_rec_bridge_table_best : ∀ a0 a1 a2 a3, Le (rec_bridge_table_best1 a0 a1 a2 a3) (rec_bridge_table_best2 a0 a1 a2 a3)) (rec_bridge_table_play : Int → List ((Int × Int) × Int) → List Int → Int → List Int → Option (Int × List ((Int × Int) × Int) × List Int)) (t_strain1 : Int) (t_known1 : List ((Int × Int) × Int)) (d1 : List Int) (leader1 : Int) (l1 : List Int) : Le (bridge_table_play_B rec_bridge_table_best1 rec_bridge_table_play t_strain1 t_known1 d1 leader1 l1) (bridge_table_play_B rec_bridge_table_best2 rec_bridge_table_play t_strain1 t_known1 d1 leader1 l1) := by
  unfold bridge_table_play_B
  repeat' (first | with_reducible exact Le.refl _ | with_reducible exact h_rec_bridge_table_best _ _ _ _ | with_reducible refine Le.asrt ?_ | with_reducible refine Le.ite ?_ ?_ | refine Le.bind ?_ (fun _ => ?_) | refine Le.loop2 (fun _ => ?_) | refine Le.elim2 (fun _ => ?_) (fun _ => ?_))

set_option maxRecDepth 100000 in
theorem bridge_table_play_mF_le_bridge_table_best {rec_bridge_table_best1 rec_bridge_table_best2 : Int → List ((Int × Int) × Int) → List Int → Int → Option (Int × List ((Int × Int) × Int) × List Int)} (h_rec_bridge_table_best : ∀ a0 a1 a2 a3, Le (rec_bridge_table_best1 a0 a1 a2 a3) (rec_bridge_table_best2 a0 a1 a2 a3)) : ∀ (n : Nat) (t_strain1 : Int) (t_known1 : List ((Int × Int) × Int)) (d1 : List Int) (leader1 : Int) (l1 : List Int), Le (bridge_table_play_mF rec_bridge_table_best1 n t_strain1 t_known1 d1 leader1 l1) (bridge_table_play_mF rec_bridge_table_best2 n t_strain1 t_known1 d1 leader1 l1)
  | 0, _, _, _, _, _ => fun _ h => by cases h
  | n + 1, _, _, _, _, _ => Le.trans' (bridge_table_play_B_le_bridge_table_best h_rec_bridge_table_best _ _ _ _ _ _) (bridge_table_play_B_le _ (fun a0 a1 a2 a3 a4 => bridge_table_play_mF_le_bridge_table_best h_rec_bridge_table_best n a0 a1 a2 a3 a4) _ _ _ _ _)

set_option maxRecDepth 100000 in
theorem bridge_table_play_m_le_bridge_table_best {rec_bridge_table_best1 rec_bridge_table_best2 : Int → List ((Int × Int) × Int) → List Int → Int → Option (Int × List ((Int × Int) × Int) × List Int)} (h_rec_bridge_table_best : ∀ a0 a1 a2 a3, Le (rec_bridge_table_best1 a0 a1 a2 a3) (rec_bridge_table_best2 a0 a1 a2 a3)) (t_strain1 : Int) (t_known1 : List ((Int × Int) × Int)) (d1 : List Int) (leader1 : Int) (l1 : List Int) : Le (bridge_table_play_m rec_bridge_table_best1 t_strain1 t_known1 d1 leader1 l1) (bridge_table_play_m rec_bridge_table_best2 t_strain1 t_known1 d1 leader1 l1) :=
  recM_le (fun n => bridge_table_play_mF_le_bridge_table_best h_rec_bridge_table_best n t_strain1 t_known1 d1 leader1 l1) (fun n => bridge_table_play_mF_le _ n t_strain1 t_known1 d1 leader1 l1)

noncomputable def bridge_table_best_J2  (rec_bridge_table_best : Int → List ((Int × Int) × Int) → List Int → Int → Option (Int × List ((Int × Int) × Int) × List Int)) (t_strain1 : Int) (t_known1 : List ((Int × Int) × Int)) (d1 : List Int) (leader1 : Int) (r1 : (Int × Int)) : Option (Int × List ((Int × Int) × Int) × List Int) :=
  ((bridge_table_play_m rec_bridge_table_best) t_strain1 t_known1 d1 leader1 ([] : List Int)).bind fun r2 => some (r2.1, (mput (r1.1, r1.2) r2.1 r2.2.1), r2.2.2)

noncomputable def bridge_table_best_J1  (rec_bridge_table_best : Int → List ((Int × Int) × Int) → List Int → Int → Option (Int × List ((Int × Int) × Int) × List Int)) (t_strain1 : Int) (t_known1 : List ((Int × Int) × Int)) (d1 : List Int) (leader1 : Int) (r1 : (Int × Int)) : Option (Int × List ((Int × Int) × Int) × List Int) :=
  if (mhas (r1.1, r1.2) t_known1) then (some ((mget (0 : Int) (r1.1, r1.2) t_known1), t_known1, d1)) else ((bridge_table_best_J2 rec_bridge_table_best t_strain1 t_known1 d1 leader1 r1))

noncomputable def bridge_table_best_B (rec_bridge_table_best : Int → List ((Int × Int) × Int) → List Int → Int → Option (Int × List ((Int × Int) × Int) × List Int)) (t_strain1 : Int) (t_known1 : List ((Int × Int) × Int)) (d1 : List Int) (leader1 : Int) : Option (Int × List ((Int × Int) × Int) × List Int) :=
  (bridge_table_state_m t_strain1 t_known1 d1 leader1).bind fun r1 => if (r1.1 == 0) then (some (0, t_known1, d1)) else ((bridge_table_best_J1 rec_bridge_table_best t_strain1 t_known1 d1 leader1 r1))

noncomputable def bridge_table_best_mF : Nat → Int → List ((Int × Int) × Int) → List Int → Int → Option (Int × List ((Int × Int) × Int) × List Int)
  | 0 => fun _ _ _ _ => none
  | n + 1 => fun t_strain1 t_known1 d1 leader1 => bridge_table_best_B (bridge_table_best_mF n) t_strain1 t_known1 d1 leader1

noncomputable def bridge_table_best_m (t_strain1 : Int) (t_known1 : List ((Int × Int) × Int)) (d1 : List Int) (leader1 : Int) : Option (Int × List ((Int × Int) × Int) × List Int) :=
  recM fun n => bridge_table_best_mF n t_strain1 t_known1 d1 leader1

set_option maxRecDepth 100000 in
set_option maxHeartbeats 4000000 in
theorem bridge_table_best_wB {rec_bridge_table_best : Int → List ((Int × Int) × Int) → List Int → Int → Option (Int × List ((Int × Int) × Int) × List Int)} (ih_bridge_table_best : ∀ {g1 : Nat} {t_strain1 : Int} {g2 : Nat} {t_known1 : List ((Int × Int) × Int)} {g3 : Nat} {d1 : List Int} {leader1 : Int} {r : (Int × List ((Int × Int) × Int) × List Int)} {w0 w : World} {B : Nat} {fs : List HP} (_ : rec_bridge_table_best t_strain1 t_known1 d1 leader1 = some r) (_ : Sep w0 B w (blk g1 150 #[.int .i64 t_strain1, .map (some g2)] :: mapH kf198 (Value.int .i64) g2 t_known1 :: blk g3 147 (List.toArray (([] : List Value) ++ (arr1 (Value.int .i64) (0 : Int) 52 d1 ++ ([] : List Value)))) :: fs)), Calls Try.prog 113 #[.pointer (some ⟨g1, 0, none⟩), .pointer (some ⟨g3, 0, none⟩), .int .i64 leader1] w fun e w' => ∃ v, e = .returned v ∧ v = .int .i64 r.1 ∧ Sep w0 B w' (blk g1 150 #[.int .i64 t_strain1, .map (some g2)] :: mapH kf198 (Value.int .i64) g2 r.2.1 :: blk g3 147 (List.toArray (([] : List Value) ++ (arr1 (Value.int .i64) (0 : Int) 52 r.2.2 ++ ([] : List Value)))) :: fs)) {g1 : Nat} {t_strain1 : Int} {g2 : Nat} {t_known1 : List ((Int × Int) × Int)} {g3 : Nat} {d1 : List Int} {leader1 : Int} {r : (Int × List ((Int × Int) × Int) × List Int)} {w0 w : World} {B : Nat} {fs : List HP} (hm : bridge_table_best_B rec_bridge_table_best t_strain1 t_known1 d1 leader1 = some r) (hS : Sep w0 B w (blk g1 150 #[.int .i64 t_strain1, .map (some g2)] :: mapH kf198 (Value.int .i64) g2 t_known1 :: blk g3 147 (List.toArray (([] : List Value) ++ (arr1 (Value.int .i64) (0 : Int) 52 d1 ++ ([] : List Value)))) :: fs)) :
    Calls Try.prog 113 #[.pointer (some ⟨g1, 0, none⟩), .pointer (some ⟨g3, 0, none⟩), .int .i64 leader1] w fun e w' => ∃ v, e = .returned v ∧ v = .int .i64 r.1 ∧ Sep w0 B w' (blk g1 150 #[.int .i64 t_strain1, .map (some g2)] :: mapH kf198 (Value.int .i64) g2 r.2.1 :: blk g3 147 (List.toArray (([] : List Value) ++ (arr1 (Value.int .i64) (0 : Int) 52 r.2.2 ++ ([] : List Value)))) :: fs) := by
  unfold bridge_table_best_B at hm
  replace hm := start_b hm
  refine enter (l := [.pointer (some ⟨g1, 0, none⟩), .pointer (some ⟨g3, 0, none⟩), .int .i64 leader1]) (n := 40) Try.func113 rfl rfl (by simp) (fun a hF => ?_)
  refine reg [] [] [0, 1, 2] [pl 0 (.pointer (some ⟨g1, 0, none⟩)), pl 1 (.pointer (some ⟨g3, 0, none⟩)), pl 2 (.int .i64 leader1)] hF hS Fol (by kernel_rfl) (by kernel_rfl) (by kernel_rfl) ?_ (fun a w hF hS => ?_)
  · exact obs_nil
  refine seqR ?_
  obtain ⟨r1, hr1, hm⟩ := call_b hm
  refine at_run 4 [⟨false, [], callFunc 158 #[.pointer (some ⟨g1, 0, none⟩), .pointer (some ⟨g3, 0, none⟩), .int .i64 leader1], .agg #[.int .u64 r1.1, .int .i64 r1.2]⟩] [none, none, none, some (.agg #[.int .u64 r1.1, .int .i64 r1.2])] [0, 1, 2, 14] [pl 0 (.pointer (some ⟨g1, 0, none⟩)), pl 1 (.pointer (some ⟨g3, 0, none⟩)), pl 2 (.int .i64 leader1), pl 14 (.agg #[.int .u64 r1.1, .int .i64 r1.2])] hF hS (by kernel_rfl) (by kernel_rfl) ?_ (fun a w hF hS => ?_)
  · exact obs_cons (ob_call Try.func158 (by kernel_rfl) rfl (fun _ _ hS => bridge_table_state_w hr1 hS )) <| obs_nil
  refine at_do (d := 7) (s := vS (Instr.alloc 198 true (.tuple #[]))) (v := .pointer (some ⟨w.heap.size, 0, none⟩)) (w' := w.alloc (.cells #[.int .u64 0, .int .i64 0] 198)) hF (by kernel_rfl) (by kernel_rfl) (by kernel_rfl) (fun a hF => ?_)
  have hS : Sep w0 B (w.alloc (.cells #[.int .u64 0, .int .i64 0] 198)) (blk w.heap.size 198 #[.int .u64 0, .int .i64 0] :: (blk g1 150 #[.int .i64 t_strain1, .map (some g2)] :: mapH kf198 (Value.int .i64) g2 t_known1 :: blk g3 147 (List.toArray (([] : List Value) ++ (arr1 (Value.int .i64) (0 : Int) 52 d1 ++ ([] : List Value)))) :: fs)) := hS.box 198 #[.int .u64 0, .int .i64 0]
  generalize w.heap.size = g4 at hF hS
  generalize w.alloc (.cells #[.int .u64 0, .int .i64 0] 198) = w at hS ⊢
  obtain ⟨w, hrun, hS⟩ := run_putA (P := Try.prog) (t := 198) (us := #[.int .u64 r1.1, .int .i64 r1.2]) (o := 0) (hS.at_ 0 rfl) (by kernel_rfl) (all_one (by kernel_rfl)) (Nat.le_of_ble_eq_true (by kernel_rfl))
  refine at_skip hF (by kernel_rfl) hrun ?_
  have hS : Sep w0 B w (blk g4 198 #[.int .u64 r1.1, .int .i64 r1.2] :: blk g1 150 #[.int .i64 t_strain1, .map (some g2)] :: mapH kf198 (Value.int .i64) g2 t_known1 :: blk g3 147 (List.toArray (([] : List Value) ++ (arr1 (Value.int .i64) (0 : Int) 52 d1 ++ ([] : List Value)))) :: fs) := hS
  refine at_end [0, 1, 2, 7] [pl 0 (.pointer (some ⟨g1, 0, none⟩)), pl 1 (.pointer (some ⟨g3, 0, none⟩)), pl 2 (.int .i64 leader1), pl 7 (.pointer (some ⟨g4, 0, none⟩))] hF rfl (by kernel_rfl) (fun hF => ?_)
  refine then_n ?_
  refine seq_cut (fun a w => Fr 40 [pl 0 (.pointer (some ⟨g1, 0, none⟩)), pl 1 (.pointer (some ⟨g3, 0, none⟩)), pl 2 (.int .i64 leader1), pl 7 (.pointer (some ⟨g4, 0, none⟩))] a ∧ Sep w0 B w (blk g1 150 #[.int .i64 t_strain1, .map (some g2)] :: mapH kf198 (Value.int .i64) g2 t_known1 :: blk g3 147 (List.toArray (([] : List Value) ++ (arr1 (Value.int .i64) (0 : Int) 52 d1 ++ ([] : List Value)))) :: blk g4 198 #[.int .u64 r1.1, .int .i64 r1.2] :: fs) ∧ ((bridge_table_best_J1 rec_bridge_table_best t_strain1 t_known1 d1 leader1 r1)).bind some = some r) ?_ ?_
  · rintro a w ⟨hF, hS, hm⟩
    unfold bridge_table_best_J1 at hm
    refine seq_cut (fun a w => Fr 40 [pl 0 (.pointer (some ⟨g1, 0, none⟩)), pl 1 (.pointer (some ⟨g3, 0, none⟩)), pl 2 (.int .i64 leader1), pl 7 (.pointer (some ⟨g4, 0, none⟩))] a ∧ Sep w0 B w (blk g1 150 #[.int .i64 t_strain1, .map (some g2)] :: mapH kf198 (Value.int .i64) g2 t_known1 :: blk g3 147 (List.toArray (([] : List Value) ++ (arr1 (Value.int .i64) (0 : Int) 52 d1 ++ ([] : List Value)))) :: blk g4 198 #[.int .u64 r1.1, .int .i64 r1.2] :: fs) ∧ ((bridge_table_best_J2 rec_bridge_table_best t_strain1 t_known1 d1 leader1 r1)).bind some = some r) ?_ ?_
    · rintro a w ⟨hF, hS, hm⟩
      unfold bridge_table_best_J2 at hm
      refine seqR ?_
      obtain ⟨r2, hr2, hm⟩ := call_b hm
      refine at_run 3 [] [] [0, 7, 29, 30, 31] [pl 0 (.pointer (some ⟨g1, 0, none⟩)), pl 7 (.pointer (some ⟨g4, 0, none⟩)), pl 29 (.pointer (some ⟨g1, 0, none⟩)), pl 30 (.pointer (some ⟨g3, 0, none⟩)), pl 31 (.int .i64 leader1)] hF hS (by kernel_rfl) (by kernel_rfl) ?_ (fun a w hF hS => ?_)
      · exact obs_nil
      refine at_call (f := 159) (args := #[.pointer (some ⟨g1, 0, none⟩), .pointer (some ⟨g3, 0, none⟩), .int .i64 leader1, .slice none 0 0]) (d := 32) hF (by kernel_rfl) (by kernel_rfl) Try.func159 (by kernel_rfl) rfl (bridge_table_play_w ih_bridge_table_best hr2 hS (fun _ hS => Rd.nil _ _ _) (Nat.le_refl _) rfl) (fun v a w hR hF => ?_)
      clear hS
      obtain ⟨rfl, hS⟩ := hR
      have hS : Sep w0 B w (blk g1 150 #[.int .i64 t_strain1, .map (some g2)] :: mapH kf198 (Value.int .i64) g2 r2.2.1 :: blk g3 147 (List.toArray (([] : List Value) ++ (arr1 (Value.int .i64) (0 : Int) 52 r2.2.2 ++ ([] : List Value)))) :: blk g4 198 #[.int .u64 r1.1, .int .i64 r1.2] :: fs) := hS
      refine at_run 1 [] [] [0, 7, 10] [pl 0 (.pointer (some ⟨g1, 0, none⟩)), pl 7 (.pointer (some ⟨g4, 0, none⟩)), pl 10 (.int .i64 r2.1)] hF hS (by kernel_rfl) (by kernel_rfl) ?_ (fun a w hF hS => ?_)
      · exact obs_nil
      refine at_end [0, 7, 10] [pl 0 (.pointer (some ⟨g1, 0, none⟩)), pl 7 (.pointer (some ⟨g4, 0, none⟩)), pl 10 (.int .i64 r2.1)] hF rfl (by kernel_rfl) (fun hF => ?_)
      refine then_n ?_
      refine wpIn_seq ?_
      refine regMix4 [0, 1, 2, 3, 4, 5] [6] [⟨false, [], vS (Instr.loadAt 148 (.pointer (some ⟨g1, 1, none⟩))), .map (some g2)⟩, ⟨false, [], vS (Instr.loadAt 198 (.pointer (some ⟨g4, 0, none⟩))), .agg #[.int .u64 r1.1, .int .i64 r1.2]⟩] [none, none, none, some (.map (some g2)), some (.agg #[.int .u64 r1.1, .int .i64 r1.2]), none] [10, 36, 37, 38] [pl 10 (.int .i64 r2.1), pl 36 (.map (some g2)), pl 37 (.agg #[.int .u64 r1.1, .int .i64 r1.2]), pl 38 (.int .i64 r2.1)] hF hS Fol (by kernel_rfl) (by kernel_rfl) (by kernel_rfl) (by kernel_rfl) (by kernel_rfl) ?_ (fun a w hF hS => ?_)
      · exact obs_cons (ob_load Agg148 (fun _ _ hS => (hS.at_ 0 rfl).cell rfl)) <| obs_cons (ob_loadA (cs := #[.int .u64 r1.1, .int .i64 r1.2]) (by kernel_rfl) (by kernel_rfl) (fun _ _ hS => (hS.at_ 3 rfl).cellsAt 0 (by rfl))) <| obs_nil
      obtain ⟨w, hrun, hS⟩ := run_mput (P := Try.prog) (t := 148) (vf := (Value.int .i64)) MK198 UndM148 (r1.1, r1.2) r2.1 (hS.at_ 1 rfl)
      refine at_skip hF (by kernel_rfl) hrun ?_
      have hS : Sep w0 B w (blk g1 150 #[.int .i64 t_strain1, .map (some g2)] :: mapH kf198 (Value.int .i64) g2 (mput (r1.1, r1.2) r2.1 r2.2.1) :: blk g3 147 (List.toArray (([] : List Value) ++ (arr1 (Value.int .i64) (0 : Int) 52 r2.2.2 ++ ([] : List Value)))) :: blk g4 198 #[.int .u64 r1.1, .int .i64 r1.2] :: fs) := hS
      refine at_end [10] [pl 10 (.int .i64 r2.1)] hF rfl (by kernel_rfl) (fun hF => ?_)
      refine np_n ?_
      refine then_n ?_
      refine reg [] [] [6] [pl 6 (.int .i64 r2.1)] hF hS Fol (by kernel_rfl) (by kernel_rfl) (by kernel_rfl) ?_ (fun a w hF hS => ?_)
      · exact obs_nil
      refine wpIn_ret ?_
      have hS := hS.pickN 4 [0, 1, 2] (by decide)
      have hm : some (r2.1, (mput (r1.1, r1.2) r2.1 r2.2.1), r2.2.2) = some r := hm
      obtain rfl := Option.some.inj hm
      exact retV (rs := [.tmp 6]) (vs := [.int .i64 r2.1]) hF rfl (rv_t (by kernel_rfl) <| rv_nil) rfl ⟨_, rfl, rfl, hS⟩
    · refine reg [⟨false, [], vS (Instr.loadAt 148 (.pointer (some ⟨g1, 1, none⟩))), .map (some g2)⟩, ⟨false, [], vS (Instr.loadAt 198 (.pointer (some ⟨g4, 0, none⟩))), .agg #[.int .u64 r1.1, .int .i64 r1.2]⟩, ⟨false, [], vS (Instr.lookup 148 (.map (some g2)) (.agg #[.int .u64 r1.1, .int .i64 r1.2]) true), .tuple #[.int .i64 (mget (0 : Int) (r1.1, r1.2) t_known1), .bool (mhas (r1.1, r1.2) t_known1)]⟩] [none, none, none, some (.map (some g2)), some (.agg #[.int .u64 r1.1, .int .i64 r1.2]), some (.tuple #[.int .i64 (mget (0 : Int) (r1.1, r1.2) t_known1), .bool (mhas (r1.1, r1.2) t_known1)]), none, none, none, none, none] [0, 1, 2, 7, 8, 9] [pl 0 (.pointer (some ⟨g1, 0, none⟩)), pl 1 (.pointer (some ⟨g3, 0, none⟩)), pl 2 (.int .i64 leader1), pl 7 (.pointer (some ⟨g4, 0, none⟩)), pl 8 (.int .i64 (mget (0 : Int) (r1.1, r1.2) t_known1)), pl 9 (.bool (mhas (r1.1, r1.2) t_known1))] hF hS Fol (by kernel_rfl) (by kernel_rfl) (by kernel_rfl) ?_ (fun a w hF hS => ?_)
      · exact obs_cons (ob_load Agg148 (fun _ _ hS => (hS.at_ 0 rfl).cell rfl)) <| obs_cons (ob_loadA (cs := #[.int .u64 r1.1, .int .i64 r1.2]) (by kernel_rfl) (by kernel_rfl) (fun _ _ hS => (hS.at_ 3 rfl).cellsAt 0 (by rfl))) <| obs_cons (ob_look2 (k := (r1.1, r1.2)) (m := t_known1) MK198 UndM148 (z := (0 : Int)) MZ3 (fun _ hS => ⟨_, _, _, _, hS.at_ 1 rfl⟩)) <| obs_nil
      refine reg [] [] [0, 1, 2, 7, 8, 27] [pl 0 (.pointer (some ⟨g1, 0, none⟩)), pl 1 (.pointer (some ⟨g3, 0, none⟩)), pl 2 (.int .i64 leader1), pl 7 (.pointer (some ⟨g4, 0, none⟩)), pl 8 (.int .i64 (mget (0 : Int) (r1.1, r1.2) t_known1)), pl 27 (.bool (mhas (r1.1, r1.2) t_known1))] hF hS Fol (by kernel_rfl) (by kernel_rfl) (by kernel_rfl) ?_ (fun a w hF hS => ?_)
      · exact obs_nil
      refine cond_ev (t := 27) (b := (mhas (r1.1, r1.2) t_known1)) hF (by kernel_rfl) (fun hb => ?_) (fun hb => ?_)
      · replace hm := if_t hm hb
        refine reg [] [] [6] [pl 6 (.int .i64 (mget (0 : Int) (r1.1, r1.2) t_known1))] hF hS Fol (by kernel_rfl) (by kernel_rfl) (by kernel_rfl) ?_ (fun a w hF hS => ?_)
        · exact obs_nil
        refine wpIn_ret ?_
        refine then_r ?_
        have hS := hS.pickN 4 [0, 1, 2] (by decide)
        have hm : some ((mget (0 : Int) (r1.1, r1.2) t_known1), t_known1, d1) = some r := hm
        obtain rfl := Option.some.inj hm
        exact retV (rs := [.tmp 6]) (vs := [.int .i64 (mget (0 : Int) (r1.1, r1.2) t_known1)]) hF rfl (rv_t (by kernel_rfl) <| rv_nil) rfl ⟨_, rfl, rfl, hS⟩
      · replace hm := if_f hm hb
        refine wpIn_skip ?_
        refine then_n ?_
        exact ⟨hF.weak [0, 1, 2, 7] (by kernel_rfl), hS, hm⟩
  · refine reg [⟨false, [], vS (Instr.loadAt 196 (.pointer (some ⟨g4, 0, none⟩))), .int .u64 r1.1⟩] [none, some (.int .u64 r1.1), none] [0, 1, 2, 7, 17] [pl 0 (.pointer (some ⟨g1, 0, none⟩)), pl 1 (.pointer (some ⟨g3, 0, none⟩)), pl 2 (.int .i64 leader1), pl 7 (.pointer (some ⟨g4, 0, none⟩)), pl 17 (.bool (r1.1 == 0))] hF hS Fol (by kernel_rfl) (by kernel_rfl) (by kernel_rfl) ?_ (fun a w hF hS => ?_)
    · exact obs_cons (ob_load Agg196 (fun _ _ hS => (hS.at_ 0 rfl).cell rfl)) <| obs_nil
    refine cond_ev (t := 17) (b := (r1.1 == 0)) hF (by kernel_rfl) (fun hb => ?_) (fun hb => ?_)
    · replace hm := if_t hm hb
      refine reg [] [] [6] [pl 6 (.int .i64 0)] hF hS Fol (by kernel_rfl) (by kernel_rfl) (by kernel_rfl) ?_ (fun a w hF hS => ?_)
      · exact obs_nil
      refine wpIn_ret ?_
      refine then_r ?_
      have hS := hS.pickN 4 [1, 2, 3] (by decide)
      have hm : some (0, t_known1, d1) = some r := hm
      obtain rfl := Option.some.inj hm
      exact retV (rs := [.tmp 6]) (vs := [.int .i64 0]) hF rfl (rv_t (by kernel_rfl) <| rv_nil) rfl ⟨_, rfl, rfl, hS⟩
    · replace hm := if_f hm hb
      refine wpIn_skip ?_
      refine then_n ?_
      have hS := hS.pickN 4 [1, 2, 3, 0] (by decide)
      exact ⟨hF.weak [0, 1, 2, 7] (by kernel_rfl), hS, hm⟩

theorem bridge_table_best_w {g1 : Nat} {t_strain1 : Int} {g2 : Nat} {t_known1 : List ((Int × Int) × Int)} {g3 : Nat} {d1 : List Int} {leader1 : Int} {r : (Int × List ((Int × Int) × Int) × List Int)} {w0 w : World} {B : Nat} {fs : List HP} (hm : bridge_table_best_m t_strain1 t_known1 d1 leader1 = some r) (hS : Sep w0 B w (blk g1 150 #[.int .i64 t_strain1, .map (some g2)] :: mapH kf198 (Value.int .i64) g2 t_known1 :: blk g3 147 (List.toArray (([] : List Value) ++ (arr1 (Value.int .i64) (0 : Int) 52 d1 ++ ([] : List Value)))) :: fs)) :
    Calls Try.prog 113 #[.pointer (some ⟨g1, 0, none⟩), .pointer (some ⟨g3, 0, none⟩), .int .i64 leader1] w fun e w' => ∃ v, e = .returned v ∧ v = .int .i64 r.1 ∧ Sep w0 B w' (blk g1 150 #[.int .i64 t_strain1, .map (some g2)] :: mapH kf198 (Value.int .i64) g2 r.2.1 :: blk g3 147 (List.toArray (([] : List Value) ++ (arr1 (Value.int .i64) (0 : Int) 52 r.2.2 ++ ([] : List Value)))) :: fs) := by
  have key : ∀ (n : Nat) {g1 : Nat} {t_strain1 : Int} {g2 : Nat} {t_known1 : List ((Int × Int) × Int)} {g3 : Nat} {d1 : List Int} {leader1 : Int} {r : (Int × List ((Int × Int) × Int) × List Int)} {w0 w : World} {B : Nat} {fs : List HP} (_ : bridge_table_best_mF n t_strain1 t_known1 d1 leader1 = some r) (_ : Sep w0 B w (blk g1 150 #[.int .i64 t_strain1, .map (some g2)] :: mapH kf198 (Value.int .i64) g2 t_known1 :: blk g3 147 (List.toArray (([] : List Value) ++ (arr1 (Value.int .i64) (0 : Int) 52 d1 ++ ([] : List Value)))) :: fs)), Calls Try.prog 113 #[.pointer (some ⟨g1, 0, none⟩), .pointer (some ⟨g3, 0, none⟩), .int .i64 leader1] w fun e w' => ∃ v, e = .returned v ∧ v = .int .i64 r.1 ∧ Sep w0 B w' (blk g1 150 #[.int .i64 t_strain1, .map (some g2)] :: mapH kf198 (Value.int .i64) g2 r.2.1 :: blk g3 147 (List.toArray (([] : List Value) ++ (arr1 (Value.int .i64) (0 : Int) 52 r.2.2 ++ ([] : List Value)))) :: fs) := by
    intro n
    induction n with
    | zero => intros; rename_i hm0 _; cases hm0
    | succ n ih => intros; rename_i hm0 hS0; exact bridge_table_best_wB (rec_bridge_table_best := bridge_table_best_mF n) (fun hm hS => ih hm hS) hm0 hS0
  obtain ⟨n, hn⟩ := recM_some hm
  exact key n hn hS

set_option maxRecDepth 100000 in
theorem bridge_table_best_J2_le_bridge_table_best {rec_bridge_table_best1 rec_bridge_table_best2 : Int → List ((Int × Int) × Int) → List Int → Int → Option (Int × List ((Int × Int) × Int) × List Int)} (h_rec_bridge_table_best : ∀ a0 a1 a2 a3, Le (rec_bridge_table_best1 a0 a1 a2 a3) (rec_bridge_table_best2 a0 a1 a2 a3)) (t_strain1 : Int) (t_known1 : List ((Int × Int) × Int)) (d1 : List Int) (leader1 : Int) (r1 : (Int × Int)) : Le (bridge_table_best_J2 rec_bridge_table_best1 t_strain1 t_known1 d1 leader1 r1) (bridge_table_best_J2 rec_bridge_table_best2 t_strain1 t_known1 d1 leader1 r1) := by
  unfold bridge_table_best_J2
  repeat' (first | with_reducible exact Le.refl _ | with_reducible exact h_rec_bridge_table_best _ _ _ _ | with_reducible exact bridge_table_play_m_le_bridge_table_best h_rec_bridge_table_best _ _ _ _ _ | with_reducible refine Le.asrt ?_ | with_reducible refine Le.ite ?_ ?_ | refine Le.bind ?_ (fun _ => ?_) | refine Le.loop2 (fun _ => ?_) | refine Le.elim2 (fun _ => ?_) (fun _ => ?_))

set_option maxRecDepth 100000 in
theorem bridge_table_best_J1_le_bridge_table_best {rec_bridge_table_best1 rec_bridge_table_best2 : Int → List ((Int × Int) × Int) → List Int → Int → Option (Int × List ((Int × Int) × Int) × List Int)} (h_rec_bridge_table_best : ∀ a0 a1 a2 a3, Le (rec_bridge_table_best1 a0 a1 a2 a3) (rec_bridge_table_best2 a0 a1 a2 a3)) (t_strain1 : Int) (t_known1 : List ((Int × Int) × Int)) (d1 : List Int) (leader1 : Int) (r1 : (Int × Int)) : Le (bridge_table_best_J1 rec_bridge_table_best1 t_strain1 t_known1 d1 leader1 r1) (bridge_table_best_J1 rec_bridge_table_best2 t_strain1 t_known1 d1 leader1 r1) := by
  unfold bridge_table_best_J1
  repeat' (first | with_reducible exact Le.refl _ | with_reducible exact h_rec_bridge_table_best _ _ _ _ | with_reducible exact bridge_table_best_J2_le_bridge_table_best h_rec_bridge_table_best _ _ _ _ _ | with_reducible refine Le.asrt ?_ | with_reducible refine Le.ite ?_ ?_ | refine Le.bind ?_ (fun _ => ?_) | refine Le.loop2 (fun _ => ?_) | refine Le.elim2 (fun _ => ?_) (fun _ => ?_))

set_option maxRecDepth 100000 in
theorem bridge_table_best_B_le {rec_bridge_table_best1 rec_bridge_table_best2 : Int → List ((Int × Int) × Int) → List Int → Int → Option (Int × List ((Int × Int) × Int) × List Int)} (h_rec_bridge_table_best : ∀ a0 a1 a2 a3, Le (rec_bridge_table_best1 a0 a1 a2 a3) (rec_bridge_table_best2 a0 a1 a2 a3)) (t_strain1 : Int) (t_known1 : List ((Int × Int) × Int)) (d1 : List Int) (leader1 : Int) : Le (bridge_table_best_B rec_bridge_table_best1 t_strain1 t_known1 d1 leader1) (bridge_table_best_B rec_bridge_table_best2 t_strain1 t_known1 d1 leader1) := by
  unfold bridge_table_best_B
  repeat' (first | with_reducible exact Le.refl _ | with_reducible exact h_rec_bridge_table_best _ _ _ _ | with_reducible exact bridge_table_best_J1_le_bridge_table_best h_rec_bridge_table_best _ _ _ _ _ | with_reducible refine Le.asrt ?_ | with_reducible refine Le.ite ?_ ?_ | refine Le.bind ?_ (fun _ => ?_) | refine Le.loop2 (fun _ => ?_) | refine Le.elim2 (fun _ => ?_) (fun _ => ?_))

set_option maxRecDepth 100000 in
theorem bridge_table_best_mF_le : ∀ (n : Nat) (t_strain1 : Int) (t_known1 : List ((Int × Int) × Int)) (d1 : List Int) (leader1 : Int), Le (bridge_table_best_mF n t_strain1 t_known1 d1 leader1) (bridge_table_best_mF (n + 1) t_strain1 t_known1 d1 leader1)
  | 0, _, _, _, _ => fun _ h => by cases h
  | n + 1, _, _, _, _ => bridge_table_best_B_le (fun a0 a1 a2 a3 => bridge_table_best_mF_le n a0 a1 a2 a3) _ _ _ _

set_option maxRecDepth 100000 in
theorem bridge_table_best_m_of (N : Nat) (t_strain1 : Int) (t_known1 : List ((Int × Int) × Int)) (d1 : List Int) (leader1 : Int) {r : (Int × List ((Int × Int) × Int) × List Int)} (h : bridge_table_best_mF N t_strain1 t_known1 d1 leader1 = some r) : bridge_table_best_m t_strain1 t_known1 d1 leader1 = some r :=
  recM_mono (fun n => bridge_table_best_mF_le n _ _ _ _) h

noncomputable def bridge_Best_J4  (z1 : Int) : Option (St Int (Fl Unit (Int × Int))) :=
  some (.next (w64 (z1 + 1)))

noncomputable def bridge_Best_J3  (hands1 : List (List Int)) (z1 : Int) : Option (St Int (Fl Unit (Int × Int))) :=
  asrt (0 ≤ z1 ∧ z1 < (hands1.length : Int)) <| asrt (0 ≤ (0 : Int) ∧ (0 : Int) < (hands1.length : Int)) <| if ((((((geti2 hands1 z1).length : Nat) : Int) != (((geti2 hands1 0).length : Nat) : Int)) || (decide ((((geti2 hands1 z1).length : Nat) : Int) < 1))) || (decide ((4 : Int) < (((geti2 hands1 z1).length : Nat) : Int)))) then (some (.done (.ret (0, 11)))) else ((bridge_Best_J4 z1))

noncomputable def bridge_Best_J9  (d1 : List Int) (z2 : Int) : Option (St (List Int × Int) (List Int)) :=
  some (.next ((d1.set (Int.toNat z2) 4), (w64 (z2 + 1))))

noncomputable def bridge_Best_J8  (d1 : List Int) (z2 : Int) : Option (St (List Int × Int) (List Int)) :=
  asrt (0 ≤ z2 ∧ z2 < 52) <| asrt (z2 < (d1.length : Int)) <| (bridge_Best_J9 d1 z2)

noncomputable def bridge_Best_L2  : (List Int × Int) → Option (St (List Int × Int) (List Int)) :=
  fun (x : (List Int × Int)) => match x with | (d1, z2) => if (decide (z2 < 52)) then ((bridge_Best_J8 d1 z2)) else (some (.done d1))

noncomputable def bridge_Best_J14  (hands1 : List (List Int)) (z3 : Int) (d5 : List Int) (z4 : Int) : Option (St (List Int × Int) (List Int)) :=
  some (.next ((d5.set (Int.toNat (geti (geti2 hands1 z3) z4)) z3), (w64 (z4 + 1))))

noncomputable def bridge_Best_J13  (hands1 : List (List Int)) (z3 : Int) (d5 : List Int) (z4 : Int) : Option (St (List Int × Int) (List Int)) :=
  asrt (0 ≤ z4 ∧ z4 < (((geti2 hands1 z3).length : Nat) : Int)) <| asrt (0 ≤ (geti (geti2 hands1 z3) z4) ∧ (geti (geti2 hands1 z3) z4) < 52) <| asrt ((geti (geti2 hands1 z3) z4) < (d5.length : Int)) <| (bridge_Best_J14 hands1 z3 d5 z4)

noncomputable def bridge_Best_L4  (hands1 : List (List Int)) (z3 : Int) : (List Int × Int) → Option (St (List Int × Int) (List Int)) :=
  fun (x : (List Int × Int)) => match x with | (d5, z4) => if (decide (z4 < (((geti2 hands1 z3).length : Nat) : Int))) then ((bridge_Best_J13 hands1 z3 d5 z4)) else (some (.done d5))

noncomputable def bridge_Best_J12  (z3 : Int) (d6 : List Int) : Option (St (List Int × Int) (List Int)) :=
  some (.next (d6, (w64 (z3 + 1))))

noncomputable def bridge_Best_K4  (z3 : Int) : (List Int) → Option (St (List Int × Int) (List Int)) :=
  fun (x : (List Int)) => match x with | d6 => (bridge_Best_J12 z3) d6

noncomputable def bridge_Best_J11  (hands1 : List (List Int)) (d3 : List Int) (z3 : Int) : Option (St (List Int × Int) (List Int)) :=
  asrt (0 ≤ z3 ∧ z3 < (hands1.length : Int)) <| (loop (bridge_Best_L4 hands1 z3) (d3, 0)).bind (bridge_Best_K4 z3)

noncomputable def bridge_Best_L3  (hands1 : List (List Int)) : (List Int × Int) → Option (St (List Int × Int) (List Int)) :=
  fun (x : (List Int × Int)) => match x with | (d3, z3) => if (decide (z3 < (hands1.length : Int))) then ((bridge_Best_J11 hands1 d3 z3)) else (some (.done d3))

noncomputable def bridge_Best_J10  (strain1 : Int) (leader1 : Int) (d4 : List Int) : Option (Int × Int) :=
  (bridge_table_best_m strain1 ([] : List ((Int × Int) × Int)) d4 leader1).bind fun r3 => some (r3.1, 0)

noncomputable def bridge_Best_K3  (strain1 : Int) (leader1 : Int) : (List Int) → Option (Int × Int) :=
  fun (x : (List Int)) => match x with | d4 => (bridge_Best_J10 strain1 leader1) d4

noncomputable def bridge_Best_J7  (hands1 : List (List Int)) (strain1 : Int) (leader1 : Int) (d2 : List Int) : Option (Int × Int) :=
  (loop (bridge_Best_L3 hands1) (d2, 0)).bind (bridge_Best_K3 strain1 leader1)

noncomputable def bridge_Best_K2  (hands1 : List (List Int)) (strain1 : Int) (leader1 : Int) : (List Int) → Option (Int × Int) :=
  fun (x : (List Int)) => match x with | d2 => (bridge_Best_J7 hands1 strain1 leader1) d2

noncomputable def bridge_Best_J6  (hands1 : List (List Int)) (strain1 : Int) (leader1 : Int) : Option (Int × Int) :=
  (loop bridge_Best_L2 ((List.replicate 52 (0 : Int)), 0)).bind (bridge_Best_K2 hands1 strain1 leader1)

noncomputable def bridge_Best_J5  (hands1 : List (List Int)) (strain1 : Int) (leader1 : Int) : Option (Int × Int) :=
  if ((decide (strain1 < 0)) || (decide ((4 : Int) < strain1))) then (some (0, 4)) else (if ((decide (leader1 < 0)) || (decide ((3 : Int) < leader1))) then (some (0, 5)) else ((bridge_Best_J6 hands1 strain1 leader1)))

noncomputable def bridge_Best_J2  (hands1 : List (List Int)) (strain1 : Int) (leader1 : Int) : Option (Int × Int) :=
  (slices_Concat_m hands1).bind fun r1 => (bridge_check_m r1).bind fun r2 => if (r2 != 0) then (some (0, r2)) else ((bridge_Best_J5 hands1 strain1 leader1))

noncomputable def bridge_Best_K1  (hands1 : List (List Int)) (strain1 : Int) (leader1 : Int) : (Fl Unit (Int × Int)) → Option (Int × Int) :=
  fun (x : (Fl Unit (Int × Int))) => match x with | .go _ => (bridge_Best_J2 hands1 strain1 leader1) | .ret x => some x

noncomputable def bridge_Best_L1  (hands1 : List (List Int)) : Int → Option (St Int (Fl Unit (Int × Int))) :=
  fun (x : Int) => match x with | z1 => if (decide (z1 < (hands1.length : Int))) then ((bridge_Best_J3 hands1 z1)) else (some (.done (.go ())))

noncomputable def bridge_Best_J1  (hands1 : List (List Int)) (strain1 : Int) (leader1 : Int) : Option (Int × Int) :=
  (loop (bridge_Best_L1 hands1) 0).bind (bridge_Best_K1 hands1 strain1 leader1)
end Go.Proofs.Ytlpaklmfgldkoaa
