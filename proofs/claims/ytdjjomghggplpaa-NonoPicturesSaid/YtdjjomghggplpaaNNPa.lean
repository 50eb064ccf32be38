/-
  Models and walks, printed by our own program (wip/gen).
-/
import Derived.Test.YtdjjomghggplpaaFB
import Derived.Test.YtdjjomghggplpaaLibD
import Derived.Test.YtdjjomghggplpaaGR
import Derived.Test.YtdjjomghggplpaaLibAS
import Derived.Test.YtdjjomghggplpaaLibBg
import Derived.Test.YtdjjomghggplpaaLibHd
import Derived.Test.YtdjjomghggplpaaFM
import Derived.Test.YtdjjomghggplpaaLibAN
namespace Go.Proofs.Ytdjjomghggplpaa
open Go Go.GL Go.RowKit




noncomputable def gameroomlaw_ints_m  (l1 : List Int) : Option (List Int) :=
  asrt ((0 : Int) + (l1.length : Int) ≤ bigN) <| some ([] ++ l1)

set_option maxRecDepth 100000 in
set_option maxHeartbeats 4000000 in
theorem gameroomlaw_ints_w  {A1 : Option Addr} {c1 : Nat} {n1 : Nat} {l1 : List Int} {r : (List Int)} {w0 w : World} {B : Nat} {fs : List HP} (hm : gameroomlaw_ints_m l1 = some r) (hS : Sep w0 B w (fs)) (hr_l1 : RdF w0 B fs A1 (vI l1)) (_hc_l1 : l1.length ≤ c1) (_hn_l1 : n1 = l1.length) :
    Calls Try.prog 28 #[.slice A1 n1 c1] w fun e w' => ∃ v, e = .returned v ∧ ∃ (A3 : Option Addr) (c3 : Nat), v = .slice A3 r.length c3 ∧ Sep w0 B w' (own 3 (.slice A3 r.length c3) (vI r) :: fs) := by
  obtain ⟨i3, hi3, hz3, hs3, hb3⟩ := info_parts Info3
  obtain rfl := _hn_l1
  unfold gameroomlaw_ints_m at hm
  replace hm := start_b hm
  refine enter (l := [.slice A1 l1.length c1]) (n := 5) Try.func28 rfl rfl (by simp) (fun a hF => ?_)
  refine reg [] [] [0] [pl 0 (.slice A1 l1.length c1)] hF hS Fol (by kernel_rfl) (by kernel_rfl) (by kernel_rfl) ?_ (fun a w hF hS => ?_)
  · exact obs_nil
  refine seqR ?_
  obtain ⟨hp1, hm⟩ := asrt_b hm
  refine at_run 1 [] [] [3] [pl 3 (.slice A1 l1.length c1)] hF hS (by kernel_rfl) (by kernel_rfl) ?_ (fun a w hF hS => ?_)
  · exact obs_nil
  have hS : Sep w0 B w (own 3 (.slice none 0 0) (vI ([] : List Int)) :: fs) := hS.nil 3
  obtain ⟨A2, c2, w, hrun, hS⟩ := run_app1 (P := Try.prog) (t := 22) (m := ([] : List Int)) (ys := l1) (A2 := A1) (m2 := l1.length) (c2 := c1) (Value.int .i64) (0 : Int) (hS.at_ 0 rfl) (hr_l1 _ (hS.dropN 1)) rfl 22 Und22 hi3 hz3 hs3 (by omega) rfl (fun _ => rfl) hp1
  have hS : Sep w0 B w (own 3 (.slice A2 (([] ++ l1).length) c2) (vI ([] ++ l1)) :: fs) := hS
  refine at_do (d := 4) hF (by kernel_rfl) (by kernel_rfl) hrun (fun a hF => ?_)
  refine at_run 1 [] [] [2] [pl 2 (.slice A2 (([] ++ l1).length) c2)] hF hS (by kernel_rfl) (by kernel_rfl) ?_ (fun a w hF hS => ?_)
  · exact obs_nil
  refine at_end [2] [pl 2 (.slice A2 (([] ++ l1).length) c2)] hF rfl (by kernel_rfl) (fun hF => ?_)
  refine then_n ?_
  refine wpIn_ret ?_
  have hm : some ([] ++ l1) = some r := hm
  obtain rfl := Option.some.inj hm
  exact retV (rs := [.tmp 2]) (vs := [.slice A2 (([] ++ l1).length) c2]) hF rfl (rv_t (by kernel_rfl) <| rv_nil) rfl ⟨_, rfl, A2, c2, rfl, hS⟩

noncomputable def gameroomlaw_copied_J3  (i1 : Int) (out3 : List (List Int)) : Option (St (List (List Int) × Int) (List (List Int))) :=
  some (.next (out3, (w64 (i1 + 1))))

noncomputable def gameroomlaw_copied_J2  (l1 : List (List Int)) (out1 : List (List Int)) (i1 : Int) : Option (St (List (List Int) × Int) (List (List Int))) :=
  asrt (0 ≤ i1 ∧ i1 < (l1.length : Int)) <| (gameroomlaw_ints_m (geti2 l1 i1)).bind fun r1 => asrt (((out1.length : Int) : Int) + 1 ≤ bigR) <| (gameroomlaw_copied_J3 i1) (out1 ++ [r1])

noncomputable def gameroomlaw_copied_J1  (out2 : List (List Int)) : Option (List (List Int)) :=
  some out2

noncomputable def gameroomlaw_copied_K1  : (List (List Int)) → Option (List (List Int)) :=
  fun (x : (List (List Int))) => match x with | out2 => gameroomlaw_copied_J1 out2

noncomputable def gameroomlaw_copied_L1  (l1 : List (List Int)) : (List (List Int) × Int) → Option (St (List (List Int) × Int) (List (List Int))) :=
  fun (x : (List (List Int) × Int)) => match x with | (out1, i1) => if (decide (i1 < (l1.length : Int))) then ((gameroomlaw_copied_J2 l1 out1 i1)) else (some (.done out1))

noncomputable def gameroomlaw_copied_m  (l1 : List (List Int)) : Option (List (List Int)) :=
  (loop (gameroomlaw_copied_L1 l1) (([] : List (List Int)), 0)).bind gameroomlaw_copied_K1

set_option maxRecDepth 100000 in
set_option maxHeartbeats 4000000 in
theorem gameroomlaw_copied_w  {A1 : Option Addr} {c1 : Nat} {n1 : Nat} {hd1 : List Hd} {l1 : List (List Int)} {r : (List (List Int))} {w0 w : World} {B : Nat} {fs : List HP} (hm : gameroomlaw_copied_m l1 = some r) (hS : Sep w0 B w (fs)) (hr_l1 : RdRowsF w0 B fs A1 hd1 l1) (_hc_l1 : l1.length ≤ c1) (_hn_l1 : n1 = l1.length) :
    Calls Try.prog 17 #[.slice A1 n1 c1] w fun e w' => ∃ v, e = .returned v ∧ ∃ (A7 : Option Addr) (c7 : Nat) (hd5 : List Hd), v = .slice A7 r.length c7 ∧ Sep w0 B w' (rows 22 3 (.slice A7 r.length c7) hd5 r :: fs) := by
  obtain ⟨i22, hi22, hz22, hs22, hb22⟩ := info_parts Info22
  obtain rfl := _hn_l1
  unfold gameroomlaw_copied_m at hm
  replace hm := start_b hm
  refine enter (l := [.slice A1 l1.length c1]) (n := 20) Try.func17 rfl rfl (by simp) (fun a hF => ?_)
  refine reg [] [] [0] [pl 0 (.slice A1 l1.length c1)] hF hS Fol (by kernel_rfl) (by kernel_rfl) (by kernel_rfl) ?_ (fun a w hF hS => ?_)
  · exact obs_nil
  refine reg [] [] [0, 3] [pl 0 (.slice A1 l1.length c1), pl 3 (.slice none 0 0)] hF hS Fol (by kernel_rfl) (by kernel_rfl) (by kernel_rfl) ?_ (fun a w hF hS => ?_)
  · exact obs_nil
  refine seq_cut (fun a w => ∃ (out2 : List (List Int)) (A3 : Option Addr) (c3 : Nat) (hd3 : List Hd), Fr 20 [pl 3 (.slice A3 out2.length c3)] a ∧ Sep w0 B w (rows 22 3 (.slice A3 out2.length c3) hd3 out2 :: fs) ∧ (gameroomlaw_copied_J1 out2).bind some = some r) ?_ ?_
  · rintro a w ⟨out2, A3, c3, hd3, hF, hS, hm⟩
    unfold gameroomlaw_copied_J1 at hm
    refine reg [] [] [2] [pl 2 (.slice A3 out2.length c3)] hF hS Fol (by kernel_rfl) (by kernel_rfl) (by kernel_rfl) ?_ (fun a w hF hS => ?_)
    · exact obs_nil
    refine wpIn_ret ?_
    have hm : some out2 = some r := hm
    obtain rfl := Option.some.inj hm
    exact retV (rs := [.tmp 2]) (vs := [.slice A3 out2.length c3]) hF rfl (rv_t (by kernel_rfl) <| rv_nil) rfl ⟨_, rfl, A3, c3, hd3, rfl, hS⟩
  · refine reg [] [] [0, 3, 4] [pl 0 (.slice A1 l1.length c1), pl 3 (.slice none 0 0), pl 4 (.int .i64 0)] hF hS Fol (by kernel_rfl) (by kernel_rfl) (by kernel_rfl) ?_ (fun a w hF hS => ?_)
    · exact obs_nil
    refine wpIn_block ?_
    have hS := hS.nilRows0 22 3
    have hl1 := (hS.at_ 0 rfl).lenR
    have hS := (hS.at_ 0 rfl).reNR hl1
    have hS : Sep w0 B w (rows 22 3 (.slice none (([] : List (List Int)).length) 0) ([]) ([] : List (List Int)) :: fs) := hS
    have hF := hF.cast (t := 3) (v := .slice none 0 0) (v' := .slice none (([] : List (List Int)).length) 0) rfl rfl (congrArg (fun k => Value.slice none k 0) hl1)
    refine wp_loop_model (S := (List (List Int) × Int)) (R := (List (List Int))) (gameroomlaw_copied_L1 l1) (fun x => (gameroomlaw_copied_K1 x).bind some) r (fun (x : (List (List Int) × Int)) a w => ∃ (A2 : Option Addr) (c2 : Nat) (hd2 : List Hd), Fr 20 [pl 0 (.slice A1 l1.length c1), pl 3 (.slice A2 x.1.length c2), pl 4 (.int .i64 x.2)] a ∧ Sep w0 B w (rows 22 3 (.slice A2 x.1.length c2) hd2 x.1 :: fs)) (assoc_b hm) ⟨none, 0, ([]), hF.weak [0, 3, 4] (by kernel_rfl), hS⟩ ?_
    clear hF hS hm
    rintro nn1 ⟨out1, i1⟩ a w ⟨A2, c2, hd2, hF, hS⟩ hm
    generalize hφ1 : stK (gameroomlaw_copied_L1 l1) nn1 (fun x => (gameroomlaw_copied_K1 x).bind some) = φ1 at hm
    unfold gameroomlaw_copied_L1 at hm
    dsimp only at hF hS hm
    refine seq_cut (fun a w => Fr 20 [pl 0 (.slice A1 l1.length c1), pl 3 (.slice A2 out1.length c2), pl 4 (.int .i64 i1)] a ∧ Sep w0 B w (rows 22 3 (.slice A2 out1.length c2) hd2 out1 :: fs) ∧ ((gameroomlaw_copied_J2 l1 out1 i1)).bind φ1 = some r) ?_ ?_
    · rintro a w ⟨hF, hS, hm⟩
      unfold gameroomlaw_copied_J2 at hm
      refine seq_cut (fun a w => ∃ (out3 : List (List Int)) (A6 : Option Addr) (c6 : Nat) (hd4 : List Hd), Fr 20 [pl 0 (.slice A1 l1.length c1), pl 3 (.slice A6 out3.length c6), pl 4 (.int .i64 i1)] a ∧ Sep w0 B w (rows 22 3 (.slice A6 out3.length c6) hd4 out3 :: fs) ∧ ((gameroomlaw_copied_J3 i1) out3).bind φ1 = some r) ?_ ?_
      · rintro a w ⟨out3, A6, c6, hd4, hF, hS, hm⟩
        unfold gameroomlaw_copied_J3 at hm
        refine reg1 [] [] [0, 3, 4] [pl 0 (.slice A1 l1.length c1), pl 3 (.slice A6 out3.length c6), pl 4 (.int .i64 (w64 (i1 + 1)))] hF hS Fol (by kernel_rfl) (by kernel_rfl) (by kernel_rfl) ?_ (fun a w hF hS => ?_)
        · exact obs_nil
        refine then_n ?_
        rw [← hφ1] at hm
        exact ⟨(out3, (w64 (i1 + 1))), ⟨A6, c6, hd4, hF.weak [0, 3, 4] (by kernel_rfl), hS⟩, hm⟩
      · refine wpIn_block ?_
        refine oneR ?_
        obtain ⟨hp1, hm⟩ := asrt_b hm
        obtain ⟨r1, hr1, hm⟩ := call_b hm
        obtain ⟨hp2, hm⟩ := asrt_b hm
        refine at_run 5 [⟨true, [], vS (Instr.indexAt 36 (.slice A1 l1.length c1) (.int .i64 i1)), .pointer (some (sAddr A1 i1))⟩, ⟨false, [], vS (Instr.loadAt 22 (.pointer (some (sAddr A1 i1)))), .slice (hdA hd1 i1) ((geti2 l1 i1).length) (hdC hd1 i1)⟩] [none, none, none, some (.pointer (some (sAddr A1 i1))), some (.slice (hdA hd1 i1) ((geti2 l1 i1).length) (hdC hd1 i1))] [0, 4, 11, 15] [pl 0 (.slice A1 l1.length c1), pl 4 (.int .i64 i1), pl 11 (.slice A2 out1.length c2), pl 15 (.slice (hdA hd1 i1) ((geti2 l1 i1).length) (hdC hd1 i1))] hF hS (by kernel_rfl) (by kernel_rfl) ?_ (fun a w hF hS => ?_)
        · exact obs_cons (ob_ixRn Und36 hi22 hs22 (hr_l1 _ (hS.dropN 1)) rfl (fun _ => hp1)) <| obs_cons (ob_getR Agg22 (fun _ hS => ⟨_, (hr_l1 _ (hS.dropN 1))⟩) (fun _ => hp1)) <| obs_nil
        refine at_call (f := 28) (args := #[.slice (hdA hd1 i1) ((geti2 l1 i1).length) (hdC hd1 i1)]) (d := 16) hF (by kernel_rfl) (by kernel_rfl) Try.func28 (by kernel_rfl) rfl (gameroomlaw_ints_w hr1 hS (fun _ hS => ((hr_l1 _ (hS.dropN 1)).row _ hp1).1) ((hr_l1 _ (hS.dropN 1)).row _ hp1).2 rfl) (fun v a w hR hF => ?_)
        clear hS
        obtain ⟨A4, c4, rfl, hS⟩ := hR
        have hS : Sep w0 B w (own 3 (.slice A4 r1.length c4) (vI r1) :: rows 22 3 (.slice A2 out1.length c2) hd2 out1 :: fs) := hS
        refine at_do (d := 17) (s := vS (Instr.buildSlice 36 1 #[(0, .slice A4 r1.length c4)])) (v := .slice (some ⟨w.heap.size, 0, none⟩) 1 1) (w' := w.alloc (.cells #[.slice A4 r1.length c4] 22)) hF (by kernel_rfl) (by kernel_rfl) (by kernel_rfl) (fun a hF => ?_)
        have hS : Sep w0 B (w.alloc (.cells #[.slice A4 r1.length c4] 22)) (own 22 (.slice (some (⟨w.heap.size, 0, none⟩ : Addr)) 1 1) [.slice A4 r1.length c4] :: (own 3 (.slice A4 r1.length c4) (vI r1) :: rows 22 3 (.slice A2 out1.length c2) hd2 out1 :: fs)) := hS.lit 22 #[.slice A4 r1.length c4] 1 rfl (by omega)
        generalize (some (⟨w.heap.size, 0, none⟩ : Addr)) = g1 at hF hS
        generalize w.alloc (.cells #[.slice A4 r1.length c4] 22) = w at hS ⊢
        have hS := hS.pickN 3 [1, 0, 2] (by decide)
        have hS : Sep w0 B w (own 3 (.slice A4 r1.length c4) (vI r1) :: own 22 (.slice g1 1 1) [.slice A4 r1.length c4] :: rows 22 3 (.slice A2 out1.length c2) hd2 out1 :: fs) := hS
        obtain ⟨A5, c5, w, hrun, hS⟩ := run_appRow (P := Try.prog) (t := 36) (A2 := g1) (c2 := 1) (hS.at2 1 rfl) (hS.at_ 1 rfl).rd 36 Und36 hi22 hz22 hs22 hb22 hp2
        have hS : Sep w0 B w (own 22 (.slice g1 1 1) [.slice A4 r1.length c4] :: rows 22 3 (.slice A5 ((out1 ++ [r1]).length) c5) (hd2 ++ [(A4, c4)]) (out1 ++ [r1]) :: fs) := hS
        refine at_do (d := 18) hF (by kernel_rfl) (by kernel_rfl) hrun (fun a hF => ?_)
        refine at_run 1 [] [] [0, 3, 4] [pl 0 (.slice A1 l1.length c1), pl 3 (.slice A5 ((out1 ++ [r1]).length) c5), pl 4 (.int .i64 i1)] hF hS (by kernel_rfl) (by kernel_rfl) ?_ (fun a w hF hS => ?_)
        · exact obs_nil
        refine at_end [0, 3, 4] [pl 0 (.slice A1 l1.length c1), pl 3 (.slice A5 ((out1 ++ [r1]).length) c5), pl 4 (.int .i64 i1)] hF rfl (by kernel_rfl) (fun hF => ?_)
        refine block_n ?_
        refine then_n ?_
        have hS := hS.pickN 2 [1] (by decide)
        exact ⟨(out1 ++ [r1]), A5, c5, (hd2 ++ [(A4, c4)]), hF.weak [0, 3, 4] (by kernel_rfl), hS, hm⟩
    · refine reg [] [] [0, 3, 4, 8] [pl 0 (.slice A1 l1.length c1), pl 3 (.slice A2 out1.length c2), pl 4 (.int .i64 i1), pl 8 (.bool (decide (i1 < (l1.length : Int))))] hF hS Fol (by kernel_rfl) (by kernel_rfl) (by kernel_rfl) ?_ (fun a w hF hS => ?_)
      · exact obs_nil
      refine cond_ev (t := 8) (b := decide (i1 < (l1.length : Int))) hF (by kernel_rfl) (fun hb => ?_) (fun hb => ?_)
      · replace hm := if_t hm hb
        refine wpIn_skip ?_
        refine then_n ?_
        exact ⟨hF.weak [0, 3, 4] (by kernel_rfl), hS, hm⟩
      · replace hm := if_f hm hb
        refine wpIn_exit ?_
        refine then_e (then_e (block_e (then_n ?_)))
        rw [← hφ1] at hm
        replace hm := done_b hm
        unfold gameroomlaw_copied_K1 at hm
        try dsimp only at hm
        have hm : (gameroomlaw_copied_J1 out1).bind some = some r := hm
        exact ⟨out1, A2, c2, hd2, hF.weak [3] (by kernel_rfl), hS, hm⟩

noncomputable def slices_Grow_m (n1 : Int) : Option (List (List Int)) :=
  asrt (0 ≤ n1 ∧ n1 ≤ bigR) <| some []

theorem slices_Grow_w {n1 : Int} {r : (List (List Int))} {w0 w : World} {B : Nat} {fs : List HP} (hm : slices_Grow_m n1 = some r) (hS : Sep w0 B w (fs)) :
    Calls Try.prog 153 #[.slice none 0 0, .int .i64 n1] w fun e w' => ∃ v, e = .returned v ∧ ∃ (A1 : Option Addr) (c1 : Nat), v = .slice A1 r.length c1 ∧ (r = ([] : List (List Int))) ∧ Sep w0 B w' (hdrs 22 A1 r.length c1 ([] : List Hd) r :: fs) := by
  unfold slices_Grow_m at hm
  obtain ⟨hb, hm⟩ := asrt_b (start_b hm)
  obtain rfl := Option.some.inj hm
  exact growH_own hb hS

noncomputable def slices_Concat_J10  (slices1 : List (List Int)) (slices2 : List (List Int)) (r1 : (List (List Int))) : Option (List (List Int)) :=
  asrt (0 ≤ (1 : Int) ∧ (1 : Int) < 2) <| asrt ((((r1 ++ slices1).length : Nat) : Int) + (slices2.length : Int) ≤ bigR) <| some ((r1 ++ slices1) ++ slices2)

noncomputable def slices_Concat_J8  (slices1 : List (List Int)) (slices2 : List (List Int)) (r1 : (List (List Int))) : Option (List (List Int)) :=
  asrt (0 ≤ (0 : Int) ∧ (0 : Int) < 2) <| asrt ((r1.length : Int) + (slices1.length : Int) ≤ bigR) <| (slices_Concat_J10 slices1 slices2 r1)

noncomputable def slices_Concat_J1  (slices1 : List (List Int)) (slices2 : List (List Int)) : Option (List (List Int)) :=
  (slices_Grow_m (w64 ((w64 (0 + (slices1.length : Int))) + (slices2.length : Int)))).bind fun r1 => (slices_Concat_J8 slices1 slices2 r1)

noncomputable def slices_Concat_J5  (slices1 : List (List Int)) (slices2 : List (List Int)) : Option (List (List Int)) :=
  (slices_Concat_J1 slices1 slices2)

noncomputable def slices_Concat_J4  (slices1 : List (List Int)) (slices2 : List (List Int)) : Option (List (List Int)) :=
  asrt (0 ≤ (1 : Int) ∧ (1 : Int) < 2) <| if (decide ((w64 ((w64 (0 + (slices1.length : Int))) + (slices2.length : Int))) < 0)) then none else ((slices_Concat_J5 slices1 slices2))

noncomputable def slices_Concat_J3  (slices1 : List (List Int)) (slices2 : List (List Int)) : Option (List (List Int)) :=
  (slices_Concat_J4 slices1 slices2)

noncomputable def slices_Concat_J2  (slices1 : List (List Int)) (slices2 : List (List Int)) : Option (List (List Int)) :=
  asrt (0 ≤ (0 : Int) ∧ (0 : Int) < 2) <| if (decide ((w64 (0 + (slices1.length : Int))) < 0)) then none else ((slices_Concat_J3 slices1 slices2))

noncomputable def slices_Concat_m  (slices1 : List (List Int)) (slices2 : List (List Int)) : Option (List (List Int)) :=
  (slices_Concat_J2 slices1 slices2)

set_option maxRecDepth 100000 in
set_option maxHeartbeats 4000000 in
theorem slices_Concat_w  {A1 : Option Addr} {A2 : Option Addr} {c1 : Nat} {n1 : Nat} {hd1 : List Hd} {slices1 : List (List Int)} {A3 : Option Addr} {c2 : Nat} {n2 : Nat} {hd2 : List Hd} {slices2 : List (List Int)} {r : (List (List Int))} {w0 w : World} {B : Nat} {fs : List HP} (hm : slices_Concat_m slices1 slices2 = some r) (hS : Sep w0 B w (own 36 (.slice A1 2 2) (List.map (fun v => v) ([.slice A2 n1 c1, .slice A3 n2 c2] : List Value)) :: fs)) (hr_slices1 : RdRowsF w0 B fs A2 hd1 slices1) (_hc_slices1 : slices1.length ≤ c1) (_hn_slices1 : n1 = slices1.length) (hr_slices2 : RdRowsF w0 B fs A3 hd2 slices2) (_hc_slices2 : slices2.length ≤ c2) (_hn_slices2 : n2 = slices2.length) :
    Calls Try.prog 111 #[.slice A1 2 2] w fun e w' => ∃ v, e = .returned v ∧ ∃ (A7 : Option Addr) (c6 : Nat), v = .slice A7 r.length c6 ∧ (r = ((([] : List (List Int)) ++ slices1) ++ slices2)) ∧ Sep w0 B w' (own 36 (.slice A1 2 2) (List.map (fun v => v) ([.slice A2 n1 c1, .slice A3 n2 c2] : List Value)) :: hdrs 22 A7 r.length c6 ((([] : List Hd) ++ hd1) ++ hd2) r :: fs) := by
  obtain ⟨i22, hi22, hz22, hs22, hb22⟩ := info_parts Info22
  obtain ⟨i36, hi36, hz36, hs36, hb36⟩ := info_parts Info36
  obtain rfl := _hn_slices1
  obtain rfl := _hn_slices2
  unfold slices_Concat_m at hm
  replace hm := start_b hm
  refine enter (l := [.slice A1 2 2]) (n := 36) Try.func111 rfl rfl (by simp) (fun a hF => ?_)
  refine reg [] [] [0] [pl 0 (.slice A1 2 2)] hF hS Fol (by kernel_rfl) (by kernel_rfl) (by kernel_rfl) ?_ (fun a w hF hS => ?_)
  · exact obs_nil
  refine reg [] [] [0, 3] [pl 0 (.slice A1 2 2), pl 3 (.int .i64 0)] hF hS Fol (by kernel_rfl) (by kernel_rfl) (by kernel_rfl) ?_ (fun a w hF hS => ?_)
  · exact obs_nil
  refine seq_cut (fun a w => Fr 36 [pl 0 (.slice A1 2 2), pl 3 (.int .i64 (w64 ((w64 (0 + (slices1.length : Int))) + (slices2.length : Int))))] a ∧ Sep w0 B w (own 36 (.slice A1 2 2) (List.map (fun v => v) ([.slice A2 slices1.length c1, .slice A3 slices2.length c2] : List Value)) :: fs) ∧ ((slices_Concat_J1 slices1 slices2)).bind some = some r) ?_ ?_
  · rintro a w ⟨hF, hS, hm⟩
    unfold slices_Concat_J1 at hm
    refine seqR ?_
    obtain ⟨r1, hr1, hm⟩ := call_b hm
    refine at_run 1 [] [] [0, 23] [pl 0 (.slice A1 2 2), pl 23 (.int .i64 (w64 ((w64 (0 + (slices1.length : Int))) + (slices2.length : Int))))] hF hS (by kernel_rfl) (by kernel_rfl) ?_ (fun a w hF hS => ?_)
    · exact obs_nil
    refine at_call (f := 153) (args := #[.slice none 0 0, .int .i64 (w64 ((w64 (0 + (slices1.length : Int))) + (slices2.length : Int)))]) (d := 24) hF (by kernel_rfl) (by kernel_rfl) Try.func153 (by kernel_rfl) rfl (slices_Grow_w hr1 hS ) (fun v a w hR hF => ?_)
    clear hS
    obtain ⟨A4, c3, rfl, hb1, hS⟩ := hR
    have hS : Sep w0 B w (hdrs 22 A4 r1.length c3 ([] : List Hd) r1 :: own 36 (.slice A1 2 2) (List.map (fun v => v) ([.slice A2 slices1.length c1, .slice A3 slices2.length c2] : List Value)) :: fs) := hS
    refine at_run 1 [] [] [0, 6] [pl 0 (.slice A1 2 2), pl 6 (.slice A4 r1.length c3)] hF hS (by kernel_rfl) (by kernel_rfl) ?_ (fun a w hF hS => ?_)
    · exact obs_nil
    refine at_end [0, 6] [pl 0 (.slice A1 2 2), pl 6 (.slice A4 r1.length c3)] hF rfl (by kernel_rfl) (fun hF => ?_)
    refine then_n ?_
    refine wpIn_seq ?_
    refine reg [] [] [6, 25, 26, 27] [pl 6 (.slice A4 r1.length c3), pl 25 (.slice A1 2 2), pl 26 (.int .i64 2), pl 27 (.int .i64 0)] hF hS Fol (by kernel_rfl) (by kernel_rfl) (by kernel_rfl) ?_ (fun a w hF hS => ?_)
    · exact obs_nil
    refine wpIn_block ?_
    refine loop_rounds 3 ?_
    refine rounds_s (n := 2) ?_
    refine reg [] [] [6, 25, 26, 27, 28] [pl 6 (.slice A4 r1.length c3), pl 25 (.slice A1 2 2), pl 26 (.int .i64 2), pl 27 (.int .i64 0), pl 28 (.bool (decide ((0 : Int) < 2)))] hF hS Fol (by kernel_rfl) (by kernel_rfl) (by kernel_rfl) ?_ (fun a w hF hS => ?_)
    · exact obs_nil
    refine seq_cut (fun a w => Fr 36 [pl 6 (.slice A4 r1.length c3), pl 25 (.slice A1 2 2), pl 26 (.int .i64 2), pl 27 (.int .i64 0)] a ∧ Sep w0 B w (hdrs 22 A4 r1.length c3 ([] : List Hd) r1 :: own 36 (.slice A1 2 2) (List.map (fun v => v) ([.slice A2 slices1.length c1, .slice A3 slices2.length c2] : List Value)) :: fs) ∧ ((slices_Concat_J8 slices1 slices2 r1)).bind some = some r) ?_ ?_
    · rintro a w ⟨hF, hS, hm⟩
      unfold slices_Concat_J8 at hm
      refine wpIn_seq ?_
      refine wpIn_block ?_
      obtain ⟨hp3, hm⟩ := asrt_b hm
      refine reg [⟨true, [], vS (Instr.indexAt 154 (.slice A1 2 2) (.int .i64 0)), .pointer (some (sAddr A1 0))⟩, ⟨false, [], vS (Instr.loadAt 36 (.pointer (some (sAddr A1 0)))), .slice A2 slices1.length c1⟩] [some (.pointer (some (sAddr A1 0))), some (.slice A2 slices1.length c1), none] [6, 8, 25, 26, 27] [pl 6 (.slice A4 r1.length c3), pl 8 (.slice A2 slices1.length c1), pl 25 (.slice A1 2 2), pl 26 (.int .i64 2), pl 27 (.int .i64 0)] hF hS Fol (by kernel_rfl) (by kernel_rfl) (by kernel_rfl) ?_ (fun a w hF hS => ?_)
      · exact obs_cons (ob_ix1 (f := fun v => v) (m := ([.slice A2 slices1.length c1, .slice A3 slices2.length c2] : List Value)) Und154 hi36 hs36 (hS.at_ 1 rfl).rd rfl (fun _ => hp3)) <| obs_cons (ob_get1 (n := 2) (m := ([.slice A2 slices1.length c1, .slice A3 slices2.length c2] : List Value)) (fun v => v) (.slice none 0 0) Agg36 (fun _ hS => ⟨_, (hS.at_ 1 rfl).rd⟩) (fun _ hS => rfl) (fun _ => hp3)) <| obs_nil
      refine oneR ?_
      obtain ⟨hp4, hm⟩ := asrt_b hm
      refine at_run 2 [] [] [25, 26, 27, 31, 32] [pl 25 (.slice A1 2 2), pl 26 (.int .i64 2), pl 27 (.int .i64 0), pl 31 (.slice A4 r1.length c3), pl 32 (.slice A2 slices1.length c1)] hF hS (by kernel_rfl) (by kernel_rfl) ?_ (fun a w hF hS => ?_)
      · exact obs_nil
      obtain ⟨A5, c4, w, hrun, hS⟩ := run_appHdr (P := Try.prog) (t := 36) (A2 := A2) (n2 := slices1.length) (c2 := c1) (hS.at_ 0 rfl) (hr_slices1 _ (hS.dropN 2)) rfl 36 Und36 hi22 hz22 hs22 hb22 hp4
      have hS : Sep w0 B w (hdrs 22 A5 ((r1 ++ slices1).length) c4 (([] : List Hd) ++ hd1) (r1 ++ slices1) :: own 36 (.slice A1 2 2) (List.map (fun v => v) ([.slice A2 slices1.length c1, .slice A3 slices2.length c2] : List Value)) :: fs) := hS
      refine at_do (d := 33) hF (by kernel_rfl) (by kernel_rfl) hrun (fun a hF => ?_)
      refine at_run 1 [] [] [6, 25, 26, 27] [pl 6 (.slice A5 ((r1 ++ slices1).length) c4), pl 25 (.slice A1 2 2), pl 26 (.int .i64 2), pl 27 (.int .i64 0)] hF hS (by kernel_rfl) (by kernel_rfl) ?_ (fun a w hF hS => ?_)
      · exact obs_nil
      refine at_end [6, 25, 26, 27] [pl 6 (.slice A5 ((r1 ++ slices1).length) c4), pl 25 (.slice A1 2 2), pl 26 (.int .i64 2), pl 27 (.int .i64 0)] hF rfl (by kernel_rfl) (fun hF => ?_)
      refine block_n ?_
      refine then_n ?_
      refine reg1 [] [] [6, 25, 26, 27] [pl 6 (.slice A5 ((r1 ++ slices1).length) c4), pl 25 (.slice A1 2 2), pl 26 (.int .i64 2), pl 27 (.int .i64 1)] hF hS Fol (by kernel_rfl) (by kernel_rfl) (by kernel_rfl) ?_ (fun a w hF hS => ?_)
      · exact obs_nil
      refine then_n ?_
      refine rounds_s (n := 1) ?_
      refine reg [] [] [6, 25, 26, 27, 28] [pl 6 (.slice A5 ((r1 ++ slices1).length) c4), pl 25 (.slice A1 2 2), pl 26 (.int .i64 2), pl 27 (.int .i64 1), pl 28 (.bool (decide ((1 : Int) < 2)))] hF hS Fol (by kernel_rfl) (by kernel_rfl) (by kernel_rfl) ?_ (fun a w hF hS => ?_)
      · exact obs_nil
      refine seq_cut (fun a w => Fr 36 [pl 6 (.slice A5 ((r1 ++ slices1).length) c4), pl 25 (.slice A1 2 2), pl 26 (.int .i64 2), pl 27 (.int .i64 1)] a ∧ Sep w0 B w (hdrs 22 A5 ((r1 ++ slices1).length) c4 (([] : List Hd) ++ hd1) (r1 ++ slices1) :: own 36 (.slice A1 2 2) (List.map (fun v => v) ([.slice A2 slices1.length c1, .slice A3 slices2.length c2] : List Value)) :: fs) ∧ ((slices_Concat_J10 slices1 slices2 r1)).bind some = some r) ?_ ?_
      · rintro a w ⟨hF, hS, hm⟩
        unfold slices_Concat_J10 at hm
        refine wpIn_seq ?_
        refine wpIn_block ?_
        obtain ⟨hp5, hm⟩ := asrt_b hm
        refine reg [⟨true, [], vS (Instr.indexAt 154 (.slice A1 2 2) (.int .i64 1)), .pointer (some (sAddr A1 1))⟩, ⟨false, [], vS (Instr.loadAt 36 (.pointer (some (sAddr A1 1)))), .slice A3 slices2.length c2⟩] [some (.pointer (some (sAddr A1 1))), some (.slice A3 slices2.length c2), none] [6, 8, 25, 26, 27] [pl 6 (.slice A5 ((r1 ++ slices1).length) c4), pl 8 (.slice A3 slices2.length c2), pl 25 (.slice A1 2 2), pl 26 (.int .i64 2), pl 27 (.int .i64 1)] hF hS Fol (by kernel_rfl) (by kernel_rfl) (by kernel_rfl) ?_ (fun a w hF hS => ?_)
        · exact obs_cons (ob_ix1 (f := fun v => v) (m := ([.slice A2 slices1.length c1, .slice A3 slices2.length c2] : List Value)) Und154 hi36 hs36 (hS.at_ 1 rfl).rd rfl (fun _ => hp5)) <| obs_cons (ob_get1 (n := 2) (m := ([.slice A2 slices1.length c1, .slice A3 slices2.length c2] : List Value)) (fun v => v) (.slice none 0 0) Agg36 (fun _ hS => ⟨_, (hS.at_ 1 rfl).rd⟩) (fun _ hS => rfl) (fun _ => hp5)) <| obs_nil
        refine oneR ?_
        obtain ⟨hp6, hm⟩ := asrt_b hm
        refine at_run 2 [] [] [25, 26, 27, 31, 32] [pl 25 (.slice A1 2 2), pl 26 (.int .i64 2), pl 27 (.int .i64 1), pl 31 (.slice A5 ((r1 ++ slices1).length) c4), pl 32 (.slice A3 slices2.length c2)] hF hS (by kernel_rfl) (by kernel_rfl) ?_ (fun a w hF hS => ?_)
        · exact obs_nil
        obtain ⟨A6, c5, w, hrun, hS⟩ := run_appHdr (P := Try.prog) (t := 36) (A2 := A3) (n2 := slices2.length) (c2 := c2) (hS.at_ 0 rfl) (hr_slices2 _ (hS.dropN 2)) rfl 36 Und36 hi22 hz22 hs22 hb22 hp6
        have hS : Sep w0 B w (hdrs 22 A6 (((r1 ++ slices1) ++ slices2).length) c5 ((([] : List Hd) ++ hd1) ++ hd2) ((r1 ++ slices1) ++ slices2) :: own 36 (.slice A1 2 2) (List.map (fun v => v) ([.slice A2 slices1.length c1, .slice A3 slices2.length c2] : List Value)) :: fs) := hS
        refine at_do (d := 33) hF (by kernel_rfl) (by kernel_rfl) hrun (fun a hF => ?_)
        refine at_run 1 [] [] [6, 25, 26, 27] [pl 6 (.slice A6 (((r1 ++ slices1) ++ slices2).length) c5), pl 25 (.slice A1 2 2), pl 26 (.int .i64 2), pl 27 (.int .i64 1)] hF hS (by kernel_rfl) (by kernel_rfl) ?_ (fun a w hF hS => ?_)
        · exact obs_nil
        refine at_end [6, 25, 26, 27] [pl 6 (.slice A6 (((r1 ++ slices1) ++ slices2).length) c5), pl 25 (.slice A1 2 2), pl 26 (.int .i64 2), pl 27 (.int .i64 1)] hF rfl (by kernel_rfl) (fun hF => ?_)
        refine block_n ?_
        refine then_n ?_
        refine reg1 [] [] [6, 25, 26, 27] [pl 6 (.slice A6 (((r1 ++ slices1) ++ slices2).length) c5), pl 25 (.slice A1 2 2), pl 26 (.int .i64 2), pl 27 (.int .i64 2)] hF hS Fol (by kernel_rfl) (by kernel_rfl) (by kernel_rfl) ?_ (fun a w hF hS => ?_)
        · exact obs_nil
        refine then_n ?_
        refine rounds_s (n := 0) ?_
        refine reg [] [] [6, 25, 26, 27, 28] [pl 6 (.slice A6 (((r1 ++ slices1) ++ slices2).length) c5), pl 25 (.slice A1 2 2), pl 26 (.int .i64 2), pl 27 (.int .i64 2), pl 28 (.bool (decide ((2 : Int) < 2)))] hF hS Fol (by kernel_rfl) (by kernel_rfl) (by kernel_rfl) ?_ (fun a w hF hS => ?_)
        · exact obs_nil
        refine seq_cut (fun _ _ => False) (fun _ _ h => h.elim) ?_
        refine cond_ev (t := 28) (b := decide ((2 : Int) < 2)) hF (by kernel_rfl) (fun hb => ?_) (fun hb => ?_)
        · exact absurd hb (by decide)
        · refine wpIn_exit ?_
          refine then_e (then_e (block_e (then_n ?_)))
          refine reg [] [] [2] [pl 2 (.slice A6 (((r1 ++ slices1) ++ slices2).length) c5)] hF hS Fol (by kernel_rfl) (by kernel_rfl) (by kernel_rfl) ?_ (fun a w hF hS => ?_)
          · exact obs_nil
          refine wpIn_ret ?_
          have hS := hS.pickN 2 [1, 0] (by decide)
          have hm : some ((r1 ++ slices1) ++ slices2) = some r := hm
          obtain rfl := Option.some.inj hm
          exact retV (rs := [.tmp 2]) (vs := [.slice A6 (((r1 ++ slices1) ++ slices2).length) c5]) hF rfl (rv_t (by kernel_rfl) <| rv_nil) rfl ⟨_, rfl, A6, c5, rfl, (by rw [hb1]), hS⟩
      · refine cond_ev (t := 28) (b := decide ((1 : Int) < 2)) hF (by kernel_rfl) (fun hb => ?_) (fun hb => ?_)
        · refine wpIn_skip ?_
          refine then_n ?_
          exact ⟨hF.weak [6, 25, 26, 27] (by kernel_rfl), hS, hm⟩
        · exact absurd hb (by decide)
    · refine cond_ev (t := 28) (b := decide ((0 : Int) < 2)) hF (by kernel_rfl) (fun hb => ?_) (fun hb => ?_)
      · refine wpIn_skip ?_
        refine then_n ?_
        exact ⟨hF.weak [6, 25, 26, 27] (by kernel_rfl), hS, hm⟩
      · exact absurd hb (by decide)
  · refine reg [] [] [0, 3, 9, 10, 11] [pl 0 (.slice A1 2 2), pl 3 (.int .i64 0), pl 9 (.slice A1 2 2), pl 10 (.int .i64 2), pl 11 (.int .i64 0)] hF hS Fol (by kernel_rfl) (by kernel_rfl) (by kernel_rfl) ?_ (fun a w hF hS => ?_)
    · exact obs_nil
    refine wpIn_block ?_
    refine loop_rounds 3 ?_
    refine rounds_s (n := 2) ?_
    refine reg [] [] [0, 3, 9, 10, 11, 12] [pl 0 (.slice A1 2 2), pl 3 (.int .i64 0), pl 9 (.slice A1 2 2), pl 10 (.int .i64 2), pl 11 (.int .i64 0), pl 12 (.bool (decide ((0 : Int) < 2)))] hF hS Fol (by kernel_rfl) (by kernel_rfl) (by kernel_rfl) ?_ (fun a w hF hS => ?_)
    · exact obs_nil
    refine seq_cut (fun a w => Fr 36 [pl 0 (.slice A1 2 2), pl 3 (.int .i64 0), pl 9 (.slice A1 2 2), pl 10 (.int .i64 2), pl 11 (.int .i64 0)] a ∧ Sep w0 B w (own 36 (.slice A1 2 2) (List.map (fun v => v) ([.slice A2 slices1.length c1, .slice A3 slices2.length c2] : List Value)) :: fs) ∧ ((slices_Concat_J2 slices1 slices2)).bind some = some r) ?_ ?_
    · rintro a w ⟨hF, hS, hm⟩
      unfold slices_Concat_J2 at hm
      refine seq_cut (fun a w => Fr 36 [pl 0 (.slice A1 2 2), pl 3 (.int .i64 (w64 (0 + (slices1.length : Int)))), pl 9 (.slice A1 2 2), pl 10 (.int .i64 2), pl 11 (.int .i64 0)] a ∧ Sep w0 B w (own 36 (.slice A1 2 2) (List.map (fun v => v) ([.slice A2 slices1.length c1, .slice A3 slices2.length c2] : List Value)) :: fs) ∧ ((slices_Concat_J3 slices1 slices2)).bind some = some r) ?_ ?_
      · rintro a w ⟨hF, hS, hm⟩
        unfold slices_Concat_J3 at hm
        refine reg1 [] [] [0, 3, 9, 10, 11] [pl 0 (.slice A1 2 2), pl 3 (.int .i64 (w64 (0 + (slices1.length : Int)))), pl 9 (.slice A1 2 2), pl 10 (.int .i64 2), pl 11 (.int .i64 1)] hF hS Fol (by kernel_rfl) (by kernel_rfl) (by kernel_rfl) ?_ (fun a w hF hS => ?_)
        · exact obs_nil
        refine then_n ?_
        refine rounds_s (n := 1) ?_
        refine reg [] [] [0, 3, 9, 10, 11, 12] [pl 0 (.slice A1 2 2), pl 3 (.int .i64 (w64 (0 + (slices1.length : Int)))), pl 9 (.slice A1 2 2), pl 10 (.int .i64 2), pl 11 (.int .i64 1), pl 12 (.bool (decide ((1 : Int) < 2)))] hF hS Fol (by kernel_rfl) (by kernel_rfl) (by kernel_rfl) ?_ (fun a w hF hS => ?_)
        · exact obs_nil
        refine seq_cut (fun a w => Fr 36 [pl 0 (.slice A1 2 2), pl 3 (.int .i64 (w64 (0 + (slices1.length : Int)))), pl 9 (.slice A1 2 2), pl 10 (.int .i64 2), pl 11 (.int .i64 1)] a ∧ Sep w0 B w (own 36 (.slice A1 2 2) (List.map (fun v => v) ([.slice A2 slices1.length c1, .slice A3 slices2.length c2] : List Value)) :: fs) ∧ ((slices_Concat_J4 slices1 slices2)).bind some = some r) ?_ ?_
        · rintro a w ⟨hF, hS, hm⟩
          unfold slices_Concat_J4 at hm
          refine seq_cut (fun a w => Fr 36 [pl 0 (.slice A1 2 2), pl 3 (.int .i64 (w64 ((w64 (0 + (slices1.length : Int))) + (slices2.length : Int)))), pl 9 (.slice A1 2 2), pl 10 (.int .i64 2), pl 11 (.int .i64 1)] a ∧ Sep w0 B w (own 36 (.slice A1 2 2) (List.map (fun v => v) ([.slice A2 slices1.length c1, .slice A3 slices2.length c2] : List Value)) :: fs) ∧ ((slices_Concat_J5 slices1 slices2)).bind some = some r) ?_ ?_
          · rintro a w ⟨hF, hS, hm⟩
            unfold slices_Concat_J5 at hm
            refine reg1 [] [] [0, 3, 9, 10, 11] [pl 0 (.slice A1 2 2), pl 3 (.int .i64 (w64 ((w64 (0 + (slices1.length : Int))) + (slices2.length : Int)))), pl 9 (.slice A1 2 2), pl 10 (.int .i64 2), pl 11 (.int .i64 2)] hF hS Fol (by kernel_rfl) (by kernel_rfl) (by kernel_rfl) ?_ (fun a w hF hS => ?_)
            · exact obs_nil
            refine then_n ?_
            refine rounds_s (n := 0) ?_
            refine reg [] [] [0, 3, 9, 10, 11, 12] [pl 0 (.slice A1 2 2), pl 3 (.int .i64 (w64 ((w64 (0 + (slices1.length : Int))) + (slices2.length : Int)))), pl 9 (.slice A1 2 2), pl 10 (.int .i64 2), pl 11 (.int .i64 2), pl 12 (.bool (decide ((2 : Int) < 2)))] hF hS Fol (by kernel_rfl) (by kernel_rfl) (by kernel_rfl) ?_ (fun a w hF hS => ?_)
            · exact obs_nil
            refine seq_cut (fun _ _ => False) (fun _ _ h => h.elim) ?_
            refine cond_ev (t := 12) (b := decide ((2 : Int) < 2)) hF (by kernel_rfl) (fun hb => ?_) (fun hb => ?_)
            · exact absurd hb (by decide)
            · refine wpIn_exit ?_
              refine then_e (then_e (block_e (then_n ?_)))
              exact ⟨hF.weak [0, 3] (by kernel_rfl), hS, hm⟩
          · refine wpIn_block ?_
            obtain ⟨hp2, hm⟩ := asrt_b hm
            refine reg [⟨true, [], vS (Instr.indexAt 154 (.slice A1 2 2) (.int .i64 1)), .pointer (some (sAddr A1 1))⟩, ⟨false, [], vS (Instr.loadAt 36 (.pointer (some (sAddr A1 1)))), .slice A3 slices2.length c2⟩] [some (.pointer (some (sAddr A1 1))), some (.slice A3 slices2.length c2), none] [0, 3, 5, 9, 10, 11] [pl 0 (.slice A1 2 2), pl 3 (.int .i64 (w64 (0 + (slices1.length : Int)))), pl 5 (.slice A3 slices2.length c2), pl 9 (.slice A1 2 2), pl 10 (.int .i64 2), pl 11 (.int .i64 1)] hF hS Fol (by kernel_rfl) (by kernel_rfl) (by kernel_rfl) ?_ (fun a w hF hS => ?_)
            · exact obs_cons (ob_ix1 (f := fun v => v) (m := ([.slice A2 slices1.length c1, .slice A3 slices2.length c2] : List Value)) Und154 hi36 hs36 (hS.at_ 0 rfl).rd rfl (fun _ => hp2)) <| obs_cons (ob_get1 (n := 2) (m := ([.slice A2 slices1.length c1, .slice A3 slices2.length c2] : List Value)) (fun v => v) (.slice none 0 0) Agg36 (fun _ hS => ⟨_, (hS.at_ 0 rfl).rd⟩) (fun _ hS => rfl) (fun _ => hp2)) <| obs_nil
            refine reg [] [] [0, 3, 9, 10, 11] [pl 0 (.slice A1 2 2), pl 3 (.int .i64 (w64 ((w64 (0 + (slices1.length : Int))) + (slices2.length : Int)))), pl 9 (.slice A1 2 2), pl 10 (.int .i64 2), pl 11 (.int .i64 1)] hF hS Fol (by kernel_rfl) (by kernel_rfl) (by kernel_rfl) ?_ (fun a w hF hS => ?_)
            · exact obs_nil
            refine reg [] [] [0, 3, 9, 10, 11, 20] [pl 0 (.slice A1 2 2), pl 3 (.int .i64 (w64 ((w64 (0 + (slices1.length : Int))) + (slices2.length : Int)))), pl 9 (.slice A1 2 2), pl 10 (.int .i64 2), pl 11 (.int .i64 1), pl 20 (.bool (decide ((w64 ((w64 (0 + (slices1.length : Int))) + (slices2.length : Int))) < 0)))] hF hS Fol (by kernel_rfl) (by kernel_rfl) (by kernel_rfl) ?_ (fun a w hF hS => ?_)
            · exact obs_nil
            refine cond_ev (t := 20) (b := decide ((w64 ((w64 (0 + (slices1.length : Int))) + (slices2.length : Int))) < 0)) hF (by kernel_rfl) (fun hb => ?_) (fun hb => ?_)
            · replace hm := if_t hm hb
              simp at hm
            · replace hm := if_f hm hb
              refine wpIn_skip ?_
              refine block_n ?_
              refine then_n ?_
              exact ⟨hF.weak [0, 3, 9, 10, 11] (by kernel_rfl), hS, hm⟩
        · refine cond_ev (t := 12) (b := decide ((1 : Int) < 2)) hF (by kernel_rfl) (fun hb => ?_) (fun hb => ?_)
          · refine wpIn_skip ?_
            refine then_n ?_
            exact ⟨hF.weak [0, 3, 9, 10, 11] (by kernel_rfl), hS, hm⟩
          · exact absurd hb (by decide)
      · refine wpIn_block ?_
        obtain ⟨hp1, hm⟩ := asrt_b hm
        refine reg [⟨true, [], vS (Instr.indexAt 154 (.slice A1 2 2) (.int .i64 0)), .pointer (some (sAddr A1 0))⟩, ⟨false, [], vS (Instr.loadAt 36 (.pointer (some (sAddr A1 0)))), .slice A2 slices1.length c1⟩] [some (.pointer (some (sAddr A1 0))), some (.slice A2 slices1.length c1), none] [0, 3, 5, 9, 10, 11] [pl 0 (.slice A1 2 2), pl 3 (.int .i64 0), pl 5 (.slice A2 slices1.length c1), pl 9 (.slice A1 2 2), pl 10 (.int .i64 2), pl 11 (.int .i64 0)] hF hS Fol (by kernel_rfl) (by kernel_rfl) (by kernel_rfl) ?_ (fun a w hF hS => ?_)
        · exact obs_cons (ob_ix1 (f := fun v => v) (m := ([.slice A2 slices1.length c1, .slice A3 slices2.length c2] : List Value)) Und154 hi36 hs36 (hS.at_ 0 rfl).rd rfl (fun _ => hp1)) <| obs_cons (ob_get1 (n := 2) (m := ([.slice A2 slices1.length c1, .slice A3 slices2.length c2] : List Value)) (fun v => v) (.slice none 0 0) Agg36 (fun _ hS => ⟨_, (hS.at_ 0 rfl).rd⟩) (fun _ hS => rfl) (fun _ => hp1)) <| obs_nil
        refine reg [] [] [0, 3, 9, 10, 11] [pl 0 (.slice A1 2 2), pl 3 (.int .i64 (w64 (0 + (slices1.length : Int)))), pl 9 (.slice A1 2 2), pl 10 (.int .i64 2), pl 11 (.int .i64 0)] hF hS Fol (by kernel_rfl) (by kernel_rfl) (by kernel_rfl) ?_ (fun a w hF hS => ?_)
        · exact obs_nil
        refine reg [] [] [0, 3, 9, 10, 11, 20] [pl 0 (.slice A1 2 2), pl 3 (.int .i64 (w64 (0 + (slices1.length : Int)))), pl 9 (.slice A1 2 2), pl 10 (.int .i64 2), pl 11 (.int .i64 0), pl 20 (.bool (decide ((w64 (0 + (slices1.length : Int))) < 0)))] hF hS Fol (by kernel_rfl) (by kernel_rfl) (by kernel_rfl) ?_ (fun a w hF hS => ?_)
        · exact obs_nil
        refine cond_ev (t := 20) (b := decide ((w64 (0 + (slices1.length : Int))) < 0)) hF (by kernel_rfl) (fun hb => ?_) (fun hb => ?_)
        · replace hm := if_t hm hb
          simp at hm
        · replace hm := if_f hm hb
          refine wpIn_skip ?_
          refine block_n ?_
          refine then_n ?_
          exact ⟨hF.weak [0, 3, 9, 10, 11] (by kernel_rfl), hS, hm⟩
    · refine cond_ev (t := 12) (b := decide ((0 : Int) < 2)) hF (by kernel_rfl) (fun hb => ?_) (fun hb => ?_)
      · refine wpIn_skip ?_
        refine then_n ?_
        exact ⟨hF.weak [0, 3, 9, 10, 11] (by kernel_rfl), hS, hm⟩
      · exact absurd hb (by decide)

noncomputable def nono_strange_m  (n1 : Int) : Option Bool :=
  some ((decide (n1 < 1)) || (decide ((20 : Int) < n1)))

set_option maxRecDepth 100000 in
set_option maxHeartbeats 4000000 in
theorem nono_strange_w  {n1 : Int} {r : Bool} {w0 w : World} {B : Nat} {fs : List HP} (hm : nono_strange_m n1 = some r) (hS : Sep w0 B w (fs)) :
    Calls Try.prog 112 #[.int .i64 n1] w fun e w' => e = .returned (.bool r) ∧ Sep w0 B w' (fs) := by
  unfold nono_strange_m at hm
  replace hm := start_b hm
  refine enter (l := [.int .i64 n1]) (n := 9) Try.func112 rfl rfl (by simp) (fun a hF => ?_)
  refine reg [] [] [0] [pl 0 (.int .i64 n1)] hF hS Fol (by kernel_rfl) (by kernel_rfl) (by kernel_rfl) ?_ (fun a w hF hS => ?_)
  · exact obs_nil
  refine reg [] [] [2] [pl 2 (.bool ((decide (n1 < 1)) || (decide ((20 : Int) < n1))))] hF hS Fol (by kernel_rfl) (by kernel_rfl) (by kernel_rfl) ?_ (fun a w hF hS => ?_)
  · exact obs_nil
  refine wpIn_ret ?_
  have hm : some ((decide (n1 < 1)) || (decide ((20 : Int) < n1))) = some r := hm
  obtain rfl := Option.some.inj hm
  exact retV (rs := [.tmp 2]) (vs := [.bool ((decide (n1 < 1)) || (decide ((20 : Int) < n1)))]) hF rfl (rv_t (by kernel_rfl) <| rv_nil) rfl ⟨rfl, hS⟩

noncomputable def slices_IndexFunc_J3  (z1 : Int) : Option (St Int (Fl Unit Int)) :=
  some (.next (w64 (z1 + 1)))

noncomputable def slices_IndexFunc_J2  (s1 : List Int) (z1 : Int) : Option (St Int (Fl Unit Int)) :=
  asrt (0 ≤ z1 ∧ z1 < (s1.length : Int)) <| (nono_strange_m (geti s1 z1)).bind fun r1 => if r1 then (some (.done (.ret z1))) else ((slices_IndexFunc_J3 z1))

noncomputable def slices_IndexFunc_J1  : Option Int :=
  some (-1)

noncomputable def slices_IndexFunc_K1  : (Fl Unit Int) → Option Int :=
  fun (x : (Fl Unit Int)) => match x with | .go _ => slices_IndexFunc_J1 | .ret x => some x

noncomputable def slices_IndexFunc_L1  (s1 : List Int) : Int → Option (St Int (Fl Unit Int)) :=
  fun (x : Int) => match x with | z1 => if (decide (z1 < (s1.length : Int))) then ((slices_IndexFunc_J2 s1 z1)) else (some (.done (.go ())))

noncomputable def slices_IndexFunc_m  (s1 : List Int) : Option Int :=
  (loop (slices_IndexFunc_L1 s1) 0).bind slices_IndexFunc_K1

set_option maxRecDepth 100000 in
set_option maxHeartbeats 4000000 in
theorem slices_IndexFunc_w  {A1 : Option Addr} {c1 : Nat} {n1 : Nat} {s1 : List Int} {r : Int} {w0 w : World} {B : Nat} {fs : List HP} (hm : slices_IndexFunc_m s1 = some r) (hS : Sep w0 B w (fs)) (hr_s1 : RdF w0 B fs A1 (vI s1)) (_hc_s1 : s1.length ≤ c1) (_hn_s1 : n1 = s1.length) :
    Calls Try.prog 107 #[.slice A1 n1 c1, .func (.func 112) #[] #[]] w fun e w' => e = .returned (.int .i64 r) ∧ Sep w0 B w' (fs) := by
  obtain ⟨i3, hi3, hz3, hs3, hb3⟩ := info_parts Info3
  obtain rfl := _hn_s1
  unfold slices_IndexFunc_m at hm
  replace hm := start_b hm
  refine enter (l := [.slice A1 s1.length c1, .func (.func 112) #[] #[]]) (n := 19) Try.func107 rfl rfl (by simp) (fun a hF => ?_)
  refine reg [] [] [0, 1] [pl 0 (.slice A1 s1.length c1), pl 1 (.func (.func 112) #[] #[])] hF hS Fol (by kernel_rfl) (by kernel_rfl) (by kernel_rfl) ?_ (fun a w hF hS => ?_)
  · exact obs_nil
  refine seq_cut (fun a w => Fr 19 [] a ∧ Sep w0 B w (fs) ∧ (slices_IndexFunc_J1).bind some = some r) ?_ ?_
  · rintro a w ⟨hF, hS, hm⟩
    unfold slices_IndexFunc_J1 at hm
    refine reg [] [] [4] [pl 4 (.int .i64 (-1))] hF hS Fol (by kernel_rfl) (by kernel_rfl) (by kernel_rfl) ?_ (fun a w hF hS => ?_)
    · exact obs_nil
    refine wpIn_ret ?_
    have hm : some (-1) = some r := hm
    obtain rfl := Option.some.inj hm
    exact retV (rs := [.tmp 4]) (vs := [.int .i64 (-1)]) hF rfl (rv_t (by kernel_rfl) <| rv_nil) rfl ⟨rfl, hS⟩
  · refine reg [] [] [0, 1, 7, 8] [pl 0 (.slice A1 s1.length c1), pl 1 (.func (.func 112) #[] #[]), pl 7 (.int .i64 (s1.length : Int)), pl 8 (.int .i64 0)] hF hS Fol (by kernel_rfl) (by kernel_rfl) (by kernel_rfl) ?_ (fun a w hF hS => ?_)
    · exact obs_nil
    refine wpIn_block ?_
    refine wp_loop_model (S := Int) (R := (Fl Unit Int)) (slices_IndexFunc_L1 s1) (fun x => (slices_IndexFunc_K1 x).bind some) r (fun (x : Int) a w => Fr 19 [pl 0 (.slice A1 s1.length c1), pl 1 (.func (.func 112) #[] #[]), pl 7 (.int .i64 (s1.length : Int)), pl 8 (.int .i64 x)] a ∧ Sep w0 B w (fs)) (assoc_b hm) ⟨hF.weak [0, 1, 7, 8] (by kernel_rfl), hS⟩ ?_
    clear hF hS hm
    rintro nn1 z1 a w ⟨hF, hS⟩ hm
    generalize hφ1 : stK (slices_IndexFunc_L1 s1) nn1 (fun x => (slices_IndexFunc_K1 x).bind some) = φ1 at hm
    unfold slices_IndexFunc_L1 at hm
    dsimp only at hm
    refine reg [] [] [0, 1, 7, 8, 9] [pl 0 (.slice A1 s1.length c1), pl 1 (.func (.func 112) #[] #[]), pl 7 (.int .i64 (s1.length : Int)), pl 8 (.int .i64 z1), pl 9 (.bool (decide (z1 < (s1.length : Int))))] hF hS Fol (by kernel_rfl) (by kernel_rfl) (by kernel_rfl) ?_ (fun a w hF hS => ?_)
    · exact obs_nil
    refine seq_cut (fun a w => Fr 19 [pl 0 (.slice A1 s1.length c1), pl 1 (.func (.func 112) #[] #[]), pl 7 (.int .i64 (s1.length : Int)), pl 8 (.int .i64 z1)] a ∧ Sep w0 B w (fs) ∧ ((slices_IndexFunc_J2 s1 z1)).bind φ1 = some r) ?_ ?_
    · rintro a w ⟨hF, hS, hm⟩
      unfold slices_IndexFunc_J2 at hm
      refine seq_cut (fun a w => Fr 19 [pl 0 (.slice A1 s1.length c1), pl 1 (.func (.func 112) #[] #[]), pl 7 (.int .i64 (s1.length : Int)), pl 8 (.int .i64 z1)] a ∧ Sep w0 B w (fs) ∧ ((slices_IndexFunc_J3 z1)).bind φ1 = some r) ?_ ?_
      · rintro a w ⟨hF, hS, hm⟩
        unfold slices_IndexFunc_J3 at hm
        refine reg1 [] [] [0, 1, 7, 8] [pl 0 (.slice A1 s1.length c1), pl 1 (.func (.func 112) #[] #[]), pl 7 (.int .i64 (s1.length : Int)), pl 8 (.int .i64 (w64 (z1 + 1)))] hF hS Fol (by kernel_rfl) (by kernel_rfl) (by kernel_rfl) ?_ (fun a w hF hS => ?_)
        · exact obs_nil
        refine then_n ?_
        rw [← hφ1] at hm
        exact ⟨(w64 (z1 + 1)), ⟨hF.weak [0, 1, 7, 8] (by kernel_rfl), hS⟩, hm⟩
      · refine wpIn_block ?_
        refine reg [] [] [0, 1, 5, 7, 8] [pl 0 (.slice A1 s1.length c1), pl 1 (.func (.func 112) #[] #[]), pl 5 (.int .i64 z1), pl 7 (.int .i64 (s1.length : Int)), pl 8 (.int .i64 z1)] hF hS Fol (by kernel_rfl) (by kernel_rfl) (by kernel_rfl) ?_ (fun a w hF hS => ?_)
        · exact obs_nil
        obtain ⟨hp1, hm⟩ := asrt_b hm
        obtain ⟨r1, hr1, hm⟩ := call_b hm
        refine reg [⟨true, [], vS (Instr.indexAt 22 (.slice A1 s1.length c1) (.int .i64 z1)), .pointer (some (sAddr A1 z1))⟩, ⟨false, [], vS (Instr.loadAt 3 (.pointer (some (sAddr A1 z1)))), .int .i64 (geti s1 z1)⟩, ⟨false, [], callFunc 112 #[.int .i64 (geti s1 z1)], .bool r1⟩] [none, none, none, some (.pointer (some (sAddr A1 z1))), some (.int .i64 (geti s1 z1)), some (.bool r1)] [0, 1, 5, 7, 8, 16] [pl 0 (.slice A1 s1.length c1), pl 1 (.func (.func 112) #[] #[]), pl 5 (.int .i64 z1), pl 7 (.int .i64 (s1.length : Int)), pl 8 (.int .i64 z1), pl 16 (.bool r1)] hF hS Fol (by kernel_rfl) (by kernel_rfl) (by kernel_rfl) ?_ (fun a w hF hS => ?_)
        · exact obs_cons (ob_ix1 (f := (Value.int .i64)) (m := s1) Und22 hi3 hs3 (hr_s1 _ (hS.dropN 0)) rfl (fun _ => hp1)) <| obs_cons (ob_get1 (n := s1.length) (m := s1) (Value.int .i64) (0 : Int) Agg3 (fun _ hS => ⟨_, (hr_s1 _ (hS.dropN 0))⟩) (fun _ hS => rfl) (fun _ => hp1)) <| obs_cons (ob_call Try.func112 (by kernel_rfl) rfl (fun _ _ hS => nono_strange_w hr1 hS )) <| obs_nil
        refine cond_ev (t := 16) (b := r1) hF (by kernel_rfl) (fun hb => ?_) (fun hb => ?_)
        · replace hm := if_t hm hb
          refine reg [] [] [4] [pl 4 (.int .i64 z1)] hF hS Fol (by kernel_rfl) (by kernel_rfl) (by kernel_rfl) ?_ (fun a w hF hS => ?_)
          · exact obs_nil
          refine wpIn_ret ?_
          refine block_r (then_r (then_r (block_r (then_r ?_))))
          rw [← hφ1] at hm
          replace hm := done_b hm
          unfold slices_IndexFunc_K1 at hm
          try dsimp only at hm
          have hm : some z1 = some r := hm
          obtain rfl := Option.some.inj hm
          exact retV (rs := [.tmp 4]) (vs := [.int .i64 z1]) hF rfl (rv_t (by kernel_rfl) <| rv_nil) rfl ⟨rfl, hS⟩
        · replace hm := if_f hm hb
          refine wpIn_skip ?_
          refine block_n ?_
          refine then_n ?_
          exact ⟨hF.weak [0, 1, 7, 8] (by kernel_rfl), hS, hm⟩
    · refine cond_ev (t := 9) (b := decide (z1 < (s1.length : Int))) hF (by kernel_rfl) (fun hb => ?_) (fun hb => ?_)
      · replace hm := if_t hm hb
        refine wpIn_skip ?_
        refine then_n ?_
        exact ⟨hF.weak [0, 1, 7, 8] (by kernel_rfl), hS, hm⟩
      · replace hm := if_f hm hb
        refine wpIn_exit ?_
        refine then_e (then_e (block_e (then_n ?_)))
        rw [← hφ1] at hm
        replace hm := done_b hm
        unfold slices_IndexFunc_K1 at hm
        try dsimp only at hm
        have hm : (slices_IndexFunc_J1).bind some = some r := hm
        exact ⟨hF.weak [] (by kernel_rfl), hS, hm⟩

noncomputable def slices_ContainsFunc_m  (s1 : List Int) : Option Bool :=
  (slices_IndexFunc_m s1).bind fun r1 => some (decide ((0 : Int) ≤ r1))

set_option maxRecDepth 100000 in
set_option maxHeartbeats 4000000 in
theorem slices_ContainsFunc_w  {A1 : Option Addr} {c1 : Nat} {n1 : Nat} {s1 : List Int} {r : Bool} {w0 w : World} {B : Nat} {fs : List HP} (hm : slices_ContainsFunc_m s1 = some r) (hS : Sep w0 B w (fs)) (hr_s1 : RdF w0 B fs A1 (vI s1)) (_hc_s1 : s1.length ≤ c1) (_hn_s1 : n1 = s1.length) :
    Calls Try.prog 50 #[.slice A1 n1 c1, .func (.func 112) #[] #[]] w fun e w' => e = .returned (.bool r) ∧ Sep w0 B w' (fs) := by
  obtain ⟨i3, hi3, hz3, hs3, hb3⟩ := info_parts Info3
  obtain rfl := _hn_s1
  unfold slices_ContainsFunc_m at hm
  replace hm := start_b hm
  refine enter (l := [.slice A1 s1.length c1, .func (.func 112) #[] #[]]) (n := 9) Try.func50 rfl rfl (by simp) (fun a hF => ?_)
  refine reg [] [] [0, 1] [pl 0 (.slice A1 s1.length c1), pl 1 (.func (.func 112) #[] #[])] hF hS Fol (by kernel_rfl) (by kernel_rfl) (by kernel_rfl) ?_ (fun a w hF hS => ?_)
  · exact obs_nil
  obtain ⟨r1, hr1, hm⟩ := call_b hm
  refine reg [⟨false, [], callFunc 107 #[.slice A1 s1.length c1, .func (.func 112) #[] #[]], .int .i64 r1⟩] [none, none, some (.int .i64 r1), none, none] [4] [pl 4 (.bool (decide ((0 : Int) ≤ r1)))] hF hS Fol (by kernel_rfl) (by kernel_rfl) (by kernel_rfl) ?_ (fun a w hF hS => ?_)
  · exact obs_cons (ob_call Try.func107 (by kernel_rfl) rfl (fun _ _ hS => slices_IndexFunc_w hr1 hS (fun _ hS => (hr_s1 _ (hS.dropN 0))) _hc_s1 rfl)) <| obs_nil
  refine wpIn_ret ?_
  have hm : some (decide ((0 : Int) ≤ r1)) = some r := hm
  obtain rfl := Option.some.inj hm
  exact retV (rs := [.tmp 4]) (vs := [.bool (decide ((0 : Int) ≤ r1))]) hF rfl (rv_t (by kernel_rfl) <| rv_nil) rfl ⟨rfl, hS⟩

noncomputable def bits_Mul64_m  (x1 : Int) (y1 : Int) : Option (Int × Int) :=
  some ((IntKind.wrap .u64 ((IntKind.wrap .u64 ((IntKind.wrap .u64 ((shrK .u64 x1 32) * (shrK .u64 y1 32))) + (shrK .u64 (IntKind.wrap .u64 ((IntKind.wrap .u64 ((shrK .u64 x1 32) * (andK .u64 y1 4294967295))) + (shrK .u64 (IntKind.wrap .u64 ((andK .u64 x1 4294967295) * (andK .u64 y1 4294967295))) 32))) 32))) + (shrK .u64 (IntKind.wrap .u64 ((andK .u64 (IntKind.wrap .u64 ((IntKind.wrap .u64 ((shrK .u64 x1 32) * (andK .u64 y1 4294967295))) + (shrK .u64 (IntKind.wrap .u64 ((andK .u64 x1 4294967295) * (andK .u64 y1 4294967295))) 32))) 4294967295) + (IntKind.wrap .u64 ((andK .u64 x1 4294967295) * (shrK .u64 y1 32))))) 32))), (IntKind.wrap .u64 (x1 * y1)))

set_option maxRecDepth 100000 in
set_option maxHeartbeats 4000000 in
theorem bits_Mul64_w  {x1 : Int} {y1 : Int} {r : (Int × Int)} {w0 w : World} {B : Nat} {fs : List HP} (hm : bits_Mul64_m x1 y1 = some r) (hS : Sep w0 B w (fs)) :
    Calls Try.prog 184 #[.int .u64 x1, .int .u64 y1] w fun e w' => e = .returned (.tuple #[.int .u64 r.1, .int .u64 r.2]) ∧ Sep w0 B w' (fs) := by
  unfold bits_Mul64_m at hm
  replace hm := start_b hm
  refine enter (l := [.int .u64 x1, .int .u64 y1]) (n := 51) Try.func184 rfl rfl (by simp) (fun a hF => ?_)
  refine reg [] [] [0, 1] [pl 0 (.int .u64 x1), pl 1 (.int .u64 y1)] hF hS Fol (by kernel_rfl) (by kernel_rfl) (by kernel_rfl) ?_ (fun a w hF hS => ?_)
  · exact obs_nil
  refine reg [] [] [0, 1, 6] [pl 0 (.int .u64 x1), pl 1 (.int .u64 y1), pl 6 (.int .u64 (andK .u64 x1 4294967295))] hF hS Fol (by kernel_rfl) (by kernel_rfl) (by kernel_rfl) ?_ (fun a w hF hS => ?_)
  · exact obs_nil
  refine reg [⟨true, [], vS (Op.shift .shr .u64 x1 .u64 32), .int .u64 (shrK .u64 x1 32)⟩] [none, some (.int .u64 (shrK .u64 x1 32)), none] [0, 1, 6, 7] [pl 0 (.int .u64 x1), pl 1 (.int .u64 y1), pl 6 (.int .u64 (andK .u64 x1 4294967295)), pl 7 (.int .u64 (shrK .u64 x1 32))] hF hS Fol (by kernel_rfl) (by kernel_rfl) (by kernel_rfl) ?_ (fun a w hF hS => ?_)
  · exact obs_cons (ob_shr (fun _ => by decide)) <| obs_nil
  refine reg [] [] [0, 1, 6, 7, 8] [pl 0 (.int .u64 x1), pl 1 (.int .u64 y1), pl 6 (.int .u64 (andK .u64 x1 4294967295)), pl 7 (.int .u64 (shrK .u64 x1 32)), pl 8 (.int .u64 (andK .u64 y1 4294967295))] hF hS Fol (by kernel_rfl) (by kernel_rfl) (by kernel_rfl) ?_ (fun a w hF hS => ?_)
  · exact obs_nil
  refine reg [⟨true, [], vS (Op.shift .shr .u64 y1 .u64 32), .int .u64 (shrK .u64 y1 32)⟩] [none, some (.int .u64 (shrK .u64 y1 32)), none] [0, 1, 6, 7, 8, 9] [pl 0 (.int .u64 x1), pl 1 (.int .u64 y1), pl 6 (.int .u64 (andK .u64 x1 4294967295)), pl 7 (.int .u64 (shrK .u64 x1 32)), pl 8 (.int .u64 (andK .u64 y1 4294967295)), pl 9 (.int .u64 (shrK .u64 y1 32))] hF hS Fol (by kernel_rfl) (by kernel_rfl) (by kernel_rfl) ?_ (fun a w hF hS => ?_)
  · exact obs_cons (ob_shr (fun _ => by decide)) <| obs_nil
  refine reg [] [] [0, 1, 6, 7, 8, 9, 10] [pl 0 (.int .u64 x1), pl 1 (.int .u64 y1), pl 6 (.int .u64 (andK .u64 x1 4294967295)), pl 7 (.int .u64 (shrK .u64 x1 32)), pl 8 (.int .u64 (andK .u64 y1 4294967295)), pl 9 (.int .u64 (shrK .u64 y1 32)), pl 10 (.int .u64 (IntKind.wrap .u64 ((andK .u64 x1 4294967295) * (andK .u64 y1 4294967295))))] hF hS Fol (by kernel_rfl) (by kernel_rfl) (by kernel_rfl) ?_ (fun a w hF hS => ?_)
  · exact obs_nil
  refine reg [⟨true, [], vS (Op.shift .shr .u64 (IntKind.wrap .u64 ((andK .u64 x1 4294967295) * (andK .u64 y1 4294967295))) .u64 32), .int .u64 (shrK .u64 (IntKind.wrap .u64 ((andK .u64 x1 4294967295) * (andK .u64 y1 4294967295))) 32)⟩] [none, none, none, none, some (.int .u64 (shrK .u64 (IntKind.wrap .u64 ((andK .u64 x1 4294967295) * (andK .u64 y1 4294967295))) 32)), none, none] [0, 1, 6, 7, 9, 11] [pl 0 (.int .u64 x1), pl 1 (.int .u64 y1), pl 6 (.int .u64 (andK .u64 x1 4294967295)), pl 7 (.int .u64 (shrK .u64 x1 32)), pl 9 (.int .u64 (shrK .u64 y1 32)), pl 11 (.int .u64 (IntKind.wrap .u64 ((IntKind.wrap .u64 ((shrK .u64 x1 32) * (andK .u64 y1 4294967295))) + (shrK .u64 (IntKind.wrap .u64 ((andK .u64 x1 4294967295) * (andK .u64 y1 4294967295))) 32))))] hF hS Fol (by kernel_rfl) (by kernel_rfl) (by kernel_rfl) ?_ (fun a w hF hS => ?_)
  · exact obs_cons (ob_shr (fun _ => by decide)) <| obs_nil
  refine reg [] [] [0, 1, 6, 7, 9, 11, 12] [pl 0 (.int .u64 x1), pl 1 (.int .u64 y1), pl 6 (.int .u64 (andK .u64 x1 4294967295)), pl 7 (.int .u64 (shrK .u64 x1 32)), pl 9 (.int .u64 (shrK .u64 y1 32)), pl 11 (.int .u64 (IntKind.wrap .u64 ((IntKind.wrap .u64 ((shrK .u64 x1 32) * (andK .u64 y1 4294967295))) + (shrK .u64 (IntKind.wrap .u64 ((andK .u64 x1 4294967295) * (andK .u64 y1 4294967295))) 32)))), pl 12 (.int .u64 (andK .u64 (IntKind.wrap .u64 ((IntKind.wrap .u64 ((shrK .u64 x1 32) * (andK .u64 y1 4294967295))) + (shrK .u64 (IntKind.wrap .u64 ((andK .u64 x1 4294967295) * (andK .u64 y1 4294967295))) 32))) 4294967295))] hF hS Fol (by kernel_rfl) (by kernel_rfl) (by kernel_rfl) ?_ (fun a w hF hS => ?_)
  · exact obs_nil
  refine reg [⟨true, [], vS (Op.shift .shr .u64 (IntKind.wrap .u64 ((IntKind.wrap .u64 ((shrK .u64 x1 32) * (andK .u64 y1 4294967295))) + (shrK .u64 (IntKind.wrap .u64 ((andK .u64 x1 4294967295) * (andK .u64 y1 4294967295))) 32))) .u64 32), .int .u64 (shrK .u64 (IntKind.wrap .u64 ((IntKind.wrap .u64 ((shrK .u64 x1 32) * (andK .u64 y1 4294967295))) + (shrK .u64 (IntKind.wrap .u64 ((andK .u64 x1 4294967295) * (andK .u64 y1 4294967295))) 32))) 32)⟩] [none, some (.int .u64 (shrK .u64 (IntKind.wrap .u64 ((IntKind.wrap .u64 ((shrK .u64 x1 32) * (andK .u64 y1 4294967295))) + (shrK .u64 (IntKind.wrap .u64 ((andK .u64 x1 4294967295) * (andK .u64 y1 4294967295))) 32))) 32)), none] [0, 1, 6, 7, 9, 12, 13] [pl 0 (.int .u64 x1), pl 1 (.int .u64 y1), pl 6 (.int .u64 (andK .u64 x1 4294967295)), pl 7 (.int .u64 (shrK .u64 x1 32)), pl 9 (.int .u64 (shrK .u64 y1 32)), pl 12 (.int .u64 (andK .u64 (IntKind.wrap .u64 ((IntKind.wrap .u64 ((shrK .u64 x1 32) * (andK .u64 y1 4294967295))) + (shrK .u64 (IntKind.wrap .u64 ((andK .u64 x1 4294967295) * (andK .u64 y1 4294967295))) 32))) 4294967295)), pl 13 (.int .u64 (shrK .u64 (IntKind.wrap .u64 ((IntKind.wrap .u64 ((shrK .u64 x1 32) * (andK .u64 y1 4294967295))) + (shrK .u64 (IntKind.wrap .u64 ((andK .u64 x1 4294967295) * (andK .u64 y1 4294967295))) 32))) 32))] hF hS Fol (by kernel_rfl) (by kernel_rfl) (by kernel_rfl) ?_ (fun a w hF hS => ?_)
  · exact obs_cons (ob_shr (fun _ => by decide)) <| obs_nil
  refine reg [] [] [0, 1, 7, 9, 12, 13] [pl 0 (.int .u64 x1), pl 1 (.int .u64 y1), pl 7 (.int .u64 (shrK .u64 x1 32)), pl 9 (.int .u64 (shrK .u64 y1 32)), pl 12 (.int .u64 (IntKind.wrap .u64 ((andK .u64 (IntKind.wrap .u64 ((IntKind.wrap .u64 ((shrK .u64 x1 32) * (andK .u64 y1 4294967295))) + (shrK .u64 (IntKind.wrap .u64 ((andK .u64 x1 4294967295) * (andK .u64 y1 4294967295))) 32))) 4294967295) + (IntKind.wrap .u64 ((andK .u64 x1 4294967295) * (shrK .u64 y1 32)))))), pl 13 (.int .u64 (shrK .u64 (IntKind.wrap .u64 ((IntKind.wrap .u64 ((shrK .u64 x1 32) * (andK .u64 y1 4294967295))) + (shrK .u64 (IntKind.wrap .u64 ((andK .u64 x1 4294967295) * (andK .u64 y1 4294967295))) 32))) 32))] hF hS Fol (by kernel_rfl) (by kernel_rfl) (by kernel_rfl) ?_ (fun a w hF hS => ?_)
  · exact obs_nil
  refine reg [⟨true, [], vS (Op.shift .shr .u64 (IntKind.wrap .u64 ((andK .u64 (IntKind.wrap .u64 ((IntKind.wrap .u64 ((shrK .u64 x1 32) * (andK .u64 y1 4294967295))) + (shrK .u64 (IntKind.wrap .u64 ((andK .u64 x1 4294967295) * (andK .u64 y1 4294967295))) 32))) 4294967295) + (IntKind.wrap .u64 ((andK .u64 x1 4294967295) * (shrK .u64 y1 32))))) .u64 32), .int .u64 (shrK .u64 (IntKind.wrap .u64 ((andK .u64 (IntKind.wrap .u64 ((IntKind.wrap .u64 ((shrK .u64 x1 32) * (andK .u64 y1 4294967295))) + (shrK .u64 (IntKind.wrap .u64 ((andK .u64 x1 4294967295) * (andK .u64 y1 4294967295))) 32))) 4294967295) + (IntKind.wrap .u64 ((andK .u64 x1 4294967295) * (shrK .u64 y1 32))))) 32)⟩] [none, none, none, none, none, none, some (.int .u64 (shrK .u64 (IntKind.wrap .u64 ((andK .u64 (IntKind.wrap .u64 ((IntKind.wrap .u64 ((shrK .u64 x1 32) * (andK .u64 y1 4294967295))) + (shrK .u64 (IntKind.wrap .u64 ((andK .u64 x1 4294967295) * (andK .u64 y1 4294967295))) 32))) 4294967295) + (IntKind.wrap .u64 ((andK .u64 x1 4294967295) * (shrK .u64 y1 32))))) 32)), none, none] [0, 1, 4] [pl 0 (.int .u64 x1), pl 1 (.int .u64 y1), pl 4 (.int .u64 (IntKind.wrap .u64 ((IntKind.wrap .u64 ((IntKind.wrap .u64 ((shrK .u64 x1 32) * (shrK .u64 y1 32))) + (shrK .u64 (IntKind.wrap .u64 ((IntKind.wrap .u64 ((shrK .u64 x1 32) * (andK .u64 y1 4294967295))) + (shrK .u64 (IntKind.wrap .u64 ((andK .u64 x1 4294967295) * (andK .u64 y1 4294967295))) 32))) 32))) + (shrK .u64 (IntKind.wrap .u64 ((andK .u64 (IntKind.wrap .u64 ((IntKind.wrap .u64 ((shrK .u64 x1 32) * (andK .u64 y1 4294967295))) + (shrK .u64 (IntKind.wrap .u64 ((andK .u64 x1 4294967295) * (andK .u64 y1 4294967295))) 32))) 4294967295) + (IntKind.wrap .u64 ((andK .u64 x1 4294967295) * (shrK .u64 y1 32))))) 32))))] hF hS Fol (by kernel_rfl) (by kernel_rfl) (by kernel_rfl) ?_ (fun a w hF hS => ?_)
  · exact obs_cons (ob_shr (fun _ => by decide)) <| obs_nil
  refine reg [] [] [4, 5] [pl 4 (.int .u64 (IntKind.wrap .u64 ((IntKind.wrap .u64 ((IntKind.wrap .u64 ((shrK .u64 x1 32) * (shrK .u64 y1 32))) + (shrK .u64 (IntKind.wrap .u64 ((IntKind.wrap .u64 ((shrK .u64 x1 32) * (andK .u64 y1 4294967295))) + (shrK .u64 (IntKind.wrap .u64 ((andK .u64 x1 4294967295) * (andK .u64 y1 4294967295))) 32))) 32))) + (shrK .u64 (IntKind.wrap .u64 ((andK .u64 (IntKind.wrap .u64 ((IntKind.wrap .u64 ((shrK .u64 x1 32) * (andK .u64 y1 4294967295))) + (shrK .u64 (IntKind.wrap .u64 ((andK .u64 x1 4294967295) * (andK .u64 y1 4294967295))) 32))) 4294967295) + (IntKind.wrap .u64 ((andK .u64 x1 4294967295) * (shrK .u64 y1 32))))) 32)))), pl 5 (.int .u64 (IntKind.wrap .u64 (x1 * y1)))] hF hS Fol (by kernel_rfl) (by kernel_rfl) (by kernel_rfl) ?_ (fun a w hF hS => ?_)
  · exact obs_nil
  refine wpIn_ret ?_
  have hm : some ((IntKind.wrap .u64 ((IntKind.wrap .u64 ((IntKind.wrap .u64 ((shrK .u64 x1 32) * (shrK .u64 y1 32))) + (shrK .u64 (IntKind.wrap .u64 ((IntKind.wrap .u64 ((shrK .u64 x1 32) * (andK .u64 y1 4294967295))) + (shrK .u64 (IntKind.wrap .u64 ((andK .u64 x1 4294967295) * (andK .u64 y1 4294967295))) 32))) 32))) + (shrK .u64 (IntKind.wrap .u64 ((andK .u64 (IntKind.wrap .u64 ((IntKind.wrap .u64 ((shrK .u64 x1 32) * (andK .u64 y1 4294967295))) + (shrK .u64 (IntKind.wrap .u64 ((andK .u64 x1 4294967295) * (andK .u64 y1 4294967295))) 32))) 4294967295) + (IntKind.wrap .u64 ((andK .u64 x1 4294967295) * (shrK .u64 y1 32))))) 32))), (IntKind.wrap .u64 (x1 * y1))) = some r := hm
  obtain rfl := Option.some.inj hm
  exact retV (rs := [.tmp 4, .tmp 5]) (vs := [.int .u64 (IntKind.wrap .u64 ((IntKind.wrap .u64 ((IntKind.wrap .u64 ((shrK .u64 x1 32) * (shrK .u64 y1 32))) + (shrK .u64 (IntKind.wrap .u64 ((IntKind.wrap .u64 ((shrK .u64 x1 32) * (andK .u64 y1 4294967295))) + (shrK .u64 (IntKind.wrap .u64 ((andK .u64 x1 4294967295) * (andK .u64 y1 4294967295))) 32))) 32))) + (shrK .u64 (IntKind.wrap .u64 ((andK .u64 (IntKind.wrap .u64 ((IntKind.wrap .u64 ((shrK .u64 x1 32) * (andK .u64 y1 4294967295))) + (shrK .u64 (IntKind.wrap .u64 ((andK .u64 x1 4294967295) * (andK .u64 y1 4294967295))) 32))) 4294967295) + (IntKind.wrap .u64 ((andK .u64 x1 4294967295) * (shrK .u64 y1 32))))) 32))), .int .u64 (IntKind.wrap .u64 (x1 * y1))]) hF rfl (rv_t (by kernel_rfl) <| rv_t (by kernel_rfl) <| rv_nil) rfl ⟨rfl, hS⟩

noncomputable def bits_Mul_J1  (x1 : Int) (y1 : Int) : Option (Int × Int) :=
  (bits_Mul64_m x1 y1).bind fun r1 => some (r1.1, r1.2)

noncomputable def bits_Mul_m  (x1 : Int) (y1 : Int) : Option (Int × Int) :=
  (bits_Mul_J1 x1 y1)

set_option maxRecDepth 100000 in
set_option maxHeartbeats 4000000 in
theorem bits_Mul_w  {x1 : Int} {y1 : Int} {r : (Int × Int)} {w0 w : World} {B : Nat} {fs : List HP} (hm : bits_Mul_m x1 y1 = some r) (hS : Sep w0 B w (fs)) :
    Calls Try.prog 154 #[.int .u64 x1, .int .u64 y1] w fun e w' => e = .returned (.tuple #[.int .u64 r.1, .int .u64 r.2]) ∧ Sep w0 B w' (fs) := by
  unfold bits_Mul_m at hm
  replace hm := start_b hm
  refine enter (l := [.int .u64 x1, .int .u64 y1]) (n := 30) Try.func154 rfl rfl (by simp) (fun a hF => ?_)
  refine reg [] [] [0, 1] [pl 0 (.int .u64 x1), pl 1 (.int .u64 y1)] hF hS Fol (by kernel_rfl) (by kernel_rfl) (by kernel_rfl) ?_ (fun a w hF hS => ?_)
  · exact obs_nil
  refine seq_cut (fun a w => Fr 30 [pl 0 (.int .u64 x1), pl 1 (.int .u64 y1)] a ∧ Sep w0 B w (fs) ∧ ((bits_Mul_J1 x1 y1)).bind some = some r) ?_ ?_
  · rintro a w ⟨hF, hS, hm⟩
    unfold bits_Mul_J1 at hm
    obtain ⟨r1, hr1, hm⟩ := call_b hm
    refine reg [⟨false, [], callFunc 184 #[.int .u64 x1, .int .u64 y1], .tuple #[.int .u64 r1.1, .int .u64 r1.2]⟩] [none, none, some (.tuple #[.int .u64 r1.1, .int .u64 r1.2]), none, none, none, none, none] [8, 9] [pl 8 (.int .u64 r1.1), pl 9 (.int .u64 r1.2)] hF hS Fol (by kernel_rfl) (by kernel_rfl) (by kernel_rfl) ?_ (fun a w hF hS => ?_)
    · exact obs_cons (ob_call Try.func184 (by kernel_rfl) rfl (fun _ _ hS => bits_Mul64_w hr1 hS )) <| obs_nil
    refine reg [] [] [4, 5] [pl 4 (.int .u64 r1.1), pl 5 (.int .u64 r1.2)] hF hS Fol (by kernel_rfl) (by kernel_rfl) (by kernel_rfl) ?_ (fun a w hF hS => ?_)
    · exact obs_nil
    refine wpIn_ret ?_
    have hm : some (r1.1, r1.2) = some r := hm
    obtain rfl := Option.some.inj hm
    exact retV (rs := [.tmp 4, .tmp 5]) (vs := [.int .u64 r1.1, .int .u64 r1.2]) hF rfl (rv_t (by kernel_rfl) <| rv_t (by kernel_rfl) <| rv_nil) rfl ⟨rfl, hS⟩
  · refine cond_f ?_
    refine wpIn_skip ?_
    refine then_n ?_
    exact ⟨hF.weak [0, 1] (by kernel_rfl), hS, hm⟩

noncomputable def slices_Repeat_J4  (r1 : (Int × Int)) (newslice1 : List Int) (n2 : Int) : Option (St (List Int × Int) (List Int)) :=
  asrt (0 ≤ n2 ∧ n2 ≤ (((Int.toNat (w64 r1.2)) : Nat) : Int) ∧ (((Int.toNat (w64 r1.2)) : Nat) : Int) ≤ (((Int.toNat (w64 r1.2)) : Nat) : Int)) <| asrt (0 ≤ (0 : Int) ∧ (0 : Int) ≤ n2 ∧ n2 ≤ (((Int.toNat (w64 r1.2)) : Nat) : Int)) <| some (.next ((putL newslice1 (Int.toNat n2) (List.take ((cut newslice1 n2 (((Int.toNat (w64 r1.2)) : Nat) : Int)).length) (cut newslice1 (0 : Int) n2))), (w64 (n2 + (minI (((cut newslice1 n2 (((Int.toNat (w64 r1.2)) : Nat) : Int)).length : Nat) : Int) (((cut newslice1 (0 : Int) n2).length : Nat) : Int))))))

noncomputable def slices_Repeat_J3  (newslice2 : List Int) : Option (List Int) :=
  some newslice2

noncomputable def slices_Repeat_K1  : (List Int) → Option (List Int) :=
  fun (x : (List Int)) => match x with | newslice2 => slices_Repeat_J3 newslice2

noncomputable def slices_Repeat_L1  (r1 : (Int × Int)) : (List Int × Int) → Option (St (List Int × Int) (List Int)) :=
  fun (x : (List Int × Int)) => match x with | (newslice1, n2) => if (decide (n2 < (((Int.toNat (w64 r1.2)) : Nat) : Int))) then ((slices_Repeat_J4 r1 newslice1 n2)) else (some (.done newslice1))

noncomputable def slices_Repeat_J2  (x1 : List Int) (r1 : (Int × Int)) : Option (List Int) :=
  asrt ((0 : Int) ≤ (w64 r1.2) ∧ (w64 r1.2) ≤ bigN) <| (loop (slices_Repeat_L1 r1) ((putL (List.replicate (Int.toNat (w64 r1.2)) (0 : Int)) 0 (List.take (Int.toNat (w64 r1.2)) x1)), (minI (((Int.toNat (w64 r1.2)) : Nat) : Int) (x1.length : Int)))).bind slices_Repeat_K1

noncomputable def slices_Repeat_J1  (x1 : List Int) (count1 : Int) : Option (List Int) :=
  (bits_Mul_m (IntKind.wrap .u64 (x1.length : Int)) (IntKind.wrap .u64 count1)).bind fun r1 => if ((decide ((0 : Int) < r1.1)) || (decide ((9223372036854775807 : Int) < r1.2))) then none else ((slices_Repeat_J2 x1 r1))

noncomputable def slices_Repeat_m  (x1 : List Int) (count1 : Int) : Option (List Int) :=
  if (decide (count1 < 0)) then none else ((slices_Repeat_J1 x1 count1))

set_option maxRecDepth 100000 in
set_option maxHeartbeats 4000000 in
theorem slices_Repeat_w  {A1 : Option Addr} {c1 : Nat} {n1 : Nat} {x1 : List Int} {count1 : Int} {r : (List Int)} {w0 w : World} {B : Nat} {fs : List HP} (hm : slices_Repeat_m x1 count1 = some r) (hS : Sep w0 B w (fs)) (hr_x1 : RdF w0 B fs A1 (vI x1)) (_hc_x1 : x1.length ≤ c1) (_hn_x1 : n1 = x1.length) :
    Calls Try.prog 113 #[.slice A1 n1 c1, .int .i64 count1] w fun e w' => ∃ v, e = .returned v ∧ ∃ (A3 : Option Addr) (c3 : Nat), v = .slice A3 r.length c3 ∧ Sep w0 B w' (own 3 (.slice A3 r.length c3) (vI r) :: fs) := by
  obtain ⟨i3, hi3, hz3, hs3, hb3⟩ := info_parts Info3
  obtain rfl := _hn_x1
  unfold slices_Repeat_m at hm
  replace hm := start_b hm
  refine enter (l := [.slice A1 x1.length c1, .int .i64 count1]) (n := 48) Try.func113 rfl rfl (by simp) (fun a hF => ?_)
  refine reg [] [] [0, 1] [pl 0 (.slice A1 x1.length c1), pl 1 (.int .i64 count1)] hF hS Fol (by kernel_rfl) (by kernel_rfl) (by kernel_rfl) ?_ (fun a w hF hS => ?_)
  · exact obs_nil
  refine seq_cut (fun a w => Fr 48 [pl 0 (.slice A1 x1.length c1), pl 1 (.int .i64 count1)] a ∧ Sep w0 B w (fs) ∧ ((slices_Repeat_J1 x1 count1)).bind some = some r) ?_ ?_
  · rintro a w ⟨hF, hS, hm⟩
    unfold slices_Repeat_J1 at hm
    obtain ⟨r1, hr1, hm⟩ := call_b hm
    refine reg [⟨false, [], callFunc 154 #[.int .u64 (IntKind.wrap .u64 (x1.length : Int)), .int .u64 (IntKind.wrap .u64 count1)], .tuple #[.int .u64 r1.1, .int .u64 r1.2]⟩] [none, none, none, none, none, some (.tuple #[.int .u64 r1.1, .int .u64 r1.2]), none, none, none, none, none] [0, 5, 6] [pl 0 (.slice A1 x1.length c1), pl 5 (.int .u64 r1.1), pl 6 (.int .u64 r1.2)] hF hS Fol (by kernel_rfl) (by kernel_rfl) (by kernel_rfl) ?_ (fun a w hF hS => ?_)
    · exact obs_cons (ob_call Try.func154 (by kernel_rfl) rfl (fun _ _ hS => bits_Mul_w hr1 hS )) <| obs_nil
    refine seq_cut (fun a w => Fr 48 [pl 0 (.slice A1 x1.length c1), pl 6 (.int .u64 r1.2)] a ∧ Sep w0 B w (fs) ∧ ((slices_Repeat_J2 x1 r1)).bind some = some r) ?_ ?_
    · rintro a w ⟨hF, hS, hm⟩
      unfold slices_Repeat_J2 at hm
      refine seqR ?_
      obtain ⟨hp1, hm⟩ := asrt_b hm
      refine at_run 2 [] [] [0, 29] [pl 0 (.slice A1 x1.length c1), pl 29 (.int .i64 (w64 r1.2))] hF hS (by kernel_rfl) (by kernel_rfl) ?_ (fun a w hF hS => ?_)
      · exact obs_nil
      obtain ⟨A2, c2, w, hrun, hS⟩ := run_mk1 (P := Try.prog) (t := 22) (Value.int .i64) (0 : Int) hS .i64 .i64 Und22 hi3 hz3 hs3 (by omega) rfl hp1
      have hS : Sep w0 B w (own 3 (.slice A2 (Int.toNat (w64 r1.2)) c2) (vI (List.replicate (Int.toNat (w64 r1.2)) (0 : Int))) :: fs) := hS
      refine at_do (d := 30) hF (by kernel_rfl) (by kernel_rfl) hrun (fun a hF => ?_)
      refine at_run 1 [] [] [0, 7] [pl 0 (.slice A1 x1.length c1), pl 7 (.slice A2 (Int.toNat (w64 r1.2)) c2)] hF hS (by kernel_rfl) (by kernel_rfl) ?_ (fun a w hF hS => ?_)
      · exact obs_nil
      refine at_end [0, 7] [pl 0 (.slice A1 x1.length c1), pl 7 (.slice A2 (Int.toNat (w64 r1.2)) c2)] hF rfl (by kernel_rfl) (fun hF => ?_)
      refine then_n ?_
      refine seqR ?_
      refine at_run 2 [] [] [7, 31, 32] [pl 7 (.slice A2 (Int.toNat (w64 r1.2)) c2), pl 31 (.slice A2 (Int.toNat (w64 r1.2)) c2), pl 32 (.slice A1 x1.length c1)] hF hS (by kernel_rfl) (by kernel_rfl) ?_ (fun a w hF hS => ?_)
      · exact obs_nil
      obtain ⟨w, hrun, hS⟩ := run_copy0 (P := Try.prog) (t := 22) (t2 := 22) (ty := 3) (ys := x1) (A2 := A1) (n2 := x1.length) (c2 := c1) (hS.at_ 0 rfl) (hr_x1 _ (hS.dropN 1)) rfl Und22 hi3 hs3
      refine at_do (d := 33) hF (by kernel_rfl) (by kernel_rfl) hrun (fun a hF => ?_)
      have hS : Sep w0 B w (own 3 (.slice A2 (Int.toNat (w64 r1.2)) c2) (vI (putL (List.replicate (Int.toNat (w64 r1.2)) (0 : Int)) 0 (List.take (Int.toNat (w64 r1.2)) x1))) :: fs) := hS
      refine at_run 1 [] [] [7, 8] [pl 7 (.slice A2 (Int.toNat (w64 r1.2)) c2), pl 8 (.int .i64 (minI (((Int.toNat (w64 r1.2)) : Nat) : Int) (x1.length : Int)))] hF hS (by kernel_rfl) (by kernel_rfl) ?_ (fun a w hF hS => ?_)
      · exact obs_nil
      refine at_end [7, 8] [pl 7 (.slice A2 (Int.toNat (w64 r1.2)) c2), pl 8 (.int .i64 (minI (((Int.toNat (w64 r1.2)) : Nat) : Int) (x1.length : Int)))] hF rfl (by kernel_rfl) (fun hF => ?_)
      refine then_n ?_
      refine seq_cut (fun a w => ∃ (newslice2 : List Int), Fr 48 [pl 7 (.slice A2 (Int.toNat (w64 r1.2)) c2)] a ∧ Sep w0 B w (own 3 (.slice A2 (Int.toNat (w64 r1.2)) c2) (vI newslice2) :: fs) ∧ (slices_Repeat_J3 newslice2).bind some = some r) ?_ ?_
      · rintro a w ⟨newslice2, hF, hS, hm⟩
        unfold slices_Repeat_J3 at hm
        refine reg [] [] [4] [pl 4 (.slice A2 (Int.toNat (w64 r1.2)) c2)] hF hS Fol (by kernel_rfl) (by kernel_rfl) (by kernel_rfl) ?_ (fun a w hF hS => ?_)
        · exact obs_nil
        refine wpIn_ret ?_
        have hl1 := (hS.at_ 0 rfl).len1
        have hS := (hS.at_ 0 rfl).reN hl1
        have hS : Sep w0 B w (own 3 (.slice A2 newslice2.length c2) (vI newslice2) :: fs) := hS
        have hF := hF.cast (t := 4) (v := .slice A2 (Int.toNat (w64 r1.2)) c2) (v' := .slice A2 newslice2.length c2) rfl rfl (congrArg (fun k => Value.slice A2 k c2) hl1)
        have hm : some newslice2 = some r := hm
        obtain rfl := Option.some.inj hm
        exact retV (rs := [.tmp 4]) (vs := [.slice A2 newslice2.length c2]) hF rfl (rv_t (by kernel_rfl) <| rv_nil) rfl ⟨_, rfl, A2, c2, rfl, hS⟩
      · refine wpIn_block ?_
        refine wp_loop_model (S := (List Int × Int)) (R := (List Int)) (slices_Repeat_L1 r1) (fun x => (slices_Repeat_K1 x).bind some) r (fun (x : (List Int × Int)) a w => Fr 48 [pl 7 (.slice A2 (Int.toNat (w64 r1.2)) c2), pl 8 (.int .i64 x.2)] a ∧ Sep w0 B w (own 3 (.slice A2 (Int.toNat (w64 r1.2)) c2) (vI x.1) :: fs)) (assoc_b hm) ⟨hF.weak [7, 8] (by kernel_rfl), hS⟩ ?_
        clear hF hS hm
        rintro nn1 ⟨newslice1, n2⟩ a w ⟨hF, hS⟩ hm
        generalize hφ1 : stK (slices_Repeat_L1 r1) nn1 (fun x => (slices_Repeat_K1 x).bind some) = φ1 at hm
        unfold slices_Repeat_L1 at hm
        dsimp only at hF hS hm
        refine seq_cut (fun a w => Fr 48 [pl 7 (.slice A2 (Int.toNat (w64 r1.2)) c2), pl 8 (.int .i64 n2)] a ∧ Sep w0 B w (own 3 (.slice A2 (Int.toNat (w64 r1.2)) c2) (vI newslice1) :: fs) ∧ ((slices_Repeat_J4 r1 newslice1 n2)).bind φ1 = some r) ?_ ?_
        · rintro a w ⟨hF, hS, hm⟩
          unfold slices_Repeat_J4 at hm
          refine wpIn_block ?_
          obtain ⟨hp2, hm⟩ := asrt_b hm
          obtain ⟨hp3, hm⟩ := asrt_b hm
          have hb1 := cutb (n := (Int.toNat (w64 r1.2))) ((hS.at_ 0 rfl).len1) hp2
          have hb2 := cutb (n := (Int.toNat (w64 r1.2))) ((hS.at_ 0 rfl).len1) hp3
          refine regMix4 [0, 1, 2, 3, 4, 5, 6] [7, 8, 9] [⟨true, [], vS (Instr.sliceAt 22 (.slice A2 (Int.toNat (w64 r1.2)) c2) (some (.int .i64 n2)) none none), .slice (cutAddr A2 c2 n2) ((cut newslice1 n2 (((Int.toNat (w64 r1.2)) : Nat) : Int)).length) (c2 - Int.toNat n2)⟩, ⟨true, [], vS (Instr.sliceAt 22 (.slice A2 (Int.toNat (w64 r1.2)) c2) none (some (.int .i64 n2)) none), .slice (cutAddr A2 c2 (0 : Int)) ((cut newslice1 (0 : Int) n2).length) (c2 - Int.toNat (0 : Int))⟩] [none, none, none, some (.slice (cutAddr A2 c2 n2) ((cut newslice1 n2 (((Int.toNat (w64 r1.2)) : Nat) : Int)).length) (c2 - Int.toNat n2)), none, none, some (.slice (cutAddr A2 c2 (0 : Int)) ((cut newslice1 (0 : Int) n2).length) (c2 - Int.toNat (0 : Int)))] [7, 38, 41, 44] [pl 7 (.slice A2 (Int.toNat (w64 r1.2)) c2), pl 38 (.int .i64 n2), pl 41 (.slice (cutAddr A2 c2 n2) ((cut newslice1 n2 (((Int.toNat (w64 r1.2)) : Nat) : Int)).length) (c2 - Int.toNat n2)), pl 44 (.slice (cutAddr A2 c2 (0 : Int)) ((cut newslice1 (0 : Int) n2).length) (c2 - Int.toNat (0 : Int)))] hF hS Fol (by kernel_rfl) (by kernel_rfl) (by kernel_rfl) (by kernel_rfl) (by kernel_rfl) ?_ (fun a w hF hS => ?_)
          · exact obs_cons (ob_cutn (l := newslice1) (k := .i64) (k' := .i64) Und22 hi3 hs3 ((hS.at_ 0 rfl).len1) (.inl rfl) (.inr ⟨rfl, rfl⟩) (fun _ => hb1) ((hS.at_ 0 rfl).cap1)) <| obs_cons (ob_cutn (l := newslice1) (k := .i64) (k' := .i64) Und22 hi3 hs3 ((hS.at_ 0 rfl).len1) (.inr ⟨rfl, rfl⟩) (.inl rfl) (fun _ => hb2) ((hS.at_ 0 rfl).cap1)) <| obs_nil
          obtain ⟨w, hrun, hS⟩ := run_copyC (P := Try.prog) (t := 22) (t2 := 22) (ty := 3) (ys := (cut newslice1 (0 : Int) n2)) (A2 := (cutAddr A2 c2 (0 : Int))) (n2 := (cut newslice1 (0 : Int) n2).length) (c2 := (c2 - Int.toNat (0 : Int))) (dc := (c2 - Int.toNat n2)) (hS.at_ 0 rfl) (Rd.cutF (hS.at_ 0 rfl).rd hb2 ((hS.at_ 0 rfl).cap1)) rfl Und22 hi3 hs3 hb1
          refine at_do (d := 45) hF (by kernel_rfl) (by kernel_rfl) hrun (fun a hF => ?_)
          have hS : Sep w0 B w (own 3 (.slice A2 (Int.toNat (w64 r1.2)) c2) (vI (putL newslice1 (Int.toNat n2) (List.take ((cut newslice1 n2 (((Int.toNat (w64 r1.2)) : Nat) : Int)).length) (cut newslice1 (0 : Int) n2)))) :: fs) := hS
          refine at_run 2 [] [] [7, 8] [pl 7 (.slice A2 (Int.toNat (w64 r1.2)) c2), pl 8 (.int .i64 (w64 (n2 + (minI (((cut newslice1 n2 (((Int.toNat (w64 r1.2)) : Nat) : Int)).length : Nat) : Int) (((cut newslice1 (0 : Int) n2).length : Nat) : Int)))))] hF hS (by kernel_rfl) (by kernel_rfl) ?_ (fun a w hF hS => ?_)
          · exact obs_nil
          refine at_end [7, 8] [pl 7 (.slice A2 (Int.toNat (w64 r1.2)) c2), pl 8 (.int .i64 (w64 (n2 + (minI (((cut newslice1 n2 (((Int.toNat (w64 r1.2)) : Nat) : Int)).length : Nat) : Int) (((cut newslice1 (0 : Int) n2).length : Nat) : Int)))))] hF rfl (by kernel_rfl) (fun hF => ?_)
          refine np_n ?_
          refine block_n ?_
          refine then_n ?_
          rw [← hφ1] at hm
          exact ⟨((putL newslice1 (Int.toNat n2) (List.take ((cut newslice1 n2 (((Int.toNat (w64 r1.2)) : Nat) : Int)).length) (cut newslice1 (0 : Int) n2))), (w64 (n2 + (minI (((cut newslice1 n2 (((Int.toNat (w64 r1.2)) : Nat) : Int)).length : Nat) : Int) (((cut newslice1 (0 : Int) n2).length : Nat) : Int))))), ⟨hF.weak [7, 8] (by kernel_rfl), hS⟩, hm⟩
        · refine reg [] [] [7, 8, 37] [pl 7 (.slice A2 (Int.toNat (w64 r1.2)) c2), pl 8 (.int .i64 n2), pl 37 (.bool (decide (n2 < (((Int.toNat (w64 r1.2)) : Nat) : Int))))] hF hS Fol (by kernel_rfl) (by kernel_rfl) (by kernel_rfl) ?_ (fun a w hF hS => ?_)
          · exact obs_nil
          refine cond_ev (t := 37) (b := decide (n2 < (((Int.toNat (w64 r1.2)) : Nat) : Int))) hF (by kernel_rfl) (fun hb => ?_) (fun hb => ?_)
          · replace hm := if_t hm hb
            refine wpIn_skip ?_
            refine then_n ?_
            exact ⟨hF.weak [7, 8] (by kernel_rfl), hS, hm⟩
          · replace hm := if_f hm hb
            refine wpIn_exit ?_
            refine then_e (then_e (block_e (then_n ?_)))
            rw [← hφ1] at hm
            replace hm := done_b hm
            unfold slices_Repeat_K1 at hm
            try dsimp only at hm
            have hm : (slices_Repeat_J3 newslice1).bind some = some r := hm
            exact ⟨newslice1, hF.weak [7] (by kernel_rfl), hS, hm⟩
    · refine reg [] [] [0, 6, 26] [pl 0 (.slice A1 x1.length c1), pl 6 (.int .u64 r1.2), pl 26 (.bool ((decide ((0 : Int) < r1.1)) || (decide ((9223372036854775807 : Int) < r1.2))))] hF hS Fol (by kernel_rfl) (by kernel_rfl) (by kernel_rfl) ?_ (fun a w hF hS => ?_)
      · exact obs_nil
      refine cond_ev (t := 26) (b := (decide ((0 : Int) < r1.1)) || (decide ((9223372036854775807 : Int) < r1.2))) hF (by kernel_rfl) (fun hb => ?_) (fun hb => ?_)
      · replace hm := if_t hm hb
        simp at hm
      · replace hm := if_f hm hb
        refine wpIn_skip ?_
        refine then_n ?_
        exact ⟨hF.weak [0, 6] (by kernel_rfl), hS, hm⟩
  · refine reg [] [] [0, 1, 10] [pl 0 (.slice A1 x1.length c1), pl 1 (.int .i64 count1), pl 10 (.bool (decide (count1 < 0)))] hF hS Fol (by kernel_rfl) (by kernel_rfl) (by kernel_rfl) ?_ (fun a w hF hS => ?_)
    · exact obs_nil
    refine cond_ev (t := 10) (b := decide (count1 < 0)) hF (by kernel_rfl) (fun hb => ?_) (fun hb => ?_)
    · replace hm := if_t hm hb
      simp at hm
    · replace hm := if_f hm hb
      refine wpIn_skip ?_
      refine then_n ?_
      exact ⟨hF.weak [0, 1] (by kernel_rfl), hS, hm⟩

noncomputable def nono_newPicture_J9  (z1 : Int) : Option (St Int (Fl Unit (Fl Int (List (List Int))))) :=
  some (.next (w64 (z1 + 1)))

noncomputable def nono_newPicture_J8  (r1 : (List (List Int))) (z1 : Int) : Option (St Int (Fl Unit (Fl Int (List (List Int))))) :=
  asrt (0 ≤ z1 ∧ z1 < (r1.length : Int)) <| (slices_ContainsFunc_m (geti2 r1 z1)).bind fun r2 => if r2 then (some (.done (.ret (.go 4)))) else ((nono_newPicture_J9 z1))

noncomputable def nono_newPicture_L1  (r1 : (List (List Int))) : Int → Option (St Int (Fl Unit (Fl Int (List (List Int))))) :=
  fun (x : Int) => match x with | z1 => if (decide (z1 < (r1.length : Int))) then ((nono_newPicture_J8 r1 z1)) else (some (.done (.go ())))

noncomputable def nono_newPicture_J12  (z2 : Int) (p3 : List (List Int)) : Option (St (List (List Int) × Int) (List (List Int))) :=
  some (.next (p3, (w64 (z2 + 1))))

noncomputable def nono_newPicture_J11  (columns1 : List (List Int)) (p1 : List (List Int)) (z2 : Int) : Option (St (List (List Int) × Int) (List (List Int))) :=
  (slices_Repeat_m ([(-1)] : List Int) (columns1.length : Int)).bind fun r3 => asrt (((p1.length : Int) : Int) + 1 ≤ bigR) <| (nono_newPicture_J12 z2) (p1 ++ [r3])

noncomputable def nono_newPicture_L2  (rows1 : List (List Int)) (columns1 : List (List Int)) : (List (List Int) × Int) → Option (St (List (List Int) × Int) (List (List Int))) :=
  fun (x : (List (List Int) × Int)) => match x with | (p1, z2) => if (decide (z2 < (rows1.length : Int))) then ((nono_newPicture_J11 columns1 p1 z2)) else (some (.done p1))

noncomputable def nono_newPicture_J10  (p2 : List (List Int)) : Option (Fl Int (List (List Int))) :=
  some (.ret p2)

noncomputable def nono_newPicture_K2  : (List (List Int)) → Option (Fl Int (List (List Int))) :=
  fun (x : (List (List Int))) => match x with | p2 => nono_newPicture_J10 p2

noncomputable def nono_newPicture_J7  (rows1 : List (List Int)) (columns1 : List (List Int)) : Option (Fl Int (List (List Int))) :=
  (loop (nono_newPicture_L2 rows1 columns1) (([] : List (List Int)), 0)).bind nono_newPicture_K2

noncomputable def nono_newPicture_K1  (rows1 : List (List Int)) (columns1 : List (List Int)) : (Fl Unit (Fl Int (List (List Int)))) → Option (Fl Int (List (List Int))) :=
  fun (x : (Fl Unit (Fl Int (List (List Int))))) => match x with | .go _ => (nono_newPicture_J7 rows1 columns1) | .ret x => some x

noncomputable def nono_newPicture_J1  (rows1 : List (List Int)) (columns1 : List (List Int)) : Option (Fl Int (List (List Int))) :=
  (slices_Concat_m rows1 columns1).bind fun r1 => (loop (nono_newPicture_L1 r1) 0).bind (nono_newPicture_K1 rows1 columns1)

noncomputable def nono_newPicture_J5  (rows1 : List (List Int)) (columns1 : List (List Int)) : Option (Fl Int (List (List Int))) :=
  (nono_newPicture_J1 rows1 columns1)

noncomputable def nono_newPicture_J4  (rows1 : List (List Int)) (columns1 : List (List Int)) : Option (Fl Int (List (List Int))) :=
  asrt (0 ≤ (1 : Int) ∧ (1 : Int) < 2) <| if ((decide ((columns1.length : Int) < 1)) || (decide ((6 : Int) < (columns1.length : Int)))) then (some (.go 2)) else ((nono_newPicture_J5 rows1 columns1))

noncomputable def nono_newPicture_J3  (rows1 : List (List Int)) (columns1 : List (List Int)) : Option (Fl Int (List (List Int))) :=
  (nono_newPicture_J4 rows1 columns1)

noncomputable def nono_newPicture_J2  (rows1 : List (List Int)) (columns1 : List (List Int)) : Option (Fl Int (List (List Int))) :=
  asrt (0 ≤ (0 : Int) ∧ (0 : Int) < 2) <| if ((decide ((rows1.length : Int) < 1)) || (decide ((6 : Int) < (rows1.length : Int)))) then (some (.go 2)) else ((nono_newPicture_J3 rows1 columns1))

noncomputable def nono_newPicture_m  (rows1 : List (List Int)) (columns1 : List (List Int)) : Option (Fl Int (List (List Int))) :=
  (nono_newPicture_J2 rows1 columns1)

set_option maxRecDepth 100000 in
set_option maxHeartbeats 4000000 in
theorem nono_newPicture_w  {A1 : Option Addr} {c1 : Nat} {n1 : Nat} {hd1 : List Hd} {rows1 : List (List Int)} {A2 : Option Addr} {c2 : Nat} {n2 : Nat} {hd2 : List Hd} {columns1 : List (List Int)} {r : (Fl Int (List (List Int)))} {w0 w : World} {B : Nat} {fs : List HP} (hm : nono_newPicture_m rows1 columns1 = some r) (hS : Sep w0 B w (fs)) (hr_rows1 : RdRowsF w0 B fs A1 hd1 rows1) (_hc_rows1 : rows1.length ≤ c1) (_hn_rows1 : n1 = rows1.length) (hr_columns1 : RdRowsF w0 B fs A2 hd2 columns1) (_hc_columns1 : columns1.length ≤ c2) (_hn_columns1 : n2 = columns1.length) :
    Calls Try.prog 58 #[.slice A1 n1 c1, .slice A2 n2 c2] w fun e w' => ∃ v, e = .returned v ∧ Fl.post r (fun r => v = .tuple #[.pointer none, .int .i64 r] ∧ Sep w0 B w' (fs)) (fun r => ∃ (g6 : Nat) (A10 : Option Addr) (c10 : Nat) (hd6 : List Hd), v = .tuple #[.pointer (some ⟨g6, 0, none⟩), .int .i64 0] ∧ Sep w0 B w' (blk g6 109 #[.slice A1 n1 c1, .slice A2 n2 c2, .slice A10 r.length c10] :: rows 22 3 (.slice A10 r.length c10) hd6 r :: fs)) := by
  obtain ⟨i3, hi3, hz3, hs3, hb3⟩ := info_parts Info3
  obtain ⟨i22, hi22, hz22, hs22, hb22⟩ := info_parts Info22
  obtain ⟨i36, hi36, hz36, hs36, hb36⟩ := info_parts Info36
  obtain rfl := _hn_rows1
  obtain rfl := _hn_columns1
  unfold nono_newPicture_m at hm
  replace hm := start_b hm
  refine enter (l := [.slice A1 rows1.length c1, .slice A2 columns1.length c2]) (n := 63) Try.func58 rfl rfl (by simp) (fun a hF => ?_)
  refine reg [] [] [0, 1] [pl 0 (.slice A1 rows1.length c1), pl 1 (.slice A2 columns1.length c2)] hF hS Fol (by kernel_rfl) (by kernel_rfl) (by kernel_rfl) ?_ (fun a w hF hS => ?_)
  · exact obs_nil
  refine seq_cut (fun a w => Fr 63 [pl 0 (.slice A1 rows1.length c1), pl 1 (.slice A2 columns1.length c2)] a ∧ Sep w0 B w (fs) ∧ ((nono_newPicture_J1 rows1 columns1)).bind some = some r) ?_ ?_
  · rintro a w ⟨hF, hS, hm⟩
    unfold nono_newPicture_J1 at hm
    refine seq_cut (fun a w => Fr 63 [pl 0 (.slice A1 rows1.length c1), pl 1 (.slice A2 columns1.length c2)] a ∧ Sep w0 B w (fs) ∧ ((nono_newPicture_J7 rows1 columns1)).bind some = some r) ?_ ?_
    · rintro a w ⟨hF, hS, hm⟩
      unfold nono_newPicture_J7 at hm
      refine seqR ?_
      refine at_run 3 [] [] [0, 1, 42] [pl 0 (.slice A1 rows1.length c1), pl 1 (.slice A2 columns1.length c2), pl 42 (.agg #[.slice A1 rows1.length c1, .slice A2 columns1.length c2, .slice none 0 0])] hF hS (by kernel_rfl) (by kernel_rfl) ?_ (fun a w hF hS => ?_)
      · exact obs_nil
      refine at_do (d := 43) (s := vS (Instr.box 109 (.agg #[.slice A1 rows1.length c1, .slice A2 columns1.length c2, .slice none 0 0]))) (v := .pointer (some ⟨w.heap.size, 0, none⟩)) (w' := w.alloc (.cells #[.slice A1 rows1.length c1, .slice A2 columns1.length c2, .slice none 0 0] 109)) hF (by kernel_rfl) (by kernel_rfl) (by kernel_rfl) (fun a hF => ?_)
      have hS : Sep w0 B (w.alloc (.cells #[.slice A1 rows1.length c1, .slice A2 columns1.length c2, .slice none 0 0] 109)) (blk w.heap.size 109 #[.slice A1 rows1.length c1, .slice A2 columns1.length c2, .slice none 0 0] :: (fs)) := hS.box 109 #[.slice A1 rows1.length c1, .slice A2 columns1.length c2, .slice none 0 0]
      generalize w.heap.size = g3 at hF hS
      generalize w.alloc (.cells #[.slice A1 rows1.length c1, .slice A2 columns1.length c2, .slice none 0 0] 109) = w at hS ⊢
      refine at_run 1 [] [] [0, 1, 10] [pl 0 (.slice A1 rows1.length c1), pl 1 (.slice A2 columns1.length c2), pl 10 (.pointer (some ⟨g3, 0, none⟩))] hF hS (by kernel_rfl) (by kernel_rfl) ?_ (fun a w hF hS => ?_)
      · exact obs_nil
      refine at_end [0, 1, 10] [pl 0 (.slice A1 rows1.length c1), pl 1 (.slice A2 columns1.length c2), pl 10 (.pointer (some ⟨g3, 0, none⟩))] hF rfl (by kernel_rfl) (fun hF => ?_)
      refine then_n ?_
      refine seq_cut (fun a w => ∃ (p2 : List (List Int)) (A5 : Option Addr) (c5 : Nat) (hd4 : List Hd), Fr 63 [pl 10 (.pointer (some ⟨g3, 0, none⟩))] a ∧ Sep w0 B w (blk g3 109 #[.slice A1 rows1.length c1, .slice A2 columns1.length c2, .slice A5 p2.length c5] :: rows 22 3 (.slice A5 p2.length c5) hd4 p2 :: fs) ∧ (nono_newPicture_J10 p2).bind some = some r) ?_ ?_
      · rintro a w ⟨p2, A5, c5, hd4, hF, hS, hm⟩
        unfold nono_newPicture_J10 at hm
        refine reg [] [] [4, 5] [pl 4 (.pointer (some ⟨g3, 0, none⟩)), pl 5 (.int .i64 0)] hF hS Fol (by kernel_rfl) (by kernel_rfl) (by kernel_rfl) ?_ (fun a w hF hS => ?_)
        · exact obs_nil
        refine wpIn_ret ?_
        have hm : some (.ret p2) = some r := hm
        obtain rfl := Option.some.inj hm
        exact retV (rs := [.tmp 4, .tmp 5]) (vs := [.pointer (some ⟨g3, 0, none⟩), .int .i64 0]) hF rfl (rv_t (by kernel_rfl) <| rv_t (by kernel_rfl) <| rv_nil) rfl ⟨_, rfl, g3, A5, c5, hd4, rfl, hS⟩
      · refine reg [] [] [1, 10, 45, 46] [pl 1 (.slice A2 columns1.length c2), pl 10 (.pointer (some ⟨g3, 0, none⟩)), pl 45 (.int .i64 (rows1.length : Int)), pl 46 (.int .i64 0)] hF hS Fol (by kernel_rfl) (by kernel_rfl) (by kernel_rfl) ?_ (fun a w hF hS => ?_)
        · exact obs_nil
        refine wpIn_block ?_
        have hS := hS.nilRows0 22 3
        have hS : Sep w0 B w (rows 22 3 (.slice none 0 0) ([]) ([] : List (List Int)) :: blk g3 109 #[.slice A1 rows1.length c1, .slice A2 columns1.length c2, .slice none 0 0] :: fs) := hS
        have hl1 := (hS.at_ 0 rfl).lenR
        have hS := (hS.at_ 0 rfl).reNR hl1
        have hS := (hS.at_ 1 rfl).reBlk (congrArg (fun k9 => (#[.slice A1 rows1.length c1, .slice A2 columns1.length c2, .slice none k9 0] : Array Value)) hl1)
        have hS : Sep w0 B w (rows 22 3 (.slice none (([] : List (List Int)).length) 0) ([]) ([] : List (List Int)) :: blk g3 109 #[.slice A1 rows1.length c1, .slice A2 columns1.length c2, .slice none (([] : List (List Int)).length) 0] :: fs) := hS
        have hS := hS.pickN 2 [1, 0] (by decide)
        refine wp_loop_model (S := (List (List Int) × Int)) (R := (List (List Int))) (nono_newPicture_L2 rows1 columns1) (fun x => (nono_newPicture_K2 x).bind some) r (fun (x : (List (List Int) × Int)) a w => ∃ (A4 : Option Addr) (c4 : Nat) (hd3 : List Hd), Fr 63 [pl 1 (.slice A2 columns1.length c2), pl 10 (.pointer (some ⟨g3, 0, none⟩)), pl 45 (.int .i64 (rows1.length : Int)), pl 46 (.int .i64 x.2)] a ∧ Sep w0 B w (blk g3 109 #[.slice A1 rows1.length c1, .slice A2 columns1.length c2, .slice A4 x.1.length c4] :: rows 22 3 (.slice A4 x.1.length c4) hd3 x.1 :: fs)) (assoc_b hm) ⟨none, 0, ([]), hF.weak [1, 10, 45, 46] (by kernel_rfl), hS⟩ ?_
        clear hF hS hm
        rintro nn2 ⟨p1, z2⟩ a w ⟨A4, c4, hd3, hF, hS⟩ hm
        generalize hφ2 : stK (nono_newPicture_L2 rows1 columns1) nn2 (fun x => (nono_newPicture_K2 x).bind some) = φ2 at hm
        unfold nono_newPicture_L2 at hm
        dsimp only at hF hS hm
        refine reg [] [] [1, 10, 45, 46, 47] [pl 1 (.slice A2 columns1.length c2), pl 10 (.pointer (some ⟨g3, 0, none⟩)), pl 45 (.int .i64 (rows1.length : Int)), pl 46 (.int .i64 z2), pl 47 (.bool (decide (z2 < (rows1.length : Int))))] hF hS Fol (by kernel_rfl) (by kernel_rfl) (by kernel_rfl) ?_ (fun a w hF hS => ?_)
        · exact obs_nil
        refine seq_cut (fun a w => Fr 63 [pl 1 (.slice A2 columns1.length c2), pl 10 (.pointer (some ⟨g3, 0, none⟩)), pl 45 (.int .i64 (rows1.length : Int)), pl 46 (.int .i64 z2)] a ∧ Sep w0 B w (blk g3 109 #[.slice A1 rows1.length c1, .slice A2 columns1.length c2, .slice A4 p1.length c4] :: rows 22 3 (.slice A4 p1.length c4) hd3 p1 :: fs) ∧ ((nono_newPicture_J11 columns1 p1 z2)).bind φ2 = some r) ?_ ?_
        · rintro a w ⟨hF, hS, hm⟩
          unfold nono_newPicture_J11 at hm
          refine seq_cut (fun a w => ∃ (p3 : List (List Int)) (A9 : Option Addr) (c9 : Nat) (hd5 : List Hd), Fr 63 [pl 1 (.slice A2 columns1.length c2), pl 10 (.pointer (some ⟨g3, 0, none⟩)), pl 45 (.int .i64 (rows1.length : Int)), pl 46 (.int .i64 z2)] a ∧ Sep w0 B w (blk g3 109 #[.slice A1 rows1.length c1, .slice A2 columns1.length c2, .slice A9 p3.length c9] :: rows 22 3 (.slice A9 p3.length c9) hd5 p3 :: fs) ∧ ((nono_newPicture_J12 z2) p3).bind φ2 = some r) ?_ ?_
          · rintro a w ⟨p3, A9, c9, hd5, hF, hS, hm⟩
            unfold nono_newPicture_J12 at hm
            refine reg1 [] [] [1, 10, 45, 46] [pl 1 (.slice A2 columns1.length c2), pl 10 (.pointer (some ⟨g3, 0, none⟩)), pl 45 (.int .i64 (rows1.length : Int)), pl 46 (.int .i64 (w64 (z2 + 1)))] hF hS Fol (by kernel_rfl) (by kernel_rfl) (by kernel_rfl) ?_ (fun a w hF hS => ?_)
            · exact obs_nil
            refine then_n ?_
            rw [← hφ2] at hm
            exact ⟨(p3, (w64 (z2 + 1))), ⟨A9, c9, hd5, hF.weak [1, 10, 45, 46] (by kernel_rfl), hS⟩, hm⟩
          · refine wpIn_block ?_
            obtain ⟨r3, hr3, hm⟩ := call_b hm
            obtain ⟨hp4, hm⟩ := asrt_b hm
            refine regMix5 [0, 1, 2, 3, 4, 6, 7] [10, 13] 7 #[true, true, true, true, true, false, true, true, false, false, false, false, false, false] [⟨false, [], vS (Instr.loadAt 36 (.pointer (some ⟨g3, 2, none⟩))), .slice A4 p1.length c4⟩] [none, none, none, none, some (.slice A4 p1.length c4), none, none] [1, 10, 45, 46, 48, 52, 55] [pl 1 (.slice A2 columns1.length c2), pl 10 (.pointer (some ⟨g3, 0, none⟩)), pl 45 (.int .i64 (rows1.length : Int)), pl 46 (.int .i64 z2), pl 48 (.pointer (some ⟨g3, 0, none⟩)), pl 52 (.slice A4 p1.length c4), pl 55 (.int .i64 (columns1.length : Int))] hF hS Fol (by kernel_rfl) (by kernel_rfl) (by kernel_rfl) (by kernel_rfl) ?_ (fun a w hF hS => ?_)
            · exact obs_cons (ob_load Agg36 (fun _ _ hS => (hS.at_ 0 rfl).cell rfl)) <| obs_nil
            refine any_step [5] (by kernel_rfl) rfl ?_
            refine (all_cons ?_ all_nil)
            · refine any_op (listed' := #[true, true, true, true, true, true, true, true, false, false, false, false, false, false]) (by kernel_rfl) (by kernel_rfl) ?_
              refine at_do (d := 53) (s := vS (Instr.buildSlice 22 1 #[(0, .int .i64 (-1))])) (v := .slice (some ⟨w.heap.size, 0, none⟩) 1 1) (w' := w.alloc (.cells #[.int .i64 (-1)] 3)) hF (by kernel_rfl) (by kernel_rfl) (by kernel_rfl) (fun a hF => ?_)
              have hS : Sep w0 B (w.alloc (.cells #[.int .i64 (-1)] 3)) (own 3 (.slice (some (⟨w.heap.size, 0, none⟩ : Addr)) 1 1) (vI ([(-1)] : List Int)) :: (blk g3 109 #[.slice A1 rows1.length c1, .slice A2 columns1.length c2, .slice A4 p1.length c4] :: rows 22 3 (.slice A4 p1.length c4) hd3 p1 :: fs)) := hS.lit 3 #[.int .i64 (-1)] 1 rfl (by omega)
              generalize (some (⟨w.heap.size, 0, none⟩ : Addr)) = g4 at hF hS
              generalize w.alloc (.cells #[.int .i64 (-1)] 3) = w at hS ⊢
              refine any_fin rfl (hS.pickN 3 [1, 2] (by decide)) ?_
              refine any_step [8] (by kernel_rfl) rfl ?_
              refine (all_cons ?_ all_nil)
              · refine any_op (listed' := #[true, true, true, true, true, true, true, true, true, false, false, false, false, false]) (by kernel_rfl) (by kernel_rfl) ?_
                refine at_call (f := 113) (args := #[.slice g4 1 1, .int .i64 (columns1.length : Int)]) (d := 56) hF (by kernel_rfl) (by kernel_rfl) Try.func113 (by kernel_rfl) rfl (slices_Repeat_w hr3 hS (fun _ hS => (hS.at_ 0 rfl).rd) ((hS.at_ 0 rfl).cap1) ((hS.at_ 0 rfl).len1)) (fun v a w hR hF => ?_)
                clear hS
                obtain ⟨A8, c8, rfl, hS⟩ := hR
                have hS : Sep w0 B w (own 3 (.slice A8 r3.length c8) (vI r3) :: own 3 (.slice g4 1 1) (vI ([(-1)] : List Int)) :: blk g3 109 #[.slice A1 rows1.length c1, .slice A2 columns1.length c2, .slice A4 p1.length c4] :: rows 22 3 (.slice A4 p1.length c4) hd3 p1 :: fs) := hS
                refine any_fin rfl (hS.pickN 4 [2, 3] (by decide)) ?_
                refine any_step [9] (by kernel_rfl) rfl ?_
                refine (all_cons ?_ all_nil)
                · refine any_op (listed' := #[true, true, true, true, true, true, true, true, true, true, false, false, false, false]) (by kernel_rfl) (by kernel_rfl) ?_
                  refine at_do (d := 57) (s := vS (Instr.buildSlice 36 1 #[(0, .slice A8 r3.length c8)])) (v := .slice (some ⟨w.heap.size, 0, none⟩) 1 1) (w' := w.alloc (.cells #[.slice A8 r3.length c8] 22)) hF (by kernel_rfl) (by kernel_rfl) (by kernel_rfl) (fun a hF => ?_)
                  have hS : Sep w0 B (w.alloc (.cells #[.slice A8 r3.length c8] 22)) (own 22 (.slice (some (⟨w.heap.size, 0, none⟩ : Addr)) 1 1) [.slice A8 r3.length c8] :: (own 3 (.slice A8 r3.length c8) (vI r3) :: own 3 (.slice g4 1 1) (vI ([(-1)] : List Int)) :: blk g3 109 #[.slice A1 rows1.length c1, .slice A2 columns1.length c2, .slice A4 p1.length c4] :: rows 22 3 (.slice A4 p1.length c4) hd3 p1 :: fs)) := hS.lit 22 #[.slice A8 r3.length c8] 1 rfl (by omega)
                  generalize (some (⟨w.heap.size, 0, none⟩ : Addr)) = g5 at hF hS
                  generalize w.alloc (.cells #[.slice A8 r3.length c8] 22) = w at hS ⊢
                  refine any_fin rfl (hS.pickN 5 [3, 4] (by decide)) ?_
                  refine any_step [10] (by kernel_rfl) rfl ?_
                  refine (all_cons ?_ all_nil)
                  · refine any_op (listed' := #[true, true, true, true, true, true, true, true, true, true, true, false, false, false]) (by kernel_rfl) (by kernel_rfl) ?_
                    have hS := hS.pickN 5 [1, 0, 2, 3, 4] (by decide)
                    have hS : Sep w0 B w (own 3 (.slice A8 r3.length c8) (vI r3) :: own 22 (.slice g5 1 1) [.slice A8 r3.length c8] :: own 3 (.slice g4 1 1) (vI ([(-1)] : List Int)) :: blk g3 109 #[.slice A1 rows1.length c1, .slice A2 columns1.length c2, .slice A4 p1.length c4] :: rows 22 3 (.slice A4 p1.length c4) hd3 p1 :: fs) := hS
                    obtain ⟨A7, c7, w, hrun, hS⟩ := run_appRow (P := Try.prog) (t := 36) (A2 := g5) (c2 := 1) (hS.at2 3 rfl) (hS.at_ 1 rfl).rd 36 Und36 hi22 hz22 hs22 hb22 hp4
                    have hS : Sep w0 B w (own 22 (.slice g5 1 1) [.slice A8 r3.length c8] :: own 3 (.slice g4 1 1) (vI ([(-1)] : List Int)) :: blk g3 109 #[.slice A1 rows1.length c1, .slice A2 columns1.length c2, .slice A4 p1.length c4] :: rows 22 3 (.slice A7 ((p1 ++ [r3]).length) c7) (hd3 ++ [(A8, c8)]) (p1 ++ [r3]) :: fs) := hS
                    refine at_do (d := 58) hF (by kernel_rfl) (by kernel_rfl) hrun (fun a hF => ?_)
                    refine any_finE rfl (by decide) ?_
                    refine any_step [11] (by kernel_rfl) rfl ?_
                    refine (all_cons ?_ all_nil)
                    · refine any_op (listed' := #[true, true, true, true, true, true, true, true, true, true, true, true, false, false]) (by kernel_rfl) (by kernel_rfl) ?_
                      refine at_runW 1 [] [] [1, 10, 45, 46, 58, 59] [pl 1 (.slice A2 columns1.length c2), pl 10 (.pointer (some ⟨g3, 0, none⟩)), pl 45 (.int .i64 (rows1.length : Int)), pl 46 (.int .i64 z2), pl 58 (.slice A7 ((p1 ++ [r3]).length) c7), pl 59 (.pointer (some ⟨g3, 0, none⟩))] hF hS (by kernel_rfl) (by kernel_rfl) ?_ (fun a hF => ?_)
                      · exact obs_nil
                      refine any_finI rfl (fun h => h) ?_
                      refine any_step [12] (by kernel_rfl) rfl ?_
                      refine (all_cons ?_ all_nil)
                      · refine any_op (listed' := #[true, true, true, true, true, true, true, true, true, true, true, true, true, false]) (by kernel_rfl) (by kernel_rfl) ?_
                        refine at_runW 1 [] [] [1, 10, 45, 46, 58, 60] [pl 1 (.slice A2 columns1.length c2), pl 10 (.pointer (some ⟨g3, 0, none⟩)), pl 45 (.int .i64 (rows1.length : Int)), pl 46 (.int .i64 z2), pl 58 (.slice A7 ((p1 ++ [r3]).length) c7), pl 60 (.pointer (some ⟨g3, 2, none⟩))] hF hS (by kernel_rfl) (by kernel_rfl) ?_ (fun a hF => ?_)
                        · exact obs_nil
                        refine any_finI rfl (fun h => h) ?_
                        refine any_step [13] (by kernel_rfl) rfl ?_
                        refine (all_cons ?_ all_nil)
                        · refine any_op (listed' := #[true, true, true, true, true, true, true, true, true, true, true, true, true, true]) (by kernel_rfl) (by kernel_rfl) ?_
                          obtain ⟨w, hrun, hS⟩ := run_put (P := Try.prog) (t := 36) (u := .slice A7 ((p1 ++ [r3]).length) c7) (i := 2) (hS.at_ 2 rfl) hi36 hs36 rfl (Nat.lt_of_lt_of_eq (Nat.lt_of_succ_le (Nat.le_of_ble_eq_true (by kernel_rfl))) rfl)
                          refine at_skip hF (by kernel_rfl) hrun ?_
                          have hS : Sep w0 B w (own 22 (.slice g5 1 1) [.slice A8 r3.length c8] :: own 3 (.slice g4 1 1) (vI ([(-1)] : List Int)) :: blk g3 109 #[.slice A1 rows1.length c1, .slice A2 columns1.length c2, .slice A7 ((p1 ++ [r3]).length) c7] :: rows 22 3 (.slice A7 ((p1 ++ [r3]).length) c7) (hd3 ++ [(A8, c8)]) (p1 ++ [r3]) :: fs) := hS
                          refine any_finE rfl (by decide) ?_
                          refine any_end (by kernel_rfl) ?_
                          refine np_n ?_
                          refine block_n ?_
                          refine then_n ?_
                          have hS := hS.pickN 4 [2, 3] (by decide)
                          exact ⟨(p1 ++ [r3]), A7, c7, (hd3 ++ [(A8, c8)]), hF.weak [1, 10, 45, 46] (by kernel_rfl), hS, hm⟩
        · refine cond_ev (t := 47) (b := decide (z2 < (rows1.length : Int))) hF (by kernel_rfl) (fun hb => ?_) (fun hb => ?_)
          · replace hm := if_t hm hb
            refine wpIn_skip ?_
            refine then_n ?_
            exact ⟨hF.weak [1, 10, 45, 46] (by kernel_rfl), hS, hm⟩
          · replace hm := if_f hm hb
            refine wpIn_exit ?_
            refine then_e (then_e (block_e (then_n ?_)))
            rw [← hφ2] at hm
            replace hm := done_b hm
            unfold nono_newPicture_K2 at hm
            try dsimp only at hm
            have hm : (nono_newPicture_J10 p1).bind some = some r := hm
            exact ⟨p1, A4, c4, hd3, hF.weak [10] (by kernel_rfl), hS, hm⟩
    · refine seqR ?_
      obtain ⟨r1, hr1, hm⟩ := call_b hm
      refine at_run 2 [] [] [0, 1, 28, 29] [pl 0 (.slice A1 rows1.length c1), pl 1 (.slice A2 columns1.length c2), pl 28 (.slice A1 rows1.length c1), pl 29 (.slice A2 columns1.length c2)] hF hS (by kernel_rfl) (by kernel_rfl) ?_ (fun a w hF hS => ?_)
      · exact obs_nil
      refine at_do (d := 30) (s := vS (Instr.buildSlice 154 2 #[(0, .slice A1 rows1.length c1), (1, .slice A2 columns1.length c2)])) (v := .slice (some ⟨w.heap.size, 0, none⟩) 2 2) (w' := w.alloc (.cells #[.slice A1 rows1.length c1, .slice A2 columns1.length c2] 36)) hF (by kernel_rfl) (by kernel_rfl) (by kernel_rfl) (fun a hF => ?_)
      have hS : Sep w0 B (w.alloc (.cells #[.slice A1 rows1.length c1, .slice A2 columns1.length c2] 36)) (own 36 (.slice (some (⟨w.heap.size, 0, none⟩ : Addr)) 2 2) (List.map (fun v => v) ([.slice A1 rows1.length c1, .slice A2 columns1.length c2] : List Value)) :: (fs)) := hS.lit 36 #[.slice A1 rows1.length c1, .slice A2 columns1.length c2] 2 rfl (by omega)
      generalize (some (⟨w.heap.size, 0, none⟩ : Addr)) = g2 at hF hS
      generalize w.alloc (.cells #[.slice A1 rows1.length c1, .slice A2 columns1.length c2] 36) = w at hS ⊢
      refine at_call (f := 111) (args := #[.slice g2 2 2]) (d := 31) hF (by kernel_rfl) (by kernel_rfl) Try.func111 (by kernel_rfl) rfl (slices_Concat_w hr1 hS (fun _ hS => (hr_rows1 _ (hS.dropN 0))) _hc_rows1 rfl (fun _ hS => (hr_columns1 _ (hS.dropN 0))) _hc_columns1 rfl) (fun v a w hR hF => ?_)
      clear hS
      obtain ⟨A3, c3, rfl, hb1, hS⟩ := hR
      have hS : Sep w0 B w (own 36 (.slice g2 2 2) (List.map (fun v => v) ([.slice A1 rows1.length c1, .slice A2 columns1.length c2] : List Value)) :: hdrs 22 A3 r1.length c3 ((([] : List Hd) ++ hd1) ++ hd2) r1 :: fs) := hS
      refine at_run 2 [] [] [0, 1, 31, 32, 33] [pl 0 (.slice A1 rows1.length c1), pl 1 (.slice A2 columns1.length c2), pl 31 (.slice A3 r1.length c3), pl 32 (.int .i64 (r1.length : Int)), pl 33 (.int .i64 0)] hF hS (by kernel_rfl) (by kernel_rfl) ?_ (fun a w hF hS => ?_)
      · exact obs_nil
      refine at_end [0, 1, 31, 32, 33] [pl 0 (.slice A1 rows1.length c1), pl 1 (.slice A2 columns1.length c2), pl 31 (.slice A3 r1.length c3), pl 32 (.int .i64 (r1.length : Int)), pl 33 (.int .i64 0)] hF rfl (by kernel_rfl) (fun hF => ?_)
      refine then_n ?_
      refine wpIn_block ?_
      have hS := hS.pickN 2 [1] (by decide)
      refine wp_loop_model (S := Int) (R := (Fl Unit (Fl Int (List (List Int))))) (nono_newPicture_L1 r1) (fun x => ((nono_newPicture_K1 rows1 columns1) x).bind some) r (fun (x : Int) a w => Fr 63 [pl 0 (.slice A1 rows1.length c1), pl 1 (.slice A2 columns1.length c2), pl 31 (.slice A3 r1.length c3), pl 32 (.int .i64 (r1.length : Int)), pl 33 (.int .i64 x)] a ∧ Sep w0 B w (hdrs 22 A3 r1.length c3 ((([] : List Hd) ++ hd1) ++ hd2) r1 :: fs)) (assoc_b hm) ⟨hF.weak [0, 1, 31, 32, 33] (by kernel_rfl), hS⟩ ?_
      clear hF hS hm
      rintro nn1 z1 a w ⟨hF, hS⟩ hm
      generalize hφ1 : stK (nono_newPicture_L1 r1) nn1 (fun x => ((nono_newPicture_K1 rows1 columns1) x).bind some) = φ1 at hm
      unfold nono_newPicture_L1 at hm
      dsimp only at hm
      refine reg [] [] [0, 1, 31, 32, 33, 34] [pl 0 (.slice A1 rows1.length c1), pl 1 (.slice A2 columns1.length c2), pl 31 (.slice A3 r1.length c3), pl 32 (.int .i64 (r1.length : Int)), pl 33 (.int .i64 z1), pl 34 (.bool (decide (z1 < (r1.length : Int))))] hF hS Fol (by kernel_rfl) (by kernel_rfl) (by kernel_rfl) ?_ (fun a w hF hS => ?_)
      · exact obs_nil
      refine seq_cut (fun a w => Fr 63 [pl 0 (.slice A1 rows1.length c1), pl 1 (.slice A2 columns1.length c2), pl 31 (.slice A3 r1.length c3), pl 32 (.int .i64 (r1.length : Int)), pl 33 (.int .i64 z1)] a ∧ Sep w0 B w (hdrs 22 A3 r1.length c3 ((([] : List Hd) ++ hd1) ++ hd2) r1 :: fs) ∧ ((nono_newPicture_J8 r1 z1)).bind φ1 = some r) ?_ ?_
      · rintro a w ⟨hF, hS, hm⟩
        unfold nono_newPicture_J8 at hm
        refine seq_cut (fun a w => Fr 63 [pl 0 (.slice A1 rows1.length c1), pl 1 (.slice A2 columns1.length c2), pl 31 (.slice A3 r1.length c3), pl 32 (.int .i64 (r1.length : Int)), pl 33 (.int .i64 z1)] a ∧ Sep w0 B w (hdrs 22 A3 r1.length c3 ((([] : List Hd) ++ hd1) ++ hd2) r1 :: fs) ∧ ((nono_newPicture_J9 z1)).bind φ1 = some r) ?_ ?_
        · rintro a w ⟨hF, hS, hm⟩
          unfold nono_newPicture_J9 at hm
          refine reg1 [] [] [0, 1, 31, 32, 33] [pl 0 (.slice A1 rows1.length c1), pl 1 (.slice A2 columns1.length c2), pl 31 (.slice A3 r1.length c3), pl 32 (.int .i64 (r1.length : Int)), pl 33 (.int .i64 (w64 (z1 + 1)))] hF hS Fol (by kernel_rfl) (by kernel_rfl) (by kernel_rfl) ?_ (fun a w hF hS => ?_)
          · exact obs_nil
          refine then_n ?_
          rw [← hφ1] at hm
          exact ⟨(w64 (z1 + 1)), ⟨hF.weak [0, 1, 31, 32, 33] (by kernel_rfl), hS⟩, hm⟩
        · refine wpIn_block ?_
          obtain ⟨hp3, hm⟩ := asrt_b hm
          have hb2 := rowb (n := r1.length) (hS.at_ 0 rfl).lenH hp3
          refine reg [⟨true, [], vS (Instr.indexAt 36 (.slice A3 r1.length c3) (.int .i64 z1)), .pointer (some (sAddr A3 z1))⟩, ⟨false, [], vS (Instr.loadAt 22 (.pointer (some (sAddr A3 z1)))), .slice (hdA ((([] : List Hd) ++ hd1) ++ hd2) z1) ((geti2 r1 z1).length) (hdC ((([] : List Hd) ++ hd1) ++ hd2) z1)⟩] [some (.pointer (some (sAddr A3 z1))), some (.slice (hdA ((([] : List Hd) ++ hd1) ++ hd2) z1) ((geti2 r1 z1).length) (hdC ((([] : List Hd) ++ hd1) ++ hd2) z1)), none] [0, 1, 9, 31, 32, 33] [pl 0 (.slice A1 rows1.length c1), pl 1 (.slice A2 columns1.length c2), pl 9 (.slice (hdA ((([] : List Hd) ++ hd1) ++ hd2) z1) ((geti2 r1 z1).length) (hdC ((([] : List Hd) ++ hd1) ++ hd2) z1)), pl 31 (.slice A3 r1.length c3), pl 32 (.int .i64 (r1.length : Int)), pl 33 (.int .i64 z1)] hF hS Fol (by kernel_rfl) (by kernel_rfl) (by kernel_rfl) ?_ (fun a w hF hS => ?_)
          · exact obs_cons (ob_ixRn Und36 hi22 hs22 (rdHdr hS 0 rfl (RowsAll.cast hb1 (RowsAll.app (RowsAll.app (show RowsAll _ _ [] [] from trivial) (hr_rows1 _ (hS.dropN 1)).all) (hr_columns1 _ (hS.dropN 1)).all))) (hS.at_ 0 rfl).lenH (fun _ => hp3)) <| obs_cons (ob_getR Agg22 (fun _ hS => ⟨_, (rdHdr hS 0 rfl (RowsAll.cast hb1 (RowsAll.app (RowsAll.app (show RowsAll _ _ [] [] from trivial) (hr_rows1 _ (hS.dropN 1)).all) (hr_columns1 _ (hS.dropN 1)).all)))⟩) (fun _ => hb2)) <| obs_nil
          obtain ⟨r2, hr2, hm⟩ := call_b hm
          refine reg [⟨false, [], callFunc 50 #[.slice (hdA ((([] : List Hd) ++ hd1) ++ hd2) z1) ((geti2 r1 z1).length) (hdC ((([] : List Hd) ++ hd1) ++ hd2) z1), .func (.func 112) #[] #[]], .bool r2⟩] [none, some (.bool r2)] [0, 1, 31, 32, 33, 38] [pl 0 (.slice A1 rows1.length c1), pl 1 (.slice A2 columns1.length c2), pl 31 (.slice A3 r1.length c3), pl 32 (.int .i64 (r1.length : Int)), pl 33 (.int .i64 z1), pl 38 (.bool r2)] hF hS Fol (by kernel_rfl) (by kernel_rfl) (by kernel_rfl) ?_ (fun a w hF hS => ?_)
          · exact obs_cons (ob_call Try.func50 (by kernel_rfl) rfl (fun _ _ hS => slices_ContainsFunc_w hr2 hS (fun _ hS => ((rdHdr hS 0 rfl (RowsAll.cast hb1 (RowsAll.app (RowsAll.app (show RowsAll _ _ [] [] from trivial) (hr_rows1 _ (hS.dropN 1)).all) (hr_columns1 _ (hS.dropN 1)).all))).row _ hb2).1) ((rdHdr hS 0 rfl (RowsAll.cast hb1 (RowsAll.app (RowsAll.app (show RowsAll _ _ [] [] from trivial) (hr_rows1 _ (hS.dropN 1)).all) (hr_columns1 _ (hS.dropN 1)).all))).row _ hb2).2 rfl)) <| obs_nil
          refine cond_ev (t := 38) (b := r2) hF (by kernel_rfl) (fun hb => ?_) (fun hb => ?_)
          · replace hm := if_t hm hb
            refine reg [] [] [4, 5] [pl 4 (.pointer none), pl 5 (.int .i64 4)] hF hS Fol (by kernel_rfl) (by kernel_rfl) (by kernel_rfl) ?_ (fun a w hF hS => ?_)
            · exact obs_nil
            refine wpIn_ret ?_
            refine block_r (then_r (then_r (block_r (then_r ?_))))
            rw [← hφ1] at hm
            replace hm := done_b hm
            unfold nono_newPicture_K1 at hm
            try dsimp only at hm
            have hS := hS.pickN 1 [] (by decide)
            have hm : some (.go 4) = some r := hm
            obtain rfl := Option.some.inj hm
            exact retV (rs := [.tmp 4, .tmp 5]) (vs := [.pointer none, .int .i64 4]) hF rfl (rv_t (by kernel_rfl) <| rv_t (by kernel_rfl) <| rv_nil) rfl ⟨_, rfl, rfl, hS⟩
          · replace hm := if_f hm hb
            refine wpIn_skip ?_
            refine block_n ?_
            refine then_n ?_
            exact ⟨hF.weak [0, 1, 31, 32, 33] (by kernel_rfl), hS, hm⟩
      · refine cond_ev (t := 34) (b := decide (z1 < (r1.length : Int))) hF (by kernel_rfl) (fun hb => ?_) (fun hb => ?_)
        · replace hm := if_t hm hb
          refine wpIn_skip ?_
          refine then_n ?_
          exact ⟨hF.weak [0, 1, 31, 32, 33] (by kernel_rfl), hS, hm⟩
        · replace hm := if_f hm hb
          refine wpIn_exit ?_
          refine then_e (then_e (block_e (then_n ?_)))
          have hS := hS.pickN 1 [] (by decide)
          rw [← hφ1] at hm
          replace hm := done_b hm
          unfold nono_newPicture_K1 at hm
          try dsimp only at hm
          have hm : ((nono_newPicture_J7 rows1 columns1)).bind some = some r := hm
          exact ⟨hF.weak [0, 1] (by kernel_rfl), hS, hm⟩
  · refine seqR ?_
    refine at_run 2 [] [] [0, 1, 11, 12] [pl 0 (.slice A1 rows1.length c1), pl 1 (.slice A2 columns1.length c2), pl 11 (.slice A1 rows1.length c1), pl 12 (.slice A2 columns1.length c2)] hF hS (by kernel_rfl) (by kernel_rfl) ?_ (fun a w hF hS => ?_)
    · exact obs_nil
    refine at_do (d := 13) (s := vS (Instr.buildSlice 154 2 #[(0, .slice A1 rows1.length c1), (1, .slice A2 columns1.length c2)])) (v := .slice (some ⟨w.heap.size, 0, none⟩) 2 2) (w' := w.alloc (.cells #[.slice A1 rows1.length c1, .slice A2 columns1.length c2] 36)) hF (by kernel_rfl) (by kernel_rfl) (by kernel_rfl) (fun a hF => ?_)
    have hS : Sep w0 B (w.alloc (.cells #[.slice A1 rows1.length c1, .slice A2 columns1.length c2] 36)) (own 36 (.slice (some (⟨w.heap.size, 0, none⟩ : Addr)) 2 2) (List.map (fun v => v) ([.slice A1 rows1.length c1, .slice A2 columns1.length c2] : List Value)) :: (fs)) := hS.lit 36 #[.slice A1 rows1.length c1, .slice A2 columns1.length c2] 2 rfl (by omega)
    generalize (some (⟨w.heap.size, 0, none⟩ : Addr)) = g1 at hF hS
    generalize w.alloc (.cells #[.slice A1 rows1.length c1, .slice A2 columns1.length c2] 36) = w at hS ⊢
    refine at_run 2 [] [] [0, 1, 13, 14, 15] [pl 0 (.slice A1 rows1.length c1), pl 1 (.slice A2 columns1.length c2), pl 13 (.slice g1 2 2), pl 14 (.int .i64 2), pl 15 (.int .i64 0)] hF hS (by kernel_rfl) (by kernel_rfl) ?_ (fun a w hF hS => ?_)
    · exact obs_nil
    refine at_end [0, 1, 13, 14, 15] [pl 0 (.slice A1 rows1.length c1), pl 1 (.slice A2 columns1.length c2), pl 13 (.slice g1 2 2), pl 14 (.int .i64 2), pl 15 (.int .i64 0)] hF rfl (by kernel_rfl) (fun hF => ?_)
    refine then_n ?_
    refine wpIn_block ?_
    refine loop_rounds 3 ?_
    refine rounds_s (n := 2) ?_
    refine reg [] [] [0, 1, 13, 14, 15, 16] [pl 0 (.slice A1 rows1.length c1), pl 1 (.slice A2 columns1.length c2), pl 13 (.slice g1 2 2), pl 14 (.int .i64 2), pl 15 (.int .i64 0), pl 16 (.bool (decide ((0 : Int) < 2)))] hF hS Fol (by kernel_rfl) (by kernel_rfl) (by kernel_rfl) ?_ (fun a w hF hS => ?_)
    · exact obs_nil
    refine seq_cut (fun a w => Fr 63 [pl 0 (.slice A1 rows1.length c1), pl 1 (.slice A2 columns1.length c2), pl 13 (.slice g1 2 2), pl 14 (.int .i64 2), pl 15 (.int .i64 0)] a ∧ Sep w0 B w (own 36 (.slice g1 2 2) (List.map (fun v => v) ([.slice A1 rows1.length c1, .slice A2 columns1.length c2] : List Value)) :: fs) ∧ ((nono_newPicture_J2 rows1 columns1)).bind some = some r) ?_ ?_
    · rintro a w ⟨hF, hS, hm⟩
      unfold nono_newPicture_J2 at hm
      refine seq_cut (fun a w => Fr 63 [pl 0 (.slice A1 rows1.length c1), pl 1 (.slice A2 columns1.length c2), pl 13 (.slice g1 2 2), pl 14 (.int .i64 2), pl 15 (.int .i64 0)] a ∧ Sep w0 B w (own 36 (.slice g1 2 2) (List.map (fun v => v) ([.slice A1 rows1.length c1, .slice A2 columns1.length c2] : List Value)) :: fs) ∧ ((nono_newPicture_J3 rows1 columns1)).bind some = some r) ?_ ?_
      · rintro a w ⟨hF, hS, hm⟩
        unfold nono_newPicture_J3 at hm
        refine reg1 [] [] [0, 1, 13, 14, 15] [pl 0 (.slice A1 rows1.length c1), pl 1 (.slice A2 columns1.length c2), pl 13 (.slice g1 2 2), pl 14 (.int .i64 2), pl 15 (.int .i64 1)] hF hS Fol (by kernel_rfl) (by kernel_rfl) (by kernel_rfl) ?_ (fun a w hF hS => ?_)
        · exact obs_nil
        refine then_n ?_
        refine rounds_s (n := 1) ?_
        refine reg [] [] [0, 1, 13, 14, 15, 16] [pl 0 (.slice A1 rows1.length c1), pl 1 (.slice A2 columns1.length c2), pl 13 (.slice g1 2 2), pl 14 (.int .i64 2), pl 15 (.int .i64 1), pl 16 (.bool (decide ((1 : Int) < 2)))] hF hS Fol (by kernel_rfl) (by kernel_rfl) (by kernel_rfl) ?_ (fun a w hF hS => ?_)
        · exact obs_nil
        refine seq_cut (fun a w => Fr 63 [pl 0 (.slice A1 rows1.length c1), pl 1 (.slice A2 columns1.length c2), pl 13 (.slice g1 2 2), pl 14 (.int .i64 2), pl 15 (.int .i64 1)] a ∧ Sep w0 B w (own 36 (.slice g1 2 2) (List.map (fun v => v) ([.slice A1 rows1.length c1, .slice A2 columns1.length c2] : List Value)) :: fs) ∧ ((nono_newPicture_J4 rows1 columns1)).bind some = some r) ?_ ?_
        · rintro a w ⟨hF, hS, hm⟩
          unfold nono_newPicture_J4 at hm
          refine seq_cut (fun a w => Fr 63 [pl 0 (.slice A1 rows1.length c1), pl 1 (.slice A2 columns1.length c2), pl 13 (.slice g1 2 2), pl 14 (.int .i64 2), pl 15 (.int .i64 1)] a ∧ Sep w0 B w (own 36 (.slice g1 2 2) (List.map (fun v => v) ([.slice A1 rows1.length c1, .slice A2 columns1.length c2] : List Value)) :: fs) ∧ ((nono_newPicture_J5 rows1 columns1)).bind some = some r) ?_ ?_
          · rintro a w ⟨hF, hS, hm⟩
            unfold nono_newPicture_J5 at hm
            refine reg1 [] [] [0, 1, 13, 14, 15] [pl 0 (.slice A1 rows1.length c1), pl 1 (.slice A2 columns1.length c2), pl 13 (.slice g1 2 2), pl 14 (.int .i64 2), pl 15 (.int .i64 2)] hF hS Fol (by kernel_rfl) (by kernel_rfl) (by kernel_rfl) ?_ (fun a w hF hS => ?_)
            · exact obs_nil
            refine then_n ?_
            refine rounds_s (n := 0) ?_
            refine reg [] [] [0, 1, 13, 14, 15, 16] [pl 0 (.slice A1 rows1.length c1), pl 1 (.slice A2 columns1.length c2), pl 13 (.slice g1 2 2), pl 14 (.int .i64 2), pl 15 (.int .i64 2), pl 16 (.bool (decide ((2 : Int) < 2)))] hF hS Fol (by kernel_rfl) (by kernel_rfl) (by kernel_rfl) ?_ (fun a w hF hS => ?_)
            · exact obs_nil
            refine seq_cut (fun _ _ => False) (fun _ _ h => h.elim) ?_
            refine cond_ev (t := 16) (b := decide ((2 : Int) < 2)) hF (by kernel_rfl) (fun hb => ?_) (fun hb => ?_)
            · exact absurd hb (by decide)
            · refine wpIn_exit ?_
              refine then_e (then_e (block_e (then_n ?_)))
              have hS := hS.pickN 1 [] (by decide)
              exact ⟨hF.weak [0, 1] (by kernel_rfl), hS, hm⟩
          · refine wpIn_block ?_
            obtain ⟨hp2, hm⟩ := asrt_b hm
            refine reg [⟨true, [], vS (Instr.indexAt 154 (.slice g1 2 2) (.int .i64 1)), .pointer (some (sAddr g1 1))⟩, ⟨false, [], vS (Instr.loadAt 36 (.pointer (some (sAddr g1 1)))), .slice A2 columns1.length c2⟩] [some (.pointer (some (sAddr g1 1))), some (.slice A2 columns1.length c2), none] [0, 1, 7, 13, 14, 15] [pl 0 (.slice A1 rows1.length c1), pl 1 (.slice A2 columns1.length c2), pl 7 (.slice A2 columns1.length c2), pl 13 (.slice g1 2 2), pl 14 (.int .i64 2), pl 15 (.int .i64 1)] hF hS Fol (by kernel_rfl) (by kernel_rfl) (by kernel_rfl) ?_ (fun a w hF hS => ?_)
            · exact obs_cons (ob_ix1 (f := fun v => v) (m := ([.slice A1 rows1.length c1, .slice A2 columns1.length c2] : List Value)) Und154 hi36 hs36 (hS.at_ 0 rfl).rd rfl (fun _ => hp2)) <| obs_cons (ob_get1 (n := 2) (m := ([.slice A1 rows1.length c1, .slice A2 columns1.length c2] : List Value)) (fun v => v) (.slice none 0 0) Agg36 (fun _ hS => ⟨_, (hS.at_ 0 rfl).rd⟩) (fun _ hS => rfl) (fun _ => hp2)) <| obs_nil
            refine reg [] [] [0, 1, 13, 14, 15, 26] [pl 0 (.slice A1 rows1.length c1), pl 1 (.slice A2 columns1.length c2), pl 13 (.slice g1 2 2), pl 14 (.int .i64 2), pl 15 (.int .i64 1), pl 26 (.bool ((decide ((columns1.length : Int) < 1)) || (decide ((6 : Int) < (columns1.length : Int)))))] hF hS Fol (by kernel_rfl) (by kernel_rfl) (by kernel_rfl) ?_ (fun a w hF hS => ?_)
            · exact obs_nil
            refine cond_ev (t := 26) (b := (decide ((columns1.length : Int) < 1)) || (decide ((6 : Int) < (columns1.length : Int)))) hF (by kernel_rfl) (fun hb => ?_) (fun hb => ?_)
            · replace hm := if_t hm hb
              refine reg [] [] [4, 5] [pl 4 (.pointer none), pl 5 (.int .i64 2)] hF hS Fol (by kernel_rfl) (by kernel_rfl) (by kernel_rfl) ?_ (fun a w hF hS => ?_)
              · exact obs_nil
              refine wpIn_ret ?_
              refine block_r (then_r (then_r (block_r (then_r ?_))))
              have hS := hS.pickN 1 [] (by decide)
              have hm : some (.go 2) = some r := hm
              obtain rfl := Option.some.inj hm
              exact retV (rs := [.tmp 4, .tmp 5]) (vs := [.pointer none, .int .i64 2]) hF rfl (rv_t (by kernel_rfl) <| rv_t (by kernel_rfl) <| rv_nil) rfl ⟨_, rfl, rfl, hS⟩
            · replace hm := if_f hm hb
              refine wpIn_skip ?_
              refine block_n ?_
              refine then_n ?_
              exact ⟨hF.weak [0, 1, 13, 14, 15] (by kernel_rfl), hS, hm⟩
        · refine cond_ev (t := 16) (b := decide ((1 : Int) < 2)) hF (by kernel_rfl) (fun hb => ?_) (fun hb => ?_)
          · refine wpIn_skip ?_
            refine then_n ?_
            exact ⟨hF.weak [0, 1, 13, 14, 15] (by kernel_rfl), hS, hm⟩
          · exact absurd hb (by decide)
      · refine wpIn_block ?_
        obtain ⟨hp1, hm⟩ := asrt_b hm
        refine reg [⟨true, [], vS (Instr.indexAt 154 (.slice g1 2 2) (.int .i64 0)), .pointer (some (sAddr g1 0))⟩, ⟨false, [], vS (Instr.loadAt 36 (.pointer (some (sAddr g1 0)))), .slice A1 rows1.length c1⟩] [some (.pointer (some (sAddr g1 0))), some (.slice A1 rows1.length c1), none] [0, 1, 7, 13, 14, 15] [pl 0 (.slice A1 rows1.length c1), pl 1 (.slice A2 columns1.length c2), pl 7 (.slice A1 rows1.length c1), pl 13 (.slice g1 2 2), pl 14 (.int .i64 2), pl 15 (.int .i64 0)] hF hS Fol (by kernel_rfl) (by kernel_rfl) (by kernel_rfl) ?_ (fun a w hF hS => ?_)
        · exact obs_cons (ob_ix1 (f := fun v => v) (m := ([.slice A1 rows1.length c1, .slice A2 columns1.length c2] : List Value)) Und154 hi36 hs36 (hS.at_ 0 rfl).rd rfl (fun _ => hp1)) <| obs_cons (ob_get1 (n := 2) (m := ([.slice A1 rows1.length c1, .slice A2 columns1.length c2] : List Value)) (fun v => v) (.slice none 0 0) Agg36 (fun _ hS => ⟨_, (hS.at_ 0 rfl).rd⟩) (fun _ hS => rfl) (fun _ => hp1)) <| obs_nil
        refine reg [] [] [0, 1, 13, 14, 15, 26] [pl 0 (.slice A1 rows1.length c1), pl 1 (.slice A2 columns1.length c2), pl 13 (.slice g1 2 2), pl 14 (.int .i64 2), pl 15 (.int .i64 0), pl 26 (.bool ((decide ((rows1.length : Int) < 1)) || (decide ((6 : Int) < (rows1.length : Int)))))] hF hS Fol (by kernel_rfl) (by kernel_rfl) (by kernel_rfl) ?_ (fun a w hF hS => ?_)
        · exact obs_nil
        refine cond_ev (t := 26) (b := (decide ((rows1.length : Int) < 1)) || (decide ((6 : Int) < (rows1.length : Int)))) hF (by kernel_rfl) (fun hb => ?_) (fun hb => ?_)
        · replace hm := if_t hm hb
          refine reg [] [] [4, 5] [pl 4 (.pointer none), pl 5 (.int .i64 2)] hF hS Fol (by kernel_rfl) (by kernel_rfl) (by kernel_rfl) ?_ (fun a w hF hS => ?_)
          · exact obs_nil
          refine wpIn_ret ?_
          refine block_r (then_r (then_r (block_r (then_r ?_))))
          have hS := hS.pickN 1 [] (by decide)
          have hm : some (.go 2) = some r := hm
          obtain rfl := Option.some.inj hm
          exact retV (rs := [.tmp 4, .tmp 5]) (vs := [.pointer none, .int .i64 2]) hF rfl (rv_t (by kernel_rfl) <| rv_t (by kernel_rfl) <| rv_nil) rfl ⟨_, rfl, rfl, hS⟩
        · replace hm := if_f hm hb
          refine wpIn_skip ?_
          refine block_n ?_
          refine then_n ?_
          exact ⟨hF.weak [0, 1, 13, 14, 15] (by kernel_rfl), hS, hm⟩
    · refine cond_ev (t := 16) (b := decide ((0 : Int) < 2)) hF (by kernel_rfl) (fun hb => ?_) (fun hb => ?_)
      · refine wpIn_skip ?_
        refine then_n ?_
        exact ⟨hF.weak [0, 1, 13, 14, 15] (by kernel_rfl), hS, hm⟩
      · exact absurd hb (by decide)

noncomputable def nono_picture_push_J2  : Option (St Unit (Fl Unit Bool)) :=
  none

noncomputable def nono_picture_push_K1  : (Fl Unit Bool) → Option Bool :=
  fun (x : (Fl Unit Bool)) => match x with | .go _ => none | .ret x => some x

noncomputable def nono_picture_push_L1  : Unit → Option (St Unit (Fl Unit Bool)) :=
  fun (x : Unit) => match x with | _ => nono_picture_push_J2

noncomputable def nono_picture_push_m  : Option Bool :=
  (loop nono_picture_push_L1 ()).bind nono_picture_push_K1

set_option maxRecDepth 100000 in
set_option maxHeartbeats 4000000 in
theorem nono_picture_push_w   {r : Bool} {w0 w : World} {B : Nat} {fs : List HP} (hm : nono_picture_push_m = some r) (hS : Sep w0 B w (fs)) :
    Calls Try.prog 60 #[.pointer none] w fun e w' => e = .returned (.bool r) ∧ Sep w0 B w' (fs) := by
  unfold nono_picture_push_m at hm
  replace hm := start_b hm
  refine enter (l := [.pointer none]) (n := 114) Try.func60 rfl rfl (by simp) (fun a hF => ?_)
  refine reg [] [] [0] [pl 0 (.pointer none)] hF hS Fol (by kernel_rfl) (by kernel_rfl) (by kernel_rfl) ?_ (fun a w hF hS => ?_)
  · exact obs_nil
  refine seq_cut (fun _ _ => False) (fun _ _ h => h.elim) ?_
  refine reg [] [] [0, 3] [pl 0 (.pointer none), pl 3 (.bool true)] hF hS Fol (by kernel_rfl) (by kernel_rfl) (by kernel_rfl) ?_ (fun a w hF hS => ?_)
  · exact obs_nil
  refine wpIn_block ?_
  refine wp_loop_model (S := Unit) (R := (Fl Unit Bool)) nono_picture_push_L1 (fun x => (nono_picture_push_K1 x).bind some) r (fun (x : Unit) a w => Fr 114 [pl 0 (.pointer none), pl 3 (.bool true)] a ∧ Sep w0 B w (fs)) (assoc_b hm) ⟨hF.weak [0, 3] (by kernel_rfl), hS⟩ ?_
  clear hF hS hm
  rintro nn1 _ a w ⟨hF, hS⟩ hm
  generalize hφ1 : stK nono_picture_push_L1 nn1 (fun x => (nono_picture_push_K1 x).bind some) = φ1 at hm
  unfold nono_picture_push_L1 at hm
  dsimp only at hm
  refine seq_cut (fun a w => Fr 114 [pl 0 (.pointer none)] a ∧ Sep w0 B w (fs) ∧ (nono_picture_push_J2).bind φ1 = some r) ?_ ?_
  · rintro a w ⟨hF, hS, hm⟩
    unfold nono_picture_push_J2 at hm
    refine wpIn_block ?_
    refine reg [] [] [0, 3] [pl 0 (.pointer none), pl 3 (.bool false)] hF hS Fol (by kernel_rfl) (by kernel_rfl) (by kernel_rfl) ?_ (fun a w hF hS => ?_)
    · exact obs_nil
    refine seq_cut (fun _ _ => False) (fun _ _ h => h.elim) ?_
    simp at hm
  · refine reg [] [] [0, 14] [pl 0 (.pointer none), pl 14 (.bool true)] hF hS Fol (by kernel_rfl) (by kernel_rfl) (by kernel_rfl) ?_ (fun a w hF hS => ?_)
    · exact obs_nil
    refine cond_ev (t := 14) (b := true) hF (by kernel_rfl) (fun hb => ?_) (fun hb => ?_)
    · refine wpIn_skip ?_
      refine then_n ?_
      exact ⟨hF.weak [0] (by kernel_rfl), hS, hm⟩
    · exact absurd hb (by decide)

noncomputable def nono_picture_solve_J1  : Option (Int × List Int) :=
  none

noncomputable def nono_picture_solve_m  (most1 : Int) : Option (Int × List Int) :=
  (nono_picture_push_m).bind fun r1 => if (!r1) then (some (0, ([] : List Int))) else (nono_picture_solve_J1)

set_option maxRecDepth 100000 in
set_option maxHeartbeats 4000000 in
theorem nono_picture_solve_w  {most1 : Int} {r : (Int × List Int)} {w0 w : World} {B : Nat} {fs : List HP} (hm : nono_picture_solve_m most1 = some r) (hS : Sep w0 B w (fs)) :
    Calls Try.prog 59 #[.pointer none, .int .i64 most1] w fun e w' => ∃ v, e = .returned v ∧ ∃ (A1 : Option Addr) (c1 : Nat), v = .tuple #[.int .i64 r.1, .slice A1 r.2.length c1] ∧ Sep w0 B w' (own 3 (.slice A1 r.2.length c1) (vI r.2) :: fs) := by
  obtain ⟨i3, hi3, hz3, hs3, hb3⟩ := info_parts Info3
  unfold nono_picture_solve_m at hm
  replace hm := start_b hm
  refine enter (l := [.pointer none, .int .i64 most1]) (n := 73) Try.func59 rfl rfl (by simp) (fun a hF => ?_)
  refine reg [] [] [0, 1] [pl 0 (.pointer none), pl 1 (.int .i64 most1)] hF hS Fol (by kernel_rfl) (by kernel_rfl) (by kernel_rfl) ?_ (fun a w hF hS => ?_)
  · exact obs_nil
  refine seq_cut (fun a w => Fr 73 [pl 0 (.pointer none), pl 1 (.int .i64 most1)] a ∧ Sep w0 B w (fs) ∧ (nono_picture_solve_J1).bind some = some r) ?_ ?_
  · rintro a w ⟨hF, hS, hm⟩
    unfold nono_picture_solve_J1 at hm
    refine seq_cut (fun _ _ => False) (fun _ _ h => h.elim) ?_
    simp at hm
  · obtain ⟨r1, hr1, hm⟩ := call_b hm
    refine reg [⟨false, [], callFunc 60 #[.pointer none], .bool r1⟩] [none, some (.bool r1), none] [0, 1, 17] [pl 0 (.pointer none), pl 1 (.int .i64 most1), pl 17 (.bool (!r1))] hF hS Fol (by kernel_rfl) (by kernel_rfl) (by kernel_rfl) ?_ (fun a w hF hS => ?_)
    · exact obs_cons (ob_call Try.func60 (by kernel_rfl) rfl (fun _ _ hS => nono_picture_push_w hr1 hS )) <| obs_nil
    refine cond_ev (t := 17) (b := !r1) hF (by kernel_rfl) (fun hb => ?_) (fun hb => ?_)
    · replace hm := if_t hm hb
      refine reg [] [] [4, 5] [pl 4 (.int .i64 0), pl 5 (.slice none 0 0)] hF hS Fol (by kernel_rfl) (by kernel_rfl) (by kernel_rfl) ?_ (fun a w hF hS => ?_)
      · exact obs_nil
      refine wpIn_ret ?_
      refine then_r ?_
      have hS : Sep w0 B w (own 3 (.slice none 0 0) (vI ([] : List Int)) :: fs) := hS.nil 3
      have hl1 := (hS.at_ 0 rfl).len1
      have hS := (hS.at_ 0 rfl).reN hl1
      have hS : Sep w0 B w (own 3 (.slice none (([] : List Int).length) 0) (vI ([] : List Int)) :: fs) := hS
      have hm : some (0, ([] : List Int)) = some r := hm
      obtain rfl := Option.some.inj hm
      exact retV (rs := [.tmp 4, .tmp 5]) (vs := [.int .i64 0, .slice none (([] : List Int).length) 0]) hF rfl (rv_t (by kernel_rfl) <| rv_t (by kernel_rfl) <| rv_nil) rfl ⟨_, rfl, none, 0, rfl, hS⟩
    · replace hm := if_f hm hb
      refine wpIn_skip ?_
      refine then_n ?_
      exact ⟨hF.weak [0, 1] (by kernel_rfl), hS, hm⟩

noncomputable def slices_Index_J3  (z1 : Int) : Option (St Int (Fl Unit Int)) :=
  some (.next (w64 (z1 + 1)))

noncomputable def slices_Index_J2  (s1 : List Int) (v1 : Int) (z1 : Int) : Option (St Int (Fl Unit Int)) :=
  asrt (0 ≤ z1 ∧ z1 < (s1.length : Int)) <| if (v1 == (geti s1 z1)) then (some (.done (.ret z1))) else ((slices_Index_J3 z1))

noncomputable def slices_Index_J1  : Option Int :=
  some (-1)

noncomputable def slices_Index_K1  : (Fl Unit Int) → Option Int :=
  fun (x : (Fl Unit Int)) => match x with | .go _ => slices_Index_J1 | .ret x => some x

noncomputable def slices_Index_L1  (s1 : List Int) (v1 : Int) : Int → Option (St Int (Fl Unit Int)) :=
  fun (x : Int) => match x with | z1 => if (decide (z1 < (s1.length : Int))) then ((slices_Index_J2 s1 v1 z1)) else (some (.done (.go ())))

noncomputable def slices_Index_m  (s1 : List Int) (v1 : Int) : Option Int :=
  (loop (slices_Index_L1 s1 v1) 0).bind slices_Index_K1

set_option maxRecDepth 100000 in
set_option maxHeartbeats 4000000 in
theorem slices_Index_w  {A1 : Option Addr} {c1 : Nat} {n1 : Nat} {s1 : List Int} {v1 : Int} {r : Int} {w0 w : World} {B : Nat} {fs : List HP} (hm : slices_Index_m s1 v1 = some r) (hS : Sep w0 B w (fs)) (hr_s1 : RdF w0 B fs A1 (vI s1)) (_hc_s1 : s1.length ≤ c1) (_hn_s1 : n1 = s1.length) :
    Calls Try.prog 78 #[.slice A1 n1 c1, .int .i64 v1] w fun e w' => e = .returned (.int .i64 r) ∧ Sep w0 B w' (fs) := by
  obtain ⟨i3, hi3, hz3, hs3, hb3⟩ := info_parts Info3
  obtain rfl := _hn_s1
  unfold slices_Index_m at hm
  replace hm := start_b hm
  refine enter (l := [.slice A1 s1.length c1, .int .i64 v1]) (n := 19) Try.func78 rfl rfl (by simp) (fun a hF => ?_)
  refine reg [] [] [0, 1] [pl 0 (.slice A1 s1.length c1), pl 1 (.int .i64 v1)] hF hS Fol (by kernel_rfl) (by kernel_rfl) (by kernel_rfl) ?_ (fun a w hF hS => ?_)
  · exact obs_nil
  refine seq_cut (fun a w => Fr 19 [] a ∧ Sep w0 B w (fs) ∧ (slices_Index_J1).bind some = some r) ?_ ?_
  · rintro a w ⟨hF, hS, hm⟩
    unfold slices_Index_J1 at hm
    refine reg [] [] [4] [pl 4 (.int .i64 (-1))] hF hS Fol (by kernel_rfl) (by kernel_rfl) (by kernel_rfl) ?_ (fun a w hF hS => ?_)
    · exact obs_nil
    refine wpIn_ret ?_
    have hm : some (-1) = some r := hm
    obtain rfl := Option.some.inj hm
    exact retV (rs := [.tmp 4]) (vs := [.int .i64 (-1)]) hF rfl (rv_t (by kernel_rfl) <| rv_nil) rfl ⟨rfl, hS⟩
  · refine reg [] [] [0, 1, 7, 8] [pl 0 (.slice A1 s1.length c1), pl 1 (.int .i64 v1), pl 7 (.int .i64 (s1.length : Int)), pl 8 (.int .i64 0)] hF hS Fol (by kernel_rfl) (by kernel_rfl) (by kernel_rfl) ?_ (fun a w hF hS => ?_)
    · exact obs_nil
    refine wpIn_block ?_
    refine wp_loop_model (S := Int) (R := (Fl Unit Int)) (slices_Index_L1 s1 v1) (fun x => (slices_Index_K1 x).bind some) r (fun (x : Int) a w => Fr 19 [pl 0 (.slice A1 s1.length c1), pl 1 (.int .i64 v1), pl 7 (.int .i64 (s1.length : Int)), pl 8 (.int .i64 x)] a ∧ Sep w0 B w (fs)) (assoc_b hm) ⟨hF.weak [0, 1, 7, 8] (by kernel_rfl), hS⟩ ?_
    clear hF hS hm
    rintro nn1 z1 a w ⟨hF, hS⟩ hm
    generalize hφ1 : stK (slices_Index_L1 s1 v1) nn1 (fun x => (slices_Index_K1 x).bind some) = φ1 at hm
    unfold slices_Index_L1 at hm
    dsimp only at hm
    refine reg [] [] [0, 1, 7, 8, 9] [pl 0 (.slice A1 s1.length c1), pl 1 (.int .i64 v1), pl 7 (.int .i64 (s1.length : Int)), pl 8 (.int .i64 z1), pl 9 (.bool (decide (z1 < (s1.length : Int))))] hF hS Fol (by kernel_rfl) (by kernel_rfl) (by kernel_rfl) ?_ (fun a w hF hS => ?_)
    · exact obs_nil
    refine seq_cut (fun a w => Fr 19 [pl 0 (.slice A1 s1.length c1), pl 1 (.int .i64 v1), pl 7 (.int .i64 (s1.length : Int)), pl 8 (.int .i64 z1)] a ∧ Sep w0 B w (fs) ∧ ((slices_Index_J2 s1 v1 z1)).bind φ1 = some r) ?_ ?_
    · rintro a w ⟨hF, hS, hm⟩
      unfold slices_Index_J2 at hm
      refine seq_cut (fun a w => Fr 19 [pl 0 (.slice A1 s1.length c1), pl 1 (.int .i64 v1), pl 7 (.int .i64 (s1.length : Int)), pl 8 (.int .i64 z1)] a ∧ Sep w0 B w (fs) ∧ ((slices_Index_J3 z1)).bind φ1 = some r) ?_ ?_
      · rintro a w ⟨hF, hS, hm⟩
        unfold slices_Index_J3 at hm
        refine reg1 [] [] [0, 1, 7, 8] [pl 0 (.slice A1 s1.length c1), pl 1 (.int .i64 v1), pl 7 (.int .i64 (s1.length : Int)), pl 8 (.int .i64 (w64 (z1 + 1)))] hF hS Fol (by kernel_rfl) (by kernel_rfl) (by kernel_rfl) ?_ (fun a w hF hS => ?_)
        · exact obs_nil
        refine then_n ?_
        rw [← hφ1] at hm
        exact ⟨(w64 (z1 + 1)), ⟨hF.weak [0, 1, 7, 8] (by kernel_rfl), hS⟩, hm⟩
      · refine wpIn_block ?_
        refine reg [] [] [0, 1, 5, 7, 8] [pl 0 (.slice A1 s1.length c1), pl 1 (.int .i64 v1), pl 5 (.int .i64 z1), pl 7 (.int .i64 (s1.length : Int)), pl 8 (.int .i64 z1)] hF hS Fol (by kernel_rfl) (by kernel_rfl) (by kernel_rfl) ?_ (fun a w hF hS => ?_)
        · exact obs_nil
        obtain ⟨hp1, hm⟩ := asrt_b hm
        refine reg [⟨true, [], vS (Instr.indexAt 22 (.slice A1 s1.length c1) (.int .i64 z1)), .pointer (some (sAddr A1 z1))⟩, ⟨false, [], vS (Instr.loadAt 3 (.pointer (some (sAddr A1 z1)))), .int .i64 (geti s1 z1)⟩] [none, none, none, some (.pointer (some (sAddr A1 z1))), some (.int .i64 (geti s1 z1)), none] [0, 1, 5, 7, 8, 16] [pl 0 (.slice A1 s1.length c1), pl 1 (.int .i64 v1), pl 5 (.int .i64 z1), pl 7 (.int .i64 (s1.length : Int)), pl 8 (.int .i64 z1), pl 16 (.bool (v1 == (geti s1 z1)))] hF hS Fol (by kernel_rfl) (by kernel_rfl) (by kernel_rfl) ?_ (fun a w hF hS => ?_)
        · exact obs_cons (ob_ix1 (f := (Value.int .i64)) (m := s1) Und22 hi3 hs3 (hr_s1 _ (hS.dropN 0)) rfl (fun _ => hp1)) <| obs_cons (ob_get1 (n := s1.length) (m := s1) (Value.int .i64) (0 : Int) Agg3 (fun _ hS => ⟨_, (hr_s1 _ (hS.dropN 0))⟩) (fun _ hS => rfl) (fun _ => hp1)) <| obs_nil
        refine cond_ev (t := 16) (b := (v1 == (geti s1 z1))) hF (by kernel_rfl) (fun hb => ?_) (fun hb => ?_)
        · replace hm := if_t hm hb
          refine reg [] [] [4] [pl 4 (.int .i64 z1)] hF hS Fol (by kernel_rfl) (by kernel_rfl) (by kernel_rfl) ?_ (fun a w hF hS => ?_)
          · exact obs_nil
          refine wpIn_ret ?_
          refine block_r (then_r (then_r (block_r (then_r ?_))))
          rw [← hφ1] at hm
          replace hm := done_b hm
          unfold slices_Index_K1 at hm
          try dsimp only at hm
          have hm : some z1 = some r := hm
          obtain rfl := Option.some.inj hm
          exact retV (rs := [.tmp 4]) (vs := [.int .i64 z1]) hF rfl (rv_t (by kernel_rfl) <| rv_nil) rfl ⟨rfl, hS⟩
        · replace hm := if_f hm hb
          refine wpIn_skip ?_
          refine block_n ?_
          refine then_n ?_
          exact ⟨hF.weak [0, 1, 7, 8] (by kernel_rfl), hS, hm⟩
    · refine cond_ev (t := 9) (b := decide (z1 < (s1.length : Int))) hF (by kernel_rfl) (fun hb => ?_) (fun hb => ?_)
      · replace hm := if_t hm hb
        refine wpIn_skip ?_
        refine then_n ?_
        exact ⟨hF.weak [0, 1, 7, 8] (by kernel_rfl), hS, hm⟩
      · replace hm := if_f hm hb
        refine wpIn_exit ?_
        refine then_e (then_e (block_e (then_n ?_)))
        rw [← hφ1] at hm
        replace hm := done_b hm
        unfold slices_Index_K1 at hm
        try dsimp only at hm
        have hm : (slices_Index_J1).bind some = some r := hm
        exact ⟨hF.weak [] (by kernel_rfl), hS, hm⟩

noncomputable def slices_Contains_m  (s1 : List Int) (v1 : Int) : Option Bool :=
  (slices_Index_m s1 v1).bind fun r1 => some (decide ((0 : Int) ≤ r1))

set_option maxRecDepth 100000 in
set_option maxHeartbeats 4000000 in
theorem slices_Contains_w  {A1 : Option Addr} {c1 : Nat} {n1 : Nat} {s1 : List Int} {v1 : Int} {r : Bool} {w0 w : World} {B : Nat} {fs : List HP} (hm : slices_Contains_m s1 v1 = some r) (hS : Sep w0 B w (fs)) (hr_s1 : RdF w0 B fs A1 (vI s1)) (_hc_s1 : s1.length ≤ c1) (_hn_s1 : n1 = s1.length) :
    Calls Try.prog 52 #[.slice A1 n1 c1, .int .i64 v1] w fun e w' => e = .returned (.bool r) ∧ Sep w0 B w' (fs) := by
  obtain ⟨i3, hi3, hz3, hs3, hb3⟩ := info_parts Info3
  obtain rfl := _hn_s1
  unfold slices_Contains_m at hm
  replace hm := start_b hm
  refine enter (l := [.slice A1 s1.length c1, .int .i64 v1]) (n := 9) Try.func52 rfl rfl (by simp) (fun a hF => ?_)
  refine reg [] [] [0, 1] [pl 0 (.slice A1 s1.length c1), pl 1 (.int .i64 v1)] hF hS Fol (by kernel_rfl) (by kernel_rfl) (by kernel_rfl) ?_ (fun a w hF hS => ?_)
  · exact obs_nil
  obtain ⟨r1, hr1, hm⟩ := call_b hm
  refine reg [⟨false, [], callFunc 78 #[.slice A1 s1.length c1, .int .i64 v1], .int .i64 r1⟩] [none, none, some (.int .i64 r1), none, none] [4] [pl 4 (.bool (decide ((0 : Int) ≤ r1)))] hF hS Fol (by kernel_rfl) (by kernel_rfl) (by kernel_rfl) ?_ (fun a w hF hS => ?_)
  · exact obs_cons (ob_call Try.func78 (by kernel_rfl) rfl (fun _ _ hS => slices_Index_w hr1 hS (fun _ hS => (hr_s1 _ (hS.dropN 0))) _hc_s1 rfl)) <| obs_nil
  refine wpIn_ret ?_
  have hm : some (decide ((0 : Int) ≤ r1)) = some r := hm
  obtain rfl := Option.some.inj hm
  exact retV (rs := [.tmp 4]) (vs := [.bool (decide ((0 : Int) ≤ r1))]) hF rfl (rv_t (by kernel_rfl) <| rv_nil) rfl ⟨rfl, hS⟩

noncomputable def nono_filler_fits_m  (f_line1 : List Int) (f_clue1 : List Int) (f_known1 : List ((Int × Int) × Int)) (at1 : Int) (long1 : Int) : Option Bool :=
  asrt ((decide ((w64 (at1 + long1)) ≤ (f_line1.length : Int))) = true → 0 ≤ at1 ∧ at1 ≤ (w64 (at1 + long1)) ∧ (w64 (at1 + long1)) ≤ (f_line1.length : Int)) <| ((if (decide ((w64 (at1 + long1)) ≤ (f_line1.length : Int))) then slices_Contains_m (cut f_line1 at1 (w64 (at1 + long1))) 0 else some false)).bind fun r1 => asrt (((w64 (at1 + long1)) == (f_line1.length : Int)) = false → ((decide ((w64 (at1 + long1)) ≤ (f_line1.length : Int))) && (!r1)) = true → 0 ≤ (w64 (at1 + long1)) ∧ (w64 (at1 + long1)) < (f_line1.length : Int)) <| some (((decide ((w64 (at1 + long1)) ≤ (f_line1.length : Int))) && (!r1)) && (((w64 (at1 + long1)) == (f_line1.length : Int)) || ((geti f_line1 (w64 (at1 + long1))) != 1)))

set_option maxRecDepth 100000 in
set_option maxHeartbeats 4000000 in
theorem nono_filler_fits_w  {g1 : Nat} {A1 : Option Addr} {c1 : Nat} {n1 : Nat} {f_line1 : List Int} {A2 : Option Addr} {c2 : Nat} {n2 : Nat} {f_clue1 : List Int} {g2 : Nat} {f_known1 : List ((Int × Int) × Int)} {at1 : Int} {long1 : Int} {r : Bool} {w0 w : World} {B : Nat} {fs : List HP} (hm : nono_filler_fits_m f_line1 f_clue1 f_known1 at1 long1 = some r) (hS : Sep w0 B w (blk g1 222 #[.slice A1 n1 c1, .slice A2 n2 c2, .map (some g2)] :: mapH kf225 (Value.int .i64) g2 f_known1 :: fs)) (hr_f_line1 : RdF w0 B fs A1 (vI f_line1)) (_hc_f_line1 : f_line1.length ≤ c1) (_hn_f_line1 : n1 = f_line1.length) (hr_f_clue1 : RdF w0 B fs A2 (vI f_clue1)) (_hc_f_clue1 : f_clue1.length ≤ c2) (_hn_f_clue1 : n2 = f_clue1.length) :
    Calls Try.prog 194 #[.pointer (some ⟨g1, 0, none⟩), .int .i64 at1, .int .i64 long1] w fun e w' => e = .returned (.bool r) ∧ Sep w0 B w' (blk g1 222 #[.slice A1 n1 c1, .slice A2 n2 c2, .map (some g2)] :: mapH kf225 (Value.int .i64) g2 f_known1 :: fs) := by
  obtain ⟨i3, hi3, hz3, hs3, hb3⟩ := info_parts Info3
  obtain rfl := _hn_f_line1
  obtain rfl := _hn_f_clue1
  unfold nono_filler_fits_m at hm
  replace hm := start_b hm
  refine enter (l := [.pointer (some ⟨g1, 0, none⟩), .int .i64 at1, .int .i64 long1]) (n := 48) Try.func194 rfl rfl (by simp) (fun a hF => ?_)
  refine reg [] [] [0, 1, 2] [pl 0 (.pointer (some ⟨g1, 0, none⟩)), pl 1 (.int .i64 at1), pl 2 (.int .i64 long1)] hF hS Fol (by kernel_rfl) (by kernel_rfl) (by kernel_rfl) ?_ (fun a w hF hS => ?_)
  · exact obs_nil
  refine reg [] [] [0, 1, 7] [pl 0 (.pointer (some ⟨g1, 0, none⟩)), pl 1 (.int .i64 at1), pl 7 (.int .i64 (w64 (at1 + long1)))] hF hS Fol (by kernel_rfl) (by kernel_rfl) (by kernel_rfl) ?_ (fun a w hF hS => ?_)
  · exact obs_nil
  obtain ⟨hp1, hm⟩ := asrt_b hm
  obtain ⟨r1, hr1, hm⟩ := call_b hm
  obtain ⟨hp2, hm⟩ := asrt_b hm
  refine reg [⟨false, [], vS (Instr.loadAt 22 (.pointer (some ⟨g1, 0, none⟩))), .slice A1 f_line1.length c1⟩, ⟨false, [(decide ((w64 (at1 + long1)) ≤ (f_line1.length : Int)), true)], vS (Instr.loadAt 22 (.pointer (some ⟨g1, 0, none⟩))), .slice A1 f_line1.length c1⟩, ⟨true, [(decide ((w64 (at1 + long1)) ≤ (f_line1.length : Int)), true)], vS (Instr.sliceAt 22 (.slice A1 f_line1.length c1) (some (.int .i64 at1)) (some (.int .i64 (w64 (at1 + long1)))) none), .slice (cutAddr A1 c1 at1) ((cut f_line1 at1 (w64 (at1 + long1))).length) (c1 - Int.toNat at1)⟩, ⟨false, [(decide ((w64 (at1 + long1)) ≤ (f_line1.length : Int)), true)], callFunc 52 #[.slice (cutAddr A1 c1 at1) ((cut f_line1 at1 (w64 (at1 + long1))).length) (c1 - Int.toNat at1), .int .i64 0], .bool r1⟩, ⟨false, [((decide ((w64 (at1 + long1)) ≤ (f_line1.length : Int))) && (!r1), true)], vS (Instr.loadAt 22 (.pointer (some ⟨g1, 0, none⟩))), .slice A1 f_line1.length c1⟩, ⟨false, [(((w64 (at1 + long1)) == (f_line1.length : Int)), false), ((decide ((w64 (at1 + long1)) ≤ (f_line1.length : Int))) && (!r1), true)], vS (Instr.loadAt 22 (.pointer (some ⟨g1, 0, none⟩))), .slice A1 f_line1.length c1⟩, ⟨true, [(((w64 (at1 + long1)) == (f_line1.length : Int)), false), ((decide ((w64 (at1 + long1)) ≤ (f_line1.length : Int))) && (!r1), true)], vS (Instr.indexAt 22 (.slice A1 f_line1.length c1) (.int .i64 (w64 (at1 + long1)))), .pointer (some (sAddr A1 (w64 (at1 + long1))))⟩, ⟨false, [(((w64 (at1 + long1)) == (f_line1.length : Int)), false), ((decide ((w64 (at1 + long1)) ≤ (f_line1.length : Int))) && (!r1), true)], vS (Instr.loadAt 3 (.pointer (some (sAddr A1 (w64 (at1 + long1)))))), .int .i64 (geti f_line1 (w64 (at1 + long1)))⟩] [none, none, none, none, some (.slice A1 f_line1.length c1), none, none, none, none, none, none, some (.slice A1 f_line1.length c1), none, none, some (.slice (cutAddr A1 c1 at1) ((cut f_line1 at1 (w64 (at1 + long1))).length) (c1 - Int.toNat at1)), some (.bool r1), none, none, none, none, none, none, none, some (.slice A1 f_line1.length c1), none, none, none, none, none, none, some (.slice A1 f_line1.length c1), none, some (.pointer (some (sAddr A1 (w64 (at1 + long1))))), some (.int .i64 (geti f_line1 (w64 (at1 + long1)))), none, none, none, none] [6] [pl 6 (.bool (((decide ((w64 (at1 + long1)) ≤ (f_line1.length : Int))) && (!r1)) && (((w64 (at1 + long1)) == (f_line1.length : Int)) || ((geti f_line1 (w64 (at1 + long1))) != 1))))] hF hS Fol (by kernel_rfl) (by kernel_rfl) (by kernel_rfl) ?_ (fun a w hF hS => ?_)
  · exact obs_cons (ob_load Agg22 (fun _ _ hS => (hS.at_ 0 rfl).cell rfl)) <| obs_cons (ob_load Agg22 (fun _ _ hS => (hS.at_ 0 rfl).cell rfl)) <| obs_cons (ob_cutn (l := f_line1) (k := .i64) (k' := .i64) Und22 hi3 hs3 rfl (.inl rfl) (.inl rfl) (fun hy => hp1 (hy (decide ((w64 (at1 + long1)) ≤ (f_line1.length : Int)), true) (by simp))) _hc_f_line1) <| obs_cons (ob_call Try.func52 (by kernel_rfl) rfl (fun hy _ hS => slices_Contains_w (ite_some hr1 (by rw [show (decide ((w64 (at1 + long1)) ≤ (f_line1.length : Int))) = true from hy (decide ((w64 (at1 + long1)) ≤ (f_line1.length : Int)), true) (by simp)]; try rfl)) hS (fun _ hS => (Rd.cutF (hr_f_line1 _ (hS.dropN 2)) (hp1 (hy (decide ((w64 (at1 + long1)) ≤ (f_line1.length : Int)), true) (by simp))) _hc_f_line1)) (cap_cut (hp1 (hy (decide ((w64 (at1 + long1)) ≤ (f_line1.length : Int)), true) (by simp))) _hc_f_line1) rfl)) <| obs_cons (ob_load Agg22 (fun _ _ hS => (hS.at_ 0 rfl).cell rfl)) <| obs_cons (ob_load Agg22 (fun _ _ hS => (hS.at_ 0 rfl).cell rfl)) <| obs_cons (ob_ix1 (f := (Value.int .i64)) (m := f_line1) Und22 hi3 hs3 (hr_f_line1 _ (hS.dropN 2)) rfl (fun hy => hp2 (hy (((w64 (at1 + long1)) == (f_line1.length : Int)), false) (by simp)) (hy ((decide ((w64 (at1 + long1)) ≤ (f_line1.length : Int))) && (!r1), true) (by simp)))) <| obs_cons (ob_get1 (n := f_line1.length) (m := f_line1) (Value.int .i64) (0 : Int) Agg3 (fun _ hS => ⟨_, (hr_f_line1 _ (hS.dropN 2))⟩) (fun _ hS => rfl) (fun hy => hp2 (hy (((w64 (at1 + long1)) == (f_line1.length : Int)), false) (by simp)) (hy ((decide ((w64 (at1 + long1)) ≤ (f_line1.length : Int))) && (!r1), true) (by simp)))) <| obs_nil
  refine wpIn_ret ?_
  have hm : some (((decide ((w64 (at1 + long1)) ≤ (f_line1.length : Int))) && (!r1)) && (((w64 (at1 + long1)) == (f_line1.length : Int)) || ((geti f_line1 (w64 (at1 + long1))) != 1))) = some r := hm
  obtain rfl := Option.some.inj hm
  exact retV (rs := [.tmp 6]) (vs := [.bool (((decide ((w64 (at1 + long1)) ≤ (f_line1.length : Int))) && (!r1)) && (((w64 (at1 + long1)) == (f_line1.length : Int)) || ((geti f_line1 (w64 (at1 + long1))) != 1)))]) hF rfl (rv_t (by kernel_rfl) <| rv_nil) rfl ⟨rfl, hS⟩

noncomputable def nono_filler_ways_J2  (f_known1 : List ((Int × Int) × Int)) : Option (Int × List ((Int × Int) × Int)) :=
  some (0, f_known1)

noncomputable def nono_filler_ways_J5  (s1 : Int) (s2 : Int) (f3 : List ((Int × Int) × Int)) (n4 : Int) : Option (Int × List ((Int × Int) × Int)) :=
  some (n4, (mput (s1, s2) n4 f3))

noncomputable def nono_filler_ways_J4  (rec_nono_filler_ways : List Int → List Int → List ((Int × Int) × Int) → Int → Int → Option (Int × List ((Int × Int) × Int))) (f_line1 : List Int) (f_clue1 : List Int) (s1 : Int) (s2 : Int) (f2 : List ((Int × Int) × Int)) (n3 : Int) : Option (Int × List ((Int × Int) × Int)) :=
  if (decide (s2 < (f_clue1.length : Int))) then (asrt (0 ≤ s2 ∧ s2 < (f_clue1.length : Int)) <| (nono_filler_fits_m f_line1 f_clue1 f2 s1 (geti f_clue1 s2)).bind fun r2 => if r2 then ((rec_nono_filler_ways f_line1 f_clue1 f2 (w64 ((w64 (s1 + (geti f_clue1 s2))) + 1)) (w64 (s2 + 1))).bind fun r3 => (nono_filler_ways_J5 s1 s2) r3.2 (w64 (n3 + r3.1))) else ((nono_filler_ways_J5 s1 s2) f2 n3)) else ((nono_filler_ways_J5 s1 s2) f2 n3)

noncomputable def nono_filler_ways_J3  (rec_nono_filler_ways : List Int → List Int → List ((Int × Int) × Int) → Int → Int → Option (Int × List ((Int × Int) × Int))) (f_line1 : List Int) (f_clue1 : List Int) (f_known1 : List ((Int × Int) × Int)) (s1 : Int) (s2 : Int) : Option (Int × List ((Int × Int) × Int)) :=
  asrt (0 ≤ s1 ∧ s1 < (f_line1.length : Int)) <| if ((geti f_line1 s1) != 1) then ((rec_nono_filler_ways f_line1 f_clue1 f_known1 (w64 (s1 + 1)) s2).bind fun r1 => (nono_filler_ways_J4 rec_nono_filler_ways f_line1 f_clue1 s1 s2) r1.2 r1.1) else ((nono_filler_ways_J4 rec_nono_filler_ways f_line1 f_clue1 s1 s2) f_known1 0)

noncomputable def nono_filler_ways_J1  (rec_nono_filler_ways : List Int → List Int → List ((Int × Int) × Int) → Int → Int → Option (Int × List ((Int × Int) × Int))) (f_line1 : List Int) (f_clue1 : List Int) (f_known1 : List ((Int × Int) × Int)) (s1 : Int) (s2 : Int) : Option (Int × List ((Int × Int) × Int)) :=
  if (mhas (s1, s2) f_known1) then (some ((mget (0 : Int) (s1, s2) f_known1), f_known1)) else ((nono_filler_ways_J3 rec_nono_filler_ways f_line1 f_clue1 f_known1 s1 s2))

noncomputable def nono_filler_ways_B  (rec_nono_filler_ways : List Int → List Int → List ((Int × Int) × Int) → Int → Int → Option (Int × List ((Int × Int) × Int))) (f_line1 : List Int) (f_clue1 : List Int) (f_known1 : List ((Int × Int) × Int)) (s1 : Int) (s2 : Int) : Option (Int × List ((Int × Int) × Int)) :=
  if (decide ((f_line1.length : Int) ≤ s1)) then (if (s2 == (f_clue1.length : Int)) then (some (1, f_known1)) else ((nono_filler_ways_J2 f_known1))) else ((nono_filler_ways_J1 rec_nono_filler_ways f_line1 f_clue1 f_known1 s1 s2))

noncomputable def nono_filler_ways_mF  : Nat → List Int → List Int → List ((Int × Int) × Int) → Int → Int → Option (Int × List ((Int × Int) × Int))
  | 0 => fun _ _ _ _ _ => none
  | n + 1 => fun f_line1 f_clue1 f_known1 s1 s2 => nono_filler_ways_B (nono_filler_ways_mF n) f_line1 f_clue1 f_known1 s1 s2

noncomputable def nono_filler_ways_m  (f_line1 : List Int) (f_clue1 : List Int) (f_known1 : List ((Int × Int) × Int)) (s1 : Int) (s2 : Int) : Option (Int × List ((Int × Int) × Int)) :=
  recM fun n => nono_filler_ways_mF n f_line1 f_clue1 f_known1 s1 s2

set_option maxRecDepth 100000 in
set_option maxHeartbeats 4000000 in
theorem nono_filler_ways_wB  {rec_nono_filler_ways : List Int → List Int → List ((Int × Int) × Int) → Int → Int → Option (Int × List ((Int × Int) × Int))} (ih_nono_filler_ways : ∀ {g1 : Nat} {A1 : Option Addr} {c1 : Nat} {n1 : Nat} {f_line1 : List Int} {A2 : Option Addr} {c2 : Nat} {n2 : Nat} {f_clue1 : List Int} {g2 : Nat} {f_known1 : List ((Int × Int) × Int)} {s1 : Int} {s2 : Int} {r : (Int × List ((Int × Int) × Int))} {w0 w : World} {B : Nat} {fs : List HP} (_ : rec_nono_filler_ways f_line1 f_clue1 f_known1 s1 s2 = some r) (_ : Sep w0 B w (blk g1 222 #[.slice A1 n1 c1, .slice A2 n2 c2, .map (some g2)] :: mapH kf225 (Value.int .i64) g2 f_known1 :: fs)) (_hr_f_line1 : RdF w0 B fs A1 (vI f_line1)) (_hc_f_line1 : f_line1.length ≤ c1) (_hn_f_line1 : n1 = f_line1.length) (_hr_f_clue1 : RdF w0 B fs A2 (vI f_clue1)) (_hc_f_clue1 : f_clue1.length ≤ c2) (_hn_f_clue1 : n2 = f_clue1.length), Calls Try.prog 185 #[.pointer (some ⟨g1, 0, none⟩), .agg #[.int .i64 s1, .int .i64 s2]] w fun e w' => ∃ v, e = .returned v ∧ v = .int .i64 r.1 ∧ Sep w0 B w' (blk g1 222 #[.slice A1 n1 c1, .slice A2 n2 c2, .map (some g2)] :: mapH kf225 (Value.int .i64) g2 r.2 :: fs)) {g1 : Nat} {A1 : Option Addr} {c1 : Nat} {n1 : Nat} {f_line1 : List Int} {A2 : Option Addr} {c2 : Nat} {n2 : Nat} {f_clue1 : List Int} {g2 : Nat} {f_known1 : List ((Int × Int) × Int)} {s1 : Int} {s2 : Int} {r : (Int × List ((Int × Int) × Int))} {w0 w : World} {B : Nat} {fs : List HP} (hm : nono_filler_ways_B rec_nono_filler_ways f_line1 f_clue1 f_known1 s1 s2 = some r) (hS : Sep w0 B w (blk g1 222 #[.slice A1 n1 c1, .slice A2 n2 c2, .map (some g2)] :: mapH kf225 (Value.int .i64) g2 f_known1 :: fs)) (hr_f_line1 : RdF w0 B fs A1 (vI f_line1)) (_hc_f_line1 : f_line1.length ≤ c1) (_hn_f_line1 : n1 = f_line1.length) (hr_f_clue1 : RdF w0 B fs A2 (vI f_clue1)) (_hc_f_clue1 : f_clue1.length ≤ c2) (_hn_f_clue1 : n2 = f_clue1.length) :
    Calls Try.prog 185 #[.pointer (some ⟨g1, 0, none⟩), .agg #[.int .i64 s1, .int .i64 s2]] w fun e w' => ∃ v, e = .returned v ∧ v = .int .i64 r.1 ∧ Sep w0 B w' (blk g1 222 #[.slice A1 n1 c1, .slice A2 n2 c2, .map (some g2)] :: mapH kf225 (Value.int .i64) g2 r.2 :: fs) := by
  obtain ⟨i3, hi3, hz3, hs3, hb3⟩ := info_parts Info3
  obtain rfl := _hn_f_line1
  obtain rfl := _hn_f_clue1
  unfold nono_filler_ways_B at hm
  replace hm := start_b hm
  refine enter (l := [.pointer (some ⟨g1, 0, none⟩), .agg #[.int .i64 s1, .int .i64 s2]]) (n := 94) Try.func185 rfl rfl (by simp) (fun a hF => ?_)
  refine seqR ?_
  refine at_do (d := 3) (s := vS (Instr.box 225 (.agg #[.int .i64 s1, .int .i64 s2]))) (v := .pointer (some ⟨w.heap.size, 0, none⟩)) (w' := w.alloc (.cells #[.int .i64 s1, .int .i64 s2] 225)) hF (by kernel_rfl) (by kernel_rfl) (by kernel_rfl) (fun a hF => ?_)
  have hS : Sep w0 B (w.alloc (.cells #[.int .i64 s1, .int .i64 s2] 225)) (blk w.heap.size 225 #[.int .i64 s1, .int .i64 s2] :: (blk g1 222 #[.slice A1 f_line1.length c1, .slice A2 f_clue1.length c2, .map (some g2)] :: mapH kf225 (Value.int .i64) g2 f_known1 :: fs)) := hS.box 225 #[.int .i64 s1, .int .i64 s2]
  generalize w.heap.size = g3 at hF hS
  generalize w.alloc (.cells #[.int .i64 s1, .int .i64 s2] 225) = w at hS ⊢
  refine at_run 1 [] [] [0, 3] [pl 0 (.pointer (some ⟨g1, 0, none⟩)), pl 3 (.pointer (some ⟨g3, 0, none⟩))] hF hS (by kernel_rfl) (by kernel_rfl) ?_ (fun a w hF hS => ?_)
  · exact obs_nil
  refine at_end [0, 3] [pl 0 (.pointer (some ⟨g1, 0, none⟩)), pl 3 (.pointer (some ⟨g3, 0, none⟩))] hF rfl (by kernel_rfl) (fun hF => ?_)
  refine then_n ?_
  refine seq_cut (fun a w => Fr 94 [pl 0 (.pointer (some ⟨g1, 0, none⟩)), pl 3 (.pointer (some ⟨g3, 0, none⟩))] a ∧ Sep w0 B w (blk g1 222 #[.slice A1 f_line1.length c1, .slice A2 f_clue1.length c2, .map (some g2)] :: mapH kf225 (Value.int .i64) g2 f_known1 :: blk g3 225 #[.int .i64 s1, .int .i64 s2] :: fs) ∧ ((nono_filler_ways_J1 rec_nono_filler_ways f_line1 f_clue1 f_known1 s1 s2)).bind some = some r) ?_ ?_
  · rintro a w ⟨hF, hS, hm⟩
    unfold nono_filler_ways_J1 at hm
    refine seq_cut (fun a w => Fr 94 [pl 0 (.pointer (some ⟨g1, 0, none⟩)), pl 3 (.pointer (some ⟨g3, 0, none⟩))] a ∧ Sep w0 B w (blk g1 222 #[.slice A1 f_line1.length c1, .slice A2 f_clue1.length c2, .map (some g2)] :: mapH kf225 (Value.int .i64) g2 f_known1 :: blk g3 225 #[.int .i64 s1, .int .i64 s2] :: fs) ∧ ((nono_filler_ways_J3 rec_nono_filler_ways f_line1 f_clue1 f_known1 s1 s2)).bind some = some r) ?_ ?_
    · rintro a w ⟨hF, hS, hm⟩
      unfold nono_filler_ways_J3 at hm
      refine reg [] [] [0, 3, 7] [pl 0 (.pointer (some ⟨g1, 0, none⟩)), pl 3 (.pointer (some ⟨g3, 0, none⟩)), pl 7 (.int .i64 0)] hF hS Fol (by kernel_rfl) (by kernel_rfl) (by kernel_rfl) ?_ (fun a w hF hS => ?_)
      · exact obs_nil
      refine seq_cut (fun a w => ∃ (f2 : List ((Int × Int) × Int)) (n3 : Int), Fr 94 [pl 0 (.pointer (some ⟨g1, 0, none⟩)), pl 3 (.pointer (some ⟨g3, 0, none⟩)), pl 7 (.int .i64 n3)] a ∧ Sep w0 B w (blk g1 222 #[.slice A1 f_line1.length c1, .slice A2 f_clue1.length c2, .map (some g2)] :: mapH kf225 (Value.int .i64) g2 f2 :: blk g3 225 #[.int .i64 s1, .int .i64 s2] :: fs) ∧ ((nono_filler_ways_J4 rec_nono_filler_ways f_line1 f_clue1 s1 s2) f2 n3).bind some = some r) ?_ ?_
      · rintro a w ⟨f2, n3, hF, hS, hm⟩
        unfold nono_filler_ways_J4 at hm
        refine seq_cut (fun a w => ∃ (f3 : List ((Int × Int) × Int)) (n4 : Int), Fr 94 [pl 0 (.pointer (some ⟨g1, 0, none⟩)), pl 3 (.pointer (some ⟨g3, 0, none⟩)), pl 7 (.int .i64 n4)] a ∧ Sep w0 B w (blk g1 222 #[.slice A1 f_line1.length c1, .slice A2 f_clue1.length c2, .map (some g2)] :: mapH kf225 (Value.int .i64) g2 f3 :: blk g3 225 #[.int .i64 s1, .int .i64 s2] :: fs) ∧ ((nono_filler_ways_J5 s1 s2) f3 n4).bind some = some r) ?_ ?_
        · rintro a w ⟨f3, n4, hF, hS, hm⟩
          unfold nono_filler_ways_J5 at hm
          refine wpIn_seq ?_
          refine regMix4 [0, 1, 2, 3, 4, 5] [6] [⟨false, [], vS (Instr.loadAt 220 (.pointer (some ⟨g1, 2, none⟩))), .map (some g2)⟩, ⟨false, [], vS (Instr.loadAt 225 (.pointer (some ⟨g3, 0, none⟩))), .agg #[.int .i64 s1, .int .i64 s2]⟩] [none, none, none, some (.map (some g2)), some (.agg #[.int .i64 s1, .int .i64 s2]), none] [7, 90, 91, 92] [pl 7 (.int .i64 n4), pl 90 (.map (some g2)), pl 91 (.agg #[.int .i64 s1, .int .i64 s2]), pl 92 (.int .i64 n4)] hF hS Fol (by kernel_rfl) (by kernel_rfl) (by kernel_rfl) (by kernel_rfl) (by kernel_rfl) ?_ (fun a w hF hS => ?_)
          · exact obs_cons (ob_load Agg220 (fun _ _ hS => (hS.at_ 0 rfl).cell rfl)) <| obs_cons (ob_loadA (cs := #[.int .i64 s1, .int .i64 s2]) (by kernel_rfl) (by kernel_rfl) (fun _ _ hS => (hS.at_ 2 rfl).cellsAt 0 (by rfl))) <| obs_nil
          obtain ⟨w, hrun, hS⟩ := run_mput (P := Try.prog) (t := 220) (vf := (Value.int .i64)) MK225 UndM220 (s1, s2) n4 (hS.at_ 1 rfl)
          refine at_skip hF (by kernel_rfl) hrun ?_
          have hS : Sep w0 B w (blk g1 222 #[.slice A1 f_line1.length c1, .slice A2 f_clue1.length c2, .map (some g2)] :: mapH kf225 (Value.int .i64) g2 (mput (s1, s2) n4 f3) :: blk g3 225 #[.int .i64 s1, .int .i64 s2] :: fs) := hS
          refine at_end [7] [pl 7 (.int .i64 n4)] hF rfl (by kernel_rfl) (fun hF => ?_)
          refine np_n ?_
          refine then_n ?_
          refine reg [] [] [4] [pl 4 (.int .i64 n4)] hF hS Fol (by kernel_rfl) (by kernel_rfl) (by kernel_rfl) ?_ (fun a w hF hS => ?_)
          · exact obs_nil
          refine wpIn_ret ?_
          have hS := hS.pickN 3 [0, 1] (by decide)
          have hm : some (n4, (mput (s1, s2) n4 f3)) = some r := hm
          obtain rfl := Option.some.inj hm
          exact retV (rs := [.tmp 4]) (vs := [.int .i64 n4]) hF rfl (rv_t (by kernel_rfl) <| rv_nil) rfl ⟨_, rfl, rfl, hS⟩
        · refine reg [⟨false, [], vS (Instr.loadAt 3 (.pointer (some ⟨g3, 1, none⟩))), .int .i64 s2⟩, ⟨false, [], vS (Instr.loadAt 22 (.pointer (some ⟨g1, 1, none⟩))), .slice A2 f_clue1.length c2⟩] [none, some (.int .i64 s2), none, none, none, some (.slice A2 f_clue1.length c2), none, none] [0, 3, 7, 60] [pl 0 (.pointer (some ⟨g1, 0, none⟩)), pl 3 (.pointer (some ⟨g3, 0, none⟩)), pl 7 (.int .i64 n3), pl 60 (.bool (decide (s2 < (f_clue1.length : Int))))] hF hS Fol (by kernel_rfl) (by kernel_rfl) (by kernel_rfl) ?_ (fun a w hF hS => ?_)
          · exact obs_cons (ob_load Agg3 (fun _ _ hS => (hS.at_ 2 rfl).cell rfl)) <| obs_cons (ob_load Agg22 (fun _ _ hS => (hS.at_ 0 rfl).cell rfl)) <| obs_nil
          refine cond_ev (t := 60) (b := decide (s2 < (f_clue1.length : Int))) hF (by kernel_rfl) (fun hb => ?_) (fun hb => ?_)
          · replace hm := if_t hm hb
            obtain ⟨hp2, hm⟩ := asrt_b hm
            refine reg [⟨false, [], vS (Instr.loadAt 22 (.pointer (some ⟨g1, 1, none⟩))), .slice A2 f_clue1.length c2⟩, ⟨false, [], vS (Instr.loadAt 3 (.pointer (some ⟨g3, 1, none⟩))), .int .i64 s2⟩, ⟨true, [], vS (Instr.indexAt 22 (.slice A2 f_clue1.length c2) (.int .i64 s2)), .pointer (some (sAddr A2 s2))⟩, ⟨false, [], vS (Instr.loadAt 3 (.pointer (some (sAddr A2 s2)))), .int .i64 (geti f_clue1 s2)⟩] [none, none, none, some (.slice A2 f_clue1.length c2), none, some (.int .i64 s2), some (.pointer (some (sAddr A2 s2))), some (.int .i64 (geti f_clue1 s2)), none] [0, 3, 7, 8] [pl 0 (.pointer (some ⟨g1, 0, none⟩)), pl 3 (.pointer (some ⟨g3, 0, none⟩)), pl 7 (.int .i64 n3), pl 8 (.int .i64 (geti f_clue1 s2))] hF hS Fol (by kernel_rfl) (by kernel_rfl) (by kernel_rfl) ?_ (fun a w hF hS => ?_)
            · exact obs_cons (ob_load Agg22 (fun _ _ hS => (hS.at_ 0 rfl).cell rfl)) <| obs_cons (ob_load Agg3 (fun _ _ hS => (hS.at_ 2 rfl).cell rfl)) <| obs_cons (ob_ix1 (f := (Value.int .i64)) (m := f_clue1) Und22 hi3 hs3 (hr_f_clue1 _ (hS.dropN 3)) rfl (fun _ => hp2)) <| obs_cons (ob_get1 (n := f_clue1.length) (m := f_clue1) (Value.int .i64) (0 : Int) Agg3 (fun _ hS => ⟨_, (hr_f_clue1 _ (hS.dropN 3))⟩) (fun _ hS => rfl) (fun _ => hp2)) <| obs_nil
            obtain ⟨r2, hr2, hm⟩ := call_b hm
            refine reg [⟨false, [], vS (Instr.loadAt 3 (.pointer (some ⟨g3, 0, none⟩))), .int .i64 s1⟩, ⟨false, [], callFunc 194 #[.pointer (some ⟨g1, 0, none⟩), .int .i64 s1, .int .i64 (geti f_clue1 s2)], .bool r2⟩] [none, none, some (.int .i64 s1), none, some (.bool r2)] [0, 3, 7, 8, 73] [pl 0 (.pointer (some ⟨g1, 0, none⟩)), pl 3 (.pointer (some ⟨g3, 0, none⟩)), pl 7 (.int .i64 n3), pl 8 (.int .i64 (geti f_clue1 s2)), pl 73 (.bool r2)] hF hS Fol (by kernel_rfl) (by kernel_rfl) (by kernel_rfl) ?_ (fun a w hF hS => ?_)
            · exact obs_cons (ob_load Agg3 (fun _ _ hS => (hS.at_ 2 rfl).cell rfl)) <| obs_cons (ob_call Try.func194 (by kernel_rfl) rfl (fun _ _ hS => nono_filler_fits_w hr2 hS (fun _ hS => (hr_f_line1 _ (hS.dropN 1))) _hc_f_line1 rfl (fun _ hS => (hr_f_clue1 _ (hS.dropN 1))) _hc_f_clue1 rfl)) <| obs_nil
            refine cond_ev (t := 73) (b := r2) hF (by kernel_rfl) (fun hb => ?_) (fun hb => ?_)
            · replace hm := if_t hm hb
              refine oneR ?_
              obtain ⟨r3, hr3, hm⟩ := call_b hm
              refine at_run 11 [⟨false, [], vS (Instr.loadAt 3 (.pointer (some ⟨g3, 0, none⟩))), .int .i64 s1⟩, ⟨false, [], vS (Instr.loadAt 3 (.pointer (some ⟨g3, 1, none⟩))), .int .i64 s2⟩] [none, none, none, some (.int .i64 s1), none, none, none, none, some (.int .i64 s2), none, none] [0, 3, 74, 75, 84] [pl 0 (.pointer (some ⟨g1, 0, none⟩)), pl 3 (.pointer (some ⟨g3, 0, none⟩)), pl 74 (.int .i64 n3), pl 75 (.pointer (some ⟨g1, 0, none⟩)), pl 84 (.agg #[.int .i64 (w64 ((w64 (s1 + (geti f_clue1 s2))) + 1)), .int .i64 (w64 (s2 + 1))])] hF hS (by kernel_rfl) (by kernel_rfl) ?_ (fun a w hF hS => ?_)
              · exact obs_cons (ob_load Agg3 (fun _ _ hS => (hS.at_ 2 rfl).cell rfl)) <| obs_cons (ob_load Agg3 (fun _ _ hS => (hS.at_ 2 rfl).cell rfl)) <| obs_nil
              refine at_call (f := 185) (args := #[.pointer (some ⟨g1, 0, none⟩), .agg #[.int .i64 (w64 ((w64 (s1 + (geti f_clue1 s2))) + 1)), .int .i64 (w64 (s2 + 1))]]) (d := 85) hF (by kernel_rfl) (by kernel_rfl) Try.func185 (by kernel_rfl) rfl (ih_nono_filler_ways hr3 hS (fun _ hS => (hr_f_line1 _ (hS.dropN 1))) _hc_f_line1 rfl (fun _ hS => (hr_f_clue1 _ (hS.dropN 1))) _hc_f_clue1 rfl) (fun v a w hR hF => ?_)
              clear hS
              obtain ⟨rfl, hS⟩ := hR
              have hS : Sep w0 B w (blk g1 222 #[.slice A1 f_line1.length c1, .slice A2 f_clue1.length c2, .map (some g2)] :: mapH kf225 (Value.int .i64) g2 r3.2 :: blk g3 225 #[.int .i64 s1, .int .i64 s2] :: fs) := hS
              refine at_run 2 [] [] [0, 3, 7] [pl 0 (.pointer (some ⟨g1, 0, none⟩)), pl 3 (.pointer (some ⟨g3, 0, none⟩)), pl 7 (.int .i64 (w64 (n3 + r3.1)))] hF hS (by kernel_rfl) (by kernel_rfl) ?_ (fun a w hF hS => ?_)
              · exact obs_nil
              refine at_end [0, 3, 7] [pl 0 (.pointer (some ⟨g1, 0, none⟩)), pl 3 (.pointer (some ⟨g3, 0, none⟩)), pl 7 (.int .i64 (w64 (n3 + r3.1)))] hF rfl (by kernel_rfl) (fun hF => ?_)
              refine then_n ?_
              exact ⟨r3.2, (w64 (n3 + r3.1)), hF.weak [0, 3, 7] (by kernel_rfl), hS, hm⟩
            · replace hm := if_f hm hb
              refine wpIn_skip ?_
              refine then_n ?_
              exact ⟨f2, n3, hF.weak [0, 3, 7] (by kernel_rfl), hS, hm⟩
          · replace hm := if_f hm hb
            refine wpIn_skip ?_
            refine then_n ?_
            exact ⟨f2, n3, hF.weak [0, 3, 7] (by kernel_rfl), hS, hm⟩
      · obtain ⟨hp1, hm⟩ := asrt_b hm
        refine reg [⟨false, [], vS (Instr.loadAt 22 (.pointer (some ⟨g1, 0, none⟩))), .slice A1 f_line1.length c1⟩, ⟨false, [], vS (Instr.loadAt 3 (.pointer (some ⟨g3, 0, none⟩))), .int .i64 s1⟩, ⟨true, [], vS (Instr.indexAt 22 (.slice A1 f_line1.length c1) (.int .i64 s1)), .pointer (some (sAddr A1 s1))⟩, ⟨false, [], vS (Instr.loadAt 3 (.pointer (some (sAddr A1 s1)))), .int .i64 (geti f_line1 s1)⟩] [none, none, none, some (.slice A1 f_line1.length c1), none, some (.int .i64 s1), some (.pointer (some (sAddr A1 s1))), some (.int .i64 (geti f_line1 s1)), none] [0, 3, 7, 44] [pl 0 (.pointer (some ⟨g1, 0, none⟩)), pl 3 (.pointer (some ⟨g3, 0, none⟩)), pl 7 (.int .i64 0), pl 44 (.bool ((geti f_line1 s1) != 1))] hF hS Fol (by kernel_rfl) (by kernel_rfl) (by kernel_rfl) ?_ (fun a w hF hS => ?_)
        · exact obs_cons (ob_load Agg22 (fun _ _ hS => (hS.at_ 0 rfl).cell rfl)) <| obs_cons (ob_load Agg3 (fun _ _ hS => (hS.at_ 2 rfl).cell rfl)) <| obs_cons (ob_ix1 (f := (Value.int .i64)) (m := f_line1) Und22 hi3 hs3 (hr_f_line1 _ (hS.dropN 3)) rfl (fun _ => hp1)) <| obs_cons (ob_get1 (n := f_line1.length) (m := f_line1) (Value.int .i64) (0 : Int) Agg3 (fun _ hS => ⟨_, (hr_f_line1 _ (hS.dropN 3))⟩) (fun _ hS => rfl) (fun _ => hp1)) <| obs_nil
        refine cond_ev (t := 44) (b := ((geti f_line1 s1) != 1)) hF (by kernel_rfl) (fun hb => ?_) (fun hb => ?_)
        · replace hm := if_t hm hb
          refine oneR ?_
          obtain ⟨r1, hr1, hm⟩ := call_b hm
          refine at_run 7 [⟨false, [], vS (Instr.loadAt 3 (.pointer (some ⟨g3, 0, none⟩))), .int .i64 s1⟩, ⟨false, [], vS (Instr.loadAt 3 (.pointer (some ⟨g3, 1, none⟩))), .int .i64 s2⟩] [none, none, some (.int .i64 s1), none, none, some (.int .i64 s2), none] [0, 3, 45, 51] [pl 0 (.pointer (some ⟨g1, 0, none⟩)), pl 3 (.pointer (some ⟨g3, 0, none⟩)), pl 45 (.pointer (some ⟨g1, 0, none⟩)), pl 51 (.agg #[.int .i64 (w64 (s1 + 1)), .int .i64 s2])] hF hS (by kernel_rfl) (by kernel_rfl) ?_ (fun a w hF hS => ?_)
          · exact obs_cons (ob_load Agg3 (fun _ _ hS => (hS.at_ 2 rfl).cell rfl)) <| obs_cons (ob_load Agg3 (fun _ _ hS => (hS.at_ 2 rfl).cell rfl)) <| obs_nil
          refine at_call (f := 185) (args := #[.pointer (some ⟨g1, 0, none⟩), .agg #[.int .i64 (w64 (s1 + 1)), .int .i64 s2]]) (d := 52) hF (by kernel_rfl) (by kernel_rfl) Try.func185 (by kernel_rfl) rfl (ih_nono_filler_ways hr1 hS (fun _ hS => (hr_f_line1 _ (hS.dropN 1))) _hc_f_line1 rfl (fun _ hS => (hr_f_clue1 _ (hS.dropN 1))) _hc_f_clue1 rfl) (fun v a w hR hF => ?_)
          clear hS
          obtain ⟨rfl, hS⟩ := hR
          have hS : Sep w0 B w (blk g1 222 #[.slice A1 f_line1.length c1, .slice A2 f_clue1.length c2, .map (some g2)] :: mapH kf225 (Value.int .i64) g2 r1.2 :: blk g3 225 #[.int .i64 s1, .int .i64 s2] :: fs) := hS
          refine at_run 1 [] [] [0, 3, 7] [pl 0 (.pointer (some ⟨g1, 0, none⟩)), pl 3 (.pointer (some ⟨g3, 0, none⟩)), pl 7 (.int .i64 r1.1)] hF hS (by kernel_rfl) (by kernel_rfl) ?_ (fun a w hF hS => ?_)
          · exact obs_nil
          refine at_end [0, 3, 7] [pl 0 (.pointer (some ⟨g1, 0, none⟩)), pl 3 (.pointer (some ⟨g3, 0, none⟩)), pl 7 (.int .i64 r1.1)] hF rfl (by kernel_rfl) (fun hF => ?_)
          refine then_n ?_
          exact ⟨r1.2, r1.1, hF.weak [0, 3, 7] (by kernel_rfl), hS, hm⟩
        · replace hm := if_f hm hb
          refine wpIn_skip ?_
          refine then_n ?_
          exact ⟨f_known1, 0, hF.weak [0, 3, 7] (by kernel_rfl), hS, hm⟩
    · refine reg [⟨false, [], vS (Instr.loadAt 220 (.pointer (some ⟨g1, 2, none⟩))), .map (some g2)⟩, ⟨false, [], vS (Instr.loadAt 225 (.pointer (some ⟨g3, 0, none⟩))), .agg #[.int .i64 s1, .int .i64 s2]⟩, ⟨false, [], vS (Instr.lookup 220 (.map (some g2)) (.agg #[.int .i64 s1, .int .i64 s2]) true), .tuple #[.int .i64 (mget (0 : Int) (s1, s2) f_known1), .bool (mhas (s1, s2) f_known1)]⟩] [none, none, none, some (.map (some g2)), some (.agg #[.int .i64 s1, .int .i64 s2]), some (.tuple #[.int .i64 (mget (0 : Int) (s1, s2) f_known1), .bool (mhas (s1, s2) f_known1)]), none, none, none, none, none] [0, 3, 5, 6] [pl 0 (.pointer (some ⟨g1, 0, none⟩)), pl 3 (.pointer (some ⟨g3, 0, none⟩)), pl 5 (.int .i64 (mget (0 : Int) (s1, s2) f_known1)), pl 6 (.bool (mhas (s1, s2) f_known1))] hF hS Fol (by kernel_rfl) (by kernel_rfl) (by kernel_rfl) ?_ (fun a w hF hS => ?_)
      · exact obs_cons (ob_load Agg220 (fun _ _ hS => (hS.at_ 0 rfl).cell rfl)) <| obs_cons (ob_loadA (cs := #[.int .i64 s1, .int .i64 s2]) (by kernel_rfl) (by kernel_rfl) (fun _ _ hS => (hS.at_ 2 rfl).cellsAt 0 (by rfl))) <| obs_cons (ob_look2 (k := (s1, s2)) (m := f_known1) MK225 UndM220 (z := (0 : Int)) MZ3 (fun _ hS => ⟨_, _, _, _, hS.at_ 1 rfl⟩)) <| obs_nil
      refine reg [] [] [0, 3, 5, 34] [pl 0 (.pointer (some ⟨g1, 0, none⟩)), pl 3 (.pointer (some ⟨g3, 0, none⟩)), pl 5 (.int .i64 (mget (0 : Int) (s1, s2) f_known1)), pl 34 (.bool (mhas (s1, s2) f_known1))] hF hS Fol (by kernel_rfl) (by kernel_rfl) (by kernel_rfl) ?_ (fun a w hF hS => ?_)
      · exact obs_nil
      refine cond_ev (t := 34) (b := (mhas (s1, s2) f_known1)) hF (by kernel_rfl) (fun hb => ?_) (fun hb => ?_)
      · replace hm := if_t hm hb
        refine reg [] [] [4] [pl 4 (.int .i64 (mget (0 : Int) (s1, s2) f_known1))] hF hS Fol (by kernel_rfl) (by kernel_rfl) (by kernel_rfl) ?_ (fun a w hF hS => ?_)
        · exact obs_nil
        refine wpIn_ret ?_
        refine then_r ?_
        have hS := hS.pickN 3 [0, 1] (by decide)
        have hm : some ((mget (0 : Int) (s1, s2) f_known1), f_known1) = some r := hm
        obtain rfl := Option.some.inj hm
        exact retV (rs := [.tmp 4]) (vs := [.int .i64 (mget (0 : Int) (s1, s2) f_known1)]) hF rfl (rv_t (by kernel_rfl) <| rv_nil) rfl ⟨_, rfl, rfl, hS⟩
      · replace hm := if_f hm hb
        refine wpIn_skip ?_
        refine then_n ?_
        exact ⟨hF.weak [0, 3] (by kernel_rfl), hS, hm⟩
  · refine reg [⟨false, [], vS (Instr.loadAt 3 (.pointer (some ⟨g3, 0, none⟩))), .int .i64 s1⟩, ⟨false, [], vS (Instr.loadAt 22 (.pointer (some ⟨g1, 0, none⟩))), .slice A1 f_line1.length c1⟩] [none, some (.int .i64 s1), none, none, none, some (.slice A1 f_line1.length c1), none, none] [0, 3, 16] [pl 0 (.pointer (some ⟨g1, 0, none⟩)), pl 3 (.pointer (some ⟨g3, 0, none⟩)), pl 16 (.bool (decide ((f_line1.length : Int) ≤ s1)))] hF hS Fol (by kernel_rfl) (by kernel_rfl) (by kernel_rfl) ?_ (fun a w hF hS => ?_)
    · exact obs_cons (ob_load Agg3 (fun _ _ hS => (hS.at_ 0 rfl).cell rfl)) <| obs_cons (ob_load Agg22 (fun _ _ hS => (hS.at_ 1 rfl).cell rfl)) <| obs_nil
    refine cond_ev (t := 16) (b := decide ((f_line1.length : Int) ≤ s1)) hF (by kernel_rfl) (fun hb => ?_) (fun hb => ?_)
    · replace hm := if_t hm hb
      refine seq_cut (fun a w => Fr 94 [] a ∧ Sep w0 B w (blk g1 222 #[.slice A1 f_line1.length c1, .slice A2 f_clue1.length c2, .map (some g2)] :: mapH kf225 (Value.int .i64) g2 f_known1 :: fs) ∧ ((nono_filler_ways_J2 f_known1)).bind some = some r) ?_ ?_
      · rintro a w ⟨hF, hS, hm⟩
        unfold nono_filler_ways_J2 at hm
        refine reg [] [] [4] [pl 4 (.int .i64 0)] hF hS Fol (by kernel_rfl) (by kernel_rfl) (by kernel_rfl) ?_ (fun a w hF hS => ?_)
        · exact obs_nil
        refine wpIn_ret ?_
        refine then_r ?_
        have hm : some (0, f_known1) = some r := hm
        obtain rfl := Option.some.inj hm
        exact retV (rs := [.tmp 4]) (vs := [.int .i64 0]) hF rfl (rv_t (by kernel_rfl) <| rv_nil) rfl ⟨_, rfl, rfl, hS⟩
      · refine reg [⟨false, [], vS (Instr.loadAt 3 (.pointer (some ⟨g3, 1, none⟩))), .int .i64 s2⟩, ⟨false, [], vS (Instr.loadAt 22 (.pointer (some ⟨g1, 1, none⟩))), .slice A2 f_clue1.length c2⟩] [none, some (.int .i64 s2), none, none, none, some (.slice A2 f_clue1.length c2), none, none] [24] [pl 24 (.bool (s2 == (f_clue1.length : Int)))] hF hS Fol (by kernel_rfl) (by kernel_rfl) (by kernel_rfl) ?_ (fun a w hF hS => ?_)
        · exact obs_cons (ob_load Agg3 (fun _ _ hS => (hS.at_ 0 rfl).cell rfl)) <| obs_cons (ob_load Agg22 (fun _ _ hS => (hS.at_ 1 rfl).cell rfl)) <| obs_nil
        refine cond_ev (t := 24) (b := (s2 == (f_clue1.length : Int))) hF (by kernel_rfl) (fun hb => ?_) (fun hb => ?_)
        · replace hm := if_t hm hb
          refine reg [] [] [4] [pl 4 (.int .i64 1)] hF hS Fol (by kernel_rfl) (by kernel_rfl) (by kernel_rfl) ?_ (fun a w hF hS => ?_)
          · exact obs_nil
          refine wpIn_ret ?_
          refine then_r (then_r ?_)
          have hS := hS.pickN 3 [1, 2] (by decide)
          have hm : some (1, f_known1) = some r := hm
          obtain rfl := Option.some.inj hm
          exact retV (rs := [.tmp 4]) (vs := [.int .i64 1]) hF rfl (rv_t (by kernel_rfl) <| rv_nil) rfl ⟨_, rfl, rfl, hS⟩
        · replace hm := if_f hm hb
          refine wpIn_skip ?_
          refine then_n ?_
          have hS := hS.pickN 3 [1, 2] (by decide)
          exact ⟨hF.weak [] (by kernel_rfl), hS, hm⟩
    · replace hm := if_f hm hb
      refine wpIn_skip ?_
      refine then_n ?_
      have hS := hS.pickN 3 [1, 2, 0] (by decide)
      exact ⟨hF.weak [0, 3] (by kernel_rfl), hS, hm⟩

theorem nono_filler_ways_w  {g1 : Nat} {A1 : Option Addr} {c1 : Nat} {n1 : Nat} {f_line1 : List Int} {A2 : Option Addr} {c2 : Nat} {n2 : Nat} {f_clue1 : List Int} {g2 : Nat} {f_known1 : List ((Int × Int) × Int)} {s1 : Int} {s2 : Int} {r : (Int × List ((Int × Int) × Int))} {w0 w : World} {B : Nat} {fs : List HP} (hm : nono_filler_ways_m f_line1 f_clue1 f_known1 s1 s2 = some r) (hS : Sep w0 B w (blk g1 222 #[.slice A1 n1 c1, .slice A2 n2 c2, .map (some g2)] :: mapH kf225 (Value.int .i64) g2 f_known1 :: fs)) (hr_f_line1 : RdF w0 B fs A1 (vI f_line1)) (_hc_f_line1 : f_line1.length ≤ c1) (_hn_f_line1 : n1 = f_line1.length) (hr_f_clue1 : RdF w0 B fs A2 (vI f_clue1)) (_hc_f_clue1 : f_clue1.length ≤ c2) (_hn_f_clue1 : n2 = f_clue1.length) :
    Calls Try.prog 185 #[.pointer (some ⟨g1, 0, none⟩), .agg #[.int .i64 s1, .int .i64 s2]] w fun e w' => ∃ v, e = .returned v ∧ v = .int .i64 r.1 ∧ Sep w0 B w' (blk g1 222 #[.slice A1 n1 c1, .slice A2 n2 c2, .map (some g2)] :: mapH kf225 (Value.int .i64) g2 r.2 :: fs) := by
  have key : ∀ (n : Nat) {g1 : Nat} {A1 : Option Addr} {c1 : Nat} {n1 : Nat} {f_line1 : List Int} {A2 : Option Addr} {c2 : Nat} {n2 : Nat} {f_clue1 : List Int} {g2 : Nat} {f_known1 : List ((Int × Int) × Int)} {s1 : Int} {s2 : Int} {r : (Int × List ((Int × Int) × Int))} {w0 w : World} {B : Nat} {fs : List HP} (_ : nono_filler_ways_mF n f_line1 f_clue1 f_known1 s1 s2 = some r) (_ : Sep w0 B w (blk g1 222 #[.slice A1 n1 c1, .slice A2 n2 c2, .map (some g2)] :: mapH kf225 (Value.int .i64) g2 f_known1 :: fs)) (hr_f_line1 : RdF w0 B fs A1 (vI f_line1)) (_hc_f_line1 : f_line1.length ≤ c1) (_hn_f_line1 : n1 = f_line1.length) (hr_f_clue1 : RdF w0 B fs A2 (vI f_clue1)) (_hc_f_clue1 : f_clue1.length ≤ c2) (_hn_f_clue1 : n2 = f_clue1.length), Calls Try.prog 185 #[.pointer (some ⟨g1, 0, none⟩), .agg #[.int .i64 s1, .int .i64 s2]] w fun e w' => ∃ v, e = .returned v ∧ v = .int .i64 r.1 ∧ Sep w0 B w' (blk g1 222 #[.slice A1 n1 c1, .slice A2 n2 c2, .map (some g2)] :: mapH kf225 (Value.int .i64) g2 r.2 :: fs) := by
    intro n
    induction n with
    | zero => intros; rename_i hm0 _ _ _ _ _ _ _; cases hm0
    | succ n ih => intros; rename_i hm0 hS0 h0 h1 h2 h3 h4 h5; exact nono_filler_ways_wB (rec_nono_filler_ways := nono_filler_ways_mF n) (fun hm hS h0 h1 h2 h3 h4 h5 => ih hm hS h0 h1 h2 h3 h4 h5) hm0 hS0 h0 h1 h2 h3 h4 h5
  obtain ⟨n, hn⟩ := recM_some hm
  exact key n hn hS hr_f_line1 _hc_f_line1 _hn_f_line1 hr_f_clue1 _hc_f_clue1 _hn_f_clue1

set_option maxRecDepth 100000 in
theorem nono_filler_ways_J4_le_nono_filler_ways {rec_nono_filler_ways1 rec_nono_filler_ways2 : List Int → List Int → List ((Int × Int) × Int) → Int → Int → Option (Int × List ((Int × Int) × Int))} (h_rec_nono_filler_ways : ∀ a0 a1 a2 a3 a4, Le (rec_nono_filler_ways1 a0 a1 a2 a3 a4) (rec_nono_filler_ways2 a0 a1 a2 a3 a4)) (f_line1 : List Int) (f_clue1 : List Int) (s1 : Int) (s2 : Int) (f2 : List ((Int × Int) × Int)) (n3 : Int) : Le (nono_filler_ways_J4 rec_nono_filler_ways1 f_line1 f_clue1 s1 s2 f2 n3) (nono_filler_ways_J4 rec_nono_filler_ways2 f_line1 f_clue1 s1 s2 f2 n3) := by
  unfold nono_filler_ways_J4
  repeat' (first | with_reducible exact Le.refl _ | with_reducible exact h_rec_nono_filler_ways _ _ _ _ _ | with_reducible refine Le.asrt ?_ | with_reducible refine Le.ite ?_ ?_ | refine Le.bind ?_ (fun _ => ?_) | refine Le.loop2 (fun _ => ?_) | refine Le.elim2 (fun _ => ?_) (fun _ => ?_))

set_option maxRecDepth 100000 in
theorem nono_filler_ways_J3_le_nono_filler_ways {rec_nono_filler_ways1 rec_nono_filler_ways2 : List Int → List Int → List ((Int × Int) × Int) → Int → Int → Option (Int × List ((Int × Int) × Int))} (h_rec_nono_filler_ways : ∀ a0 a1 a2 a3 a4, Le (rec_nono_filler_ways1 a0 a1 a2 a3 a4) (rec_nono_filler_ways2 a0 a1 a2 a3 a4)) (f_line1 : List Int) (f_clue1 : List Int) (f_known1 : List ((Int × Int) × Int)) (s1 : Int) (s2 : Int) : Le (nono_filler_ways_J3 rec_nono_filler_ways1 f_line1 f_clue1 f_known1 s1 s2) (nono_filler_ways_J3 rec_nono_filler_ways2 f_line1 f_clue1 f_known1 s1 s2) := by
  unfold nono_filler_ways_J3
  repeat' (first | with_reducible exact Le.refl _ | with_reducible exact h_rec_nono_filler_ways _ _ _ _ _ | with_reducible exact nono_filler_ways_J4_le_nono_filler_ways h_rec_nono_filler_ways _ _ _ _ _ _ | with_reducible refine Le.asrt ?_ | with_reducible refine Le.ite ?_ ?_ | refine Le.bind ?_ (fun _ => ?_) | refine Le.loop2 (fun _ => ?_) | refine Le.elim2 (fun _ => ?_) (fun _ => ?_))

set_option maxRecDepth 100000 in
theorem nono_filler_ways_J1_le_nono_filler_ways {rec_nono_filler_ways1 rec_nono_filler_ways2 : List Int → List Int → List ((Int × Int) × Int) → Int → Int → Option (Int × List ((Int × Int) × Int))} (h_rec_nono_filler_ways : ∀ a0 a1 a2 a3 a4, Le (rec_nono_filler_ways1 a0 a1 a2 a3 a4) (rec_nono_filler_ways2 a0 a1 a2 a3 a4)) (f_line1 : List Int) (f_clue1 : List Int) (f_known1 : List ((Int × Int) × Int)) (s1 : Int) (s2 : Int) : Le (nono_filler_ways_J1 rec_nono_filler_ways1 f_line1 f_clue1 f_known1 s1 s2) (nono_filler_ways_J1 rec_nono_filler_ways2 f_line1 f_clue1 f_known1 s1 s2) := by
  unfold nono_filler_ways_J1
  repeat' (first | with_reducible exact Le.refl _ | with_reducible exact h_rec_nono_filler_ways _ _ _ _ _ | with_reducible exact nono_filler_ways_J3_le_nono_filler_ways h_rec_nono_filler_ways _ _ _ _ _ | with_reducible refine Le.asrt ?_ | with_reducible refine Le.ite ?_ ?_ | refine Le.bind ?_ (fun _ => ?_) | refine Le.loop2 (fun _ => ?_) | refine Le.elim2 (fun _ => ?_) (fun _ => ?_))

set_option maxRecDepth 100000 in
theorem nono_filler_ways_B_le {rec_nono_filler_ways1 rec_nono_filler_ways2 : List Int → List Int → List ((Int × Int) × Int) → Int → Int → Option (Int × List ((Int × Int) × Int))} (h_rec_nono_filler_ways : ∀ a0 a1 a2 a3 a4, Le (rec_nono_filler_ways1 a0 a1 a2 a3 a4) (rec_nono_filler_ways2 a0 a1 a2 a3 a4)) (f_line1 : List Int) (f_clue1 : List Int) (f_known1 : List ((Int × Int) × Int)) (s1 : Int) (s2 : Int) : Le (nono_filler_ways_B rec_nono_filler_ways1 f_line1 f_clue1 f_known1 s1 s2) (nono_filler_ways_B rec_nono_filler_ways2 f_line1 f_clue1 f_known1 s1 s2) := by
  unfold nono_filler_ways_B
  repeat' (first | with_reducible exact Le.refl _ | with_reducible exact h_rec_nono_filler_ways _ _ _ _ _ | with_reducible exact nono_filler_ways_J1_le_nono_filler_ways h_rec_nono_filler_ways _ _ _ _ _ | with_reducible refine Le.asrt ?_ | with_reducible refine Le.ite ?_ ?_ | refine Le.bind ?_ (fun _ => ?_) | refine Le.loop2 (fun _ => ?_) | refine Le.elim2 (fun _ => ?_) (fun _ => ?_))

set_option maxRecDepth 100000 in
theorem nono_filler_ways_mF_le : ∀ (n : Nat) (f_line1 : List Int) (f_clue1 : List Int) (f_known1 : List ((Int × Int) × Int)) (s1 : Int) (s2 : Int), Le (nono_filler_ways_mF n f_line1 f_clue1 f_known1 s1 s2) (nono_filler_ways_mF (n + 1) f_line1 f_clue1 f_known1 s1 s2)
  | 0, _, _, _, _, _ => fun _ h => by cases h
  | n + 1, _, _, _, _, _ => nono_filler_ways_B_le (fun a0 a1 a2 a3 a4 => nono_filler_ways_mF_le n a0 a1 a2 a3 a4) _ _ _ _ _

set_option maxRecDepth 100000 in
theorem nono_filler_ways_m_of (N : Nat) (f_line1 : List Int) (f_clue1 : List Int) (f_known1 : List ((Int × Int) × Int)) (s1 : Int) (s2 : Int) {r : (Int × List ((Int × Int) × Int))} (h : nono_filler_ways_mF N f_line1 f_clue1 f_known1 s1 s2 = some r) : nono_filler_ways_m f_line1 f_clue1 f_known1 s1 s2 = some r :=
  recM_mono (fun n => nono_filler_ways_mF_le n _ _ _ _ _) h

noncomputable def nono_ways_m  (line1 : List Int) (clue1 : List Int) : Option Int :=
  (nono_filler_ways_m line1 clue1 ([] : List ((Int × Int) × Int)) 0 0).bind fun r1 => some r1.1

set_option maxRecDepth 100000 in
set_option maxHeartbeats 4000000 in
theorem nono_ways_w  {A1 : Option Addr} {c1 : Nat} {n1 : Nat} {line1 : List Int} {A2 : Option Addr} {c2 : Nat} {n2 : Nat} {clue1 : List Int} {r : Int} {w0 w : World} {B : Nat} {fs : List HP} (hm : nono_ways_m line1 clue1 = some r) (hS : Sep w0 B w (fs)) (hr_line1 : RdF w0 B fs A1 (vI line1)) (_hc_line1 : line1.length ≤ c1) (_hn_line1 : n1 = line1.length) (hr_clue1 : RdF w0 B fs A2 (vI clue1)) (_hc_clue1 : clue1.length ≤ c2) (_hn_clue1 : n2 = clue1.length) :
    Calls Try.prog 155 #[.slice A1 n1 c1, .slice A2 n2 c2] w fun e w' => e = .returned (.int .i64 r) ∧ Sep w0 B w' (fs) := by
  obtain ⟨i3, hi3, hz3, hs3, hb3⟩ := info_parts Info3
  obtain rfl := _hn_line1
  obtain rfl := _hn_clue1
  unfold nono_ways_m at hm
  replace hm := start_b hm
  refine enter (l := [.slice A1 line1.length c1, .slice A2 clue1.length c2]) (n := 12) Try.func155 rfl rfl (by simp) (fun a hF => ?_)
  refine reg [] [] [0, 1] [pl 0 (.slice A1 line1.length c1), pl 1 (.slice A2 clue1.length c2)] hF hS Fol (by kernel_rfl) (by kernel_rfl) (by kernel_rfl) ?_ (fun a w hF hS => ?_)
  · exact obs_nil
  refine seqR ?_
  refine at_run 2 [] [] [6, 7] [pl 6 (.slice A1 line1.length c1), pl 7 (.slice A2 clue1.length c2)] hF hS (by kernel_rfl) (by kernel_rfl) ?_ (fun a w hF hS => ?_)
  · exact obs_nil
  refine at_do (d := 8) (s := vS (Instr.makeMap 220 none)) (v := .map (some w.heap.size)) (w' := w.alloc (.map #[] 0)) hF (by kernel_rfl) (by kernel_rfl) (by kernel_rfl) (fun a hF => ?_)
  have hS : Sep w0 B (w.alloc (.map #[] 0)) (mapH kf225 (Value.int .i64) w.heap.size ([] : List ((Int × Int) × Int)) :: (fs)) := hS.mapNew _ _
  generalize w.heap.size = g1 at hF hS
  generalize w.alloc (.map #[] 0) = w at hS ⊢
  refine at_run 1 [] [] [9] [pl 9 (.agg #[.slice A1 line1.length c1, .slice A2 clue1.length c2, .map (some g1)])] hF hS (by kernel_rfl) (by kernel_rfl) ?_ (fun a w hF hS => ?_)
  · exact obs_nil
  refine at_do (d := 5) (s := vS (Instr.alloc 222 true (.tuple #[]))) (v := .pointer (some ⟨w.heap.size, 0, none⟩)) (w' := w.alloc (.cells #[.slice none 0 0, .slice none 0 0, .map none] 222)) hF (by kernel_rfl) (by kernel_rfl) (by kernel_rfl) (fun a hF => ?_)
  have hS : Sep w0 B (w.alloc (.cells #[.slice none 0 0, .slice none 0 0, .map none] 222)) (blk w.heap.size 222 #[.slice none 0 0, .slice none 0 0, .map none] :: (mapH kf225 (Value.int .i64) g1 ([] : List ((Int × Int) × Int)) :: fs)) := hS.box 222 #[.slice none 0 0, .slice none 0 0, .map none]
  generalize w.heap.size = g2 at hF hS
  generalize w.alloc (.cells #[.slice none 0 0, .slice none 0 0, .map none] 222) = w at hS ⊢
  obtain ⟨w, hrun, hS⟩ := run_putA (P := Try.prog) (t := 222) (us := #[.slice A1 line1.length c1, .slice A2 clue1.length c2, .map (some g1)]) (o := 0) (hS.at_ 0 rfl) (by kernel_rfl) (all_one (by kernel_rfl)) (Nat.le_of_ble_eq_true (by kernel_rfl))
  refine at_skip hF (by kernel_rfl) hrun ?_
  have hS : Sep w0 B w (blk g2 222 #[.slice A1 line1.length c1, .slice A2 clue1.length c2, .map (some g1)] :: mapH kf225 (Value.int .i64) g1 ([] : List ((Int × Int) × Int)) :: fs) := hS
  refine at_end [5] [pl 5 (.pointer (some ⟨g2, 0, none⟩))] hF rfl (by kernel_rfl) (fun hF => ?_)
  refine then_n ?_
  refine seqR ?_
  obtain ⟨r1, hr1, hm⟩ := call_b hm
  refine at_run 1 [] [] [5, 10] [pl 5 (.pointer (some ⟨g2, 0, none⟩)), pl 10 (.agg #[.int .i64 0, .int .i64 0])] hF hS (by kernel_rfl) (by kernel_rfl) ?_ (fun a w hF hS => ?_)
  · exact obs_nil
  refine at_call (f := 185) (args := #[.pointer (some ⟨g2, 0, none⟩), .agg #[.int .i64 0, .int .i64 0]]) (d := 11) hF (by kernel_rfl) (by kernel_rfl) Try.func185 (by kernel_rfl) rfl (nono_filler_ways_w hr1 hS (fun _ hS => (hr_line1 _ (hS.dropN 0))) _hc_line1 rfl (fun _ hS => (hr_clue1 _ (hS.dropN 0))) _hc_clue1 rfl) (fun v a w hR hF => ?_)
  clear hS
  obtain ⟨rfl, hS⟩ := hR
  have hS : Sep w0 B w (blk g2 222 #[.slice A1 line1.length c1, .slice A2 clue1.length c2, .map (some g1)] :: mapH kf225 (Value.int .i64) g1 r1.2 :: fs) := hS
  refine at_run 1 [] [] [4] [pl 4 (.int .i64 r1.1)] hF hS (by kernel_rfl) (by kernel_rfl) ?_ (fun a w hF hS => ?_)
  · exact obs_nil
  refine at_end [4] [pl 4 (.int .i64 r1.1)] hF rfl (by kernel_rfl) (fun hF => ?_)
  refine then_n ?_
  refine wpIn_ret ?_
  have hS := hS.pickN 2 [] (by decide)
  have hm : some r1.1 = some r := hm
  obtain rfl := Option.some.inj hm
  exact retV (rs := [.tmp 4]) (vs := [.int .i64 r1.1]) hF rfl (rv_t (by kernel_rfl) <| rv_nil) rfl ⟨rfl, hS⟩

noncomputable def slices_Clone_J1  (s1 : List Int) : Option (List Int) :=
  asrt ((0 : Int) + (s1.length : Int) ≤ bigN) <| some (([] : List Int) ++ s1)

noncomputable def slices_Clone_m  (s1 : List Int) : Option (List Int) :=
  (slices_Clone_J1 s1)

set_option maxRecDepth 100000 in
set_option maxHeartbeats 4000000 in
theorem slices_Clone_w  {A1 : Option Addr} {c1 : Nat} {n1 : Nat} {s1 : List Int} {r : (List Int)} {w0 w : World} {B : Nat} {fs : List HP} (hm : slices_Clone_m s1 = some r) (hS : Sep w0 B w (fs)) (hr_s1 : RdF w0 B fs A1 (vI s1)) (_hc_s1 : s1.length ≤ c1) (_hn_s1 : n1 = s1.length) :
    Calls Try.prog 102 #[.slice A1 n1 c1] w fun e w' => ∃ v, e = .returned v ∧ ∃ (A3 : Option Addr) (c3 : Nat), v = .slice A3 r.length c3 ∧ Sep w0 B w' (own 3 (.slice A3 r.length c3) (vI r) :: fs) := by
  obtain ⟨i3, hi3, hz3, hs3, hb3⟩ := info_parts Info3
  obtain rfl := _hn_s1
  unfold slices_Clone_m at hm
  replace hm := start_b hm
  refine enter (l := [.slice A1 s1.length c1]) (n := 8) Try.func102 rfl rfl (by simp) (fun a hF => ?_)
  refine reg [] [] [0] [pl 0 (.slice A1 s1.length c1)] hF hS Fol (by kernel_rfl) (by kernel_rfl) (by kernel_rfl) ?_ (fun a w hF hS => ?_)
  · exact obs_nil
  refine seq_cut (fun a w => Fr 8 [pl 0 (.slice A1 s1.length c1)] a ∧ Sep w0 B w (fs) ∧ ((slices_Clone_J1 s1)).bind some = some r) ?_ ?_
  · rintro a w ⟨hF, hS, hm⟩
    unfold slices_Clone_J1 at hm
    refine seqR ?_
    obtain ⟨hp1, hm⟩ := asrt_b hm
    refine at_do (d := 5) (s := vS (Instr.buildSlice 22 0 #[])) (v := .slice (some ⟨w.heap.size, 0, none⟩) 0 0) (w' := w.alloc (.cells #[] 3)) hF (by kernel_rfl) (by kernel_rfl) (by kernel_rfl) (fun a hF => ?_)
    have hS : Sep w0 B (w.alloc (.cells #[] 3)) (own 3 (.slice (some (⟨w.heap.size, 0, none⟩ : Addr)) 0 0) (vI ([] : List Int)) :: (fs)) := hS.lit 3 #[] 0 rfl (by omega)
    generalize (some (⟨w.heap.size, 0, none⟩ : Addr)) = g1 at hF hS
    generalize w.alloc (.cells #[] 3) = w at hS ⊢
    refine at_run 1 [] [] [5, 6] [pl 5 (.slice g1 0 0), pl 6 (.slice A1 s1.length c1)] hF hS (by kernel_rfl) (by kernel_rfl) ?_ (fun a w hF hS => ?_)
    · exact obs_nil
    obtain ⟨A2, c2, w, hrun, hS⟩ := run_app1 (P := Try.prog) (t := 22) (m := ([] : List Int)) (ys := s1) (A2 := A1) (m2 := s1.length) (c2 := c1) (Value.int .i64) (0 : Int) (hS.at_ 0 rfl) (hr_s1 _ (hS.dropN 1)) rfl 22 Und22 hi3 hz3 hs3 (by omega) rfl (fun _ => rfl) hp1
    have hS : Sep w0 B w (own 3 (.slice A2 ((([] : List Int) ++ s1).length) c2) (vI (([] : List Int) ++ s1)) :: fs) := hS
    refine at_do (d := 7) hF (by kernel_rfl) (by kernel_rfl) hrun (fun a hF => ?_)
    refine at_run 1 [] [] [2] [pl 2 (.slice A2 ((([] : List Int) ++ s1).length) c2)] hF hS (by kernel_rfl) (by kernel_rfl) ?_ (fun a w hF hS => ?_)
    · exact obs_nil
    refine at_end [2] [pl 2 (.slice A2 ((([] : List Int) ++ s1).length) c2)] hF rfl (by kernel_rfl) (fun hF => ?_)
    refine then_n ?_
    refine wpIn_ret ?_
    have hm : some (([] : List Int) ++ s1) = some r := hm
    obtain rfl := Option.some.inj hm
    exact retV (rs := [.tmp 2]) (vs := [.slice A2 ((([] : List Int) ++ s1).length) c2]) hF rfl (rv_t (by kernel_rfl) <| rv_nil) rfl ⟨_, rfl, A2, c2, rfl, hS⟩
  · refine reg [⟨true, [], vS (binOp .eql 22 (.slice A1 s1.length c1) (.slice none 0 0)), .bool A1.isNone⟩] [none, some (.bool A1.isNone)] [0, 4] [pl 0 (.slice A1 s1.length c1), pl 4 (.bool A1.isNone)] hF hS Fol (by kernel_rfl) (by kernel_rfl) (by kernel_rfl) ?_ (fun a w hF hS => ?_)
    · exact obs_cons (ob_isnil Und22 rfl) <| obs_nil
    refine cond_ev (t := 4) (b := A1.isNone) hF (by kernel_rfl) (fun hb => ?_) (fun hb => ?_)
    · have hA9 := Option.isNone_iff_eq_none.1 hb
      have hnil9 : s1 = [] := by have h9 := (hr_s1 _ (hS.dropN 0)); rw [hA9] at h9; exact h9.none_nil
      have hm : (some ([] : List Int)).bind some = some r := by rw [hnil9] at hm; simpa [asrt, bigN, slices_Clone_J1] using hm
      refine reg [] [] [2] [pl 2 (.slice none 0 0)] hF hS Fol (by kernel_rfl) (by kernel_rfl) (by kernel_rfl) ?_ (fun a w hF hS => ?_)
      · exact obs_nil
      refine wpIn_ret ?_
      refine then_r ?_
      have hS : Sep w0 B w (own 3 (.slice none 0 0) (vI ([] : List Int)) :: fs) := hS.nil 3
      have hl1 := (hS.at_ 0 rfl).len1
      have hS := (hS.at_ 0 rfl).reN hl1
      have hS : Sep w0 B w (own 3 (.slice none (([] : List Int).length) 0) (vI ([] : List Int)) :: fs) := hS
      have hm : some ([] : List Int) = some r := hm
      obtain rfl := Option.some.inj hm
      exact retV (rs := [.tmp 2]) (vs := [.slice none (([] : List Int).length) 0]) hF rfl (rv_t (by kernel_rfl) <| rv_nil) rfl ⟨_, rfl, none, 0, rfl, hS⟩
    · refine wpIn_skip ?_
      refine then_n ?_
      exact ⟨hF.weak [0] (by kernel_rfl), hS, hm⟩

noncomputable def nono_sure_J3  (z1 : Int) (line3 : List Int) (out3 : List Int) : Option (St (List Int × List Int × Int) (List Int)) :=
  some (.next (line3, out3, (w64 (z1 + 1))))

noncomputable def nono_sure_J5  (r2 : (List Int)) (line2 : List Int) (z1 : Int) (out4 : List Int) : Option (St (List Int × List Int × Int) (List Int)) :=
  asrt (0 ≤ z1 ∧ z1 < (r2.length : Int)) <| (nono_sure_J3 z1) ((line2.set (Int.toNat z1) 1).set (Int.toNat z1) (-1)) out4

noncomputable def nono_sure_J4  (clue1 : List Int) (r1 : Int) (r2 : (List Int)) (r3 : (List Int)) (line2 : List Int) (out1 : List Int) (z1 : Int) : Option (St (List Int × List Int × Int) (List Int)) :=
  asrt (0 ≤ z1 ∧ z1 < (r2.length : Int)) <| (nono_ways_m (line2.set (Int.toNat z1) 1) clue1).bind fun r4 => if (r4 == r1) then (asrt (0 ≤ z1 ∧ z1 < (r3.length : Int)) <| (nono_sure_J5 r2 line2 z1) (out1.set (Int.toNat z1) 1)) else (if (r4 == 0) then (asrt (0 ≤ z1 ∧ z1 < (r3.length : Int)) <| (nono_sure_J5 r2 line2 z1) (out1.set (Int.toNat z1) 0)) else ((nono_sure_J5 r2 line2 z1) out1))

noncomputable def nono_sure_J2  (clue1 : List Int) (r1 : Int) (r2 : (List Int)) (r3 : (List Int)) (line2 : List Int) (out1 : List Int) (z1 : Int) : Option (St (List Int × List Int × Int) (List Int)) :=
  asrt (0 ≤ z1 ∧ z1 < (r2.length : Int)) <| if ((decide ((0 : Int) ≤ (geti line2 z1))) || (r1 == 0)) then ((nono_sure_J3 z1) line2 out1) else ((nono_sure_J4 clue1 r1 r2 r3 line2 out1 z1))

noncomputable def nono_sure_J1  (r1 : Int) (out2 : List Int) : Option (List Int × Bool) :=
  some (out2, (decide ((0 : Int) < r1)))

noncomputable def nono_sure_K1  (r1 : Int) : (List Int) → Option (List Int × Bool) :=
  fun (x : (List Int)) => match x with | out2 => (nono_sure_J1 r1) out2

noncomputable def nono_sure_L1  (clue1 : List Int) (r1 : Int) (r2 : (List Int)) (r3 : (List Int)) : (List Int × List Int × Int) → Option (St (List Int × List Int × Int) (List Int)) :=
  fun (x : (List Int × List Int × Int)) => match x with | (line2, out1, z1) => if (decide (z1 < (r2.length : Int))) then ((nono_sure_J2 clue1 r1 r2 r3 line2 out1 z1)) else (some (.done out1))

noncomputable def nono_sure_m  (line1 : List Int) (clue1 : List Int) : Option (List Int × Bool) :=
  (nono_ways_m line1 clue1).bind fun r1 => (slices_Clone_m line1).bind fun r2 => (slices_Clone_m r2).bind fun r3 => (loop (nono_sure_L1 clue1 r1 r2 r3) (r2, r3, 0)).bind (nono_sure_K1 r1)

set_option maxRecDepth 100000 in
set_option maxHeartbeats 4000000 in
theorem nono_sure_w  {A1 : Option Addr} {c1 : Nat} {n1 : Nat} {line1 : List Int} {A2 : Option Addr} {c2 : Nat} {n2 : Nat} {clue1 : List Int} {r : (List Int × Bool)} {w0 w : World} {B : Nat} {fs : List HP} (hm : nono_sure_m line1 clue1 = some r) (hS : Sep w0 B w (fs)) (hr_line1 : RdF w0 B fs A1 (vI line1)) (_hc_line1 : line1.length ≤ c1) (_hn_line1 : n1 = line1.length) (hr_clue1 : RdF w0 B fs A2 (vI clue1)) (_hc_clue1 : clue1.length ≤ c2) (_hn_clue1 : n2 = clue1.length) :
    Calls Try.prog 115 #[.slice A1 n1 c1, .slice A2 n2 c2] w fun e w' => ∃ v, e = .returned v ∧ ∃ (A5 : Option Addr) (c5 : Nat), v = .tuple #[.slice A5 r.1.length c5, .bool r.2] ∧ Sep w0 B w' (own 3 (.slice A5 r.1.length c5) (vI r.1) :: fs) := by
  obtain ⟨i3, hi3, hz3, hs3, hb3⟩ := info_parts Info3
  obtain rfl := _hn_line1
  obtain rfl := _hn_clue1
  unfold nono_sure_m at hm
  replace hm := start_b hm
  refine enter (l := [.slice A1 line1.length c1, .slice A2 clue1.length c2]) (n := 54) Try.func115 rfl rfl (by simp) (fun a hF => ?_)
  refine reg [] [] [0, 1] [pl 0 (.slice A1 line1.length c1), pl 1 (.slice A2 clue1.length c2)] hF hS Fol (by kernel_rfl) (by kernel_rfl) (by kernel_rfl) ?_ (fun a w hF hS => ?_)
  · exact obs_nil
  obtain ⟨r1, hr1, hm⟩ := call_b hm
  refine reg [⟨false, [], callFunc 155 #[.slice A1 line1.length c1, .slice A2 clue1.length c2], .int .i64 r1⟩] [none, none, some (.int .i64 r1), none] [0, 1, 6] [pl 0 (.slice A1 line1.length c1), pl 1 (.slice A2 clue1.length c2), pl 6 (.int .i64 r1)] hF hS Fol (by kernel_rfl) (by kernel_rfl) (by kernel_rfl) ?_ (fun a w hF hS => ?_)
  · exact obs_cons (ob_call Try.func155 (by kernel_rfl) rfl (fun _ _ hS => nono_ways_w hr1 hS (fun _ hS => (hr_line1 _ (hS.dropN 0))) _hc_line1 rfl (fun _ hS => (hr_clue1 _ (hS.dropN 0))) _hc_clue1 rfl)) <| obs_nil
  refine seqR ?_
  obtain ⟨r2, hr2, hm⟩ := call_b hm
  refine at_run 1 [] [] [1, 6, 13] [pl 1 (.slice A2 clue1.length c2), pl 6 (.int .i64 r1), pl 13 (.slice A1 line1.length c1)] hF hS (by kernel_rfl) (by kernel_rfl) ?_ (fun a w hF hS => ?_)
  · exact obs_nil
  refine at_call (f := 102) (args := #[.slice A1 line1.length c1]) (d := 14) hF (by kernel_rfl) (by kernel_rfl) Try.func102 (by kernel_rfl) rfl (slices_Clone_w hr2 hS (fun _ hS => (hr_line1 _ (hS.dropN 0))) _hc_line1 rfl) (fun v a w hR hF => ?_)
  clear hS
  obtain ⟨A3, c3, rfl, hS⟩ := hR
  have hS : Sep w0 B w (own 3 (.slice A3 r2.length c3) (vI r2) :: fs) := hS
  refine at_run 1 [] [] [0, 1, 6] [pl 0 (.slice A3 r2.length c3), pl 1 (.slice A2 clue1.length c2), pl 6 (.int .i64 r1)] hF hS (by kernel_rfl) (by kernel_rfl) ?_ (fun a w hF hS => ?_)
  · exact obs_nil
  refine at_end [0, 1, 6] [pl 0 (.slice A3 r2.length c3), pl 1 (.slice A2 clue1.length c2), pl 6 (.int .i64 r1)] hF rfl (by kernel_rfl) (fun hF => ?_)
  refine then_n ?_
  refine seqR ?_
  obtain ⟨r3, hr3, hm⟩ := call_b hm
  refine at_run 1 [] [] [0, 1, 6, 15] [pl 0 (.slice A3 r2.length c3), pl 1 (.slice A2 clue1.length c2), pl 6 (.int .i64 r1), pl 15 (.slice A3 r2.length c3)] hF hS (by kernel_rfl) (by kernel_rfl) ?_ (fun a w hF hS => ?_)
  · exact obs_nil
  refine at_call (f := 102) (args := #[.slice A3 r2.length c3]) (d := 16) hF (by kernel_rfl) (by kernel_rfl) Try.func102 (by kernel_rfl) rfl (slices_Clone_w hr3 hS (fun _ hS => (hS.at_ 0 rfl).rd) ((hS.at_ 0 rfl).cap1) rfl) (fun v a w hR hF => ?_)
  clear hS
  obtain ⟨A4, c4, rfl, hS⟩ := hR
  have hS : Sep w0 B w (own 3 (.slice A4 r3.length c4) (vI r3) :: own 3 (.slice A3 r2.length c3) (vI r2) :: fs) := hS
  refine at_run 1 [] [] [0, 1, 6, 7] [pl 0 (.slice A3 r2.length c3), pl 1 (.slice A2 clue1.length c2), pl 6 (.int .i64 r1), pl 7 (.slice A4 r3.length c4)] hF hS (by kernel_rfl) (by kernel_rfl) ?_ (fun a w hF hS => ?_)
  · exact obs_nil
  refine at_end [0, 1, 6, 7] [pl 0 (.slice A3 r2.length c3), pl 1 (.slice A2 clue1.length c2), pl 6 (.int .i64 r1), pl 7 (.slice A4 r3.length c4)] hF rfl (by kernel_rfl) (fun hF => ?_)
  refine then_n ?_
  refine seq_cut (fun a w => ∃ (out2 : List Int), Fr 54 [pl 6 (.int .i64 r1), pl 7 (.slice A4 r3.length c4)] a ∧ Sep w0 B w (own 3 (.slice A4 r3.length c4) (vI out2) :: fs) ∧ ((nono_sure_J1 r1) out2).bind some = some r) ?_ ?_
  · rintro a w ⟨out2, hF, hS, hm⟩
    unfold nono_sure_J1 at hm
    refine reg [] [] [4, 5] [pl 4 (.slice A4 r3.length c4), pl 5 (.bool (decide ((0 : Int) < r1)))] hF hS Fol (by kernel_rfl) (by kernel_rfl) (by kernel_rfl) ?_ (fun a w hF hS => ?_)
    · exact obs_nil
    refine wpIn_ret ?_
    have hl1 := (hS.at_ 0 rfl).len1
    have hS := (hS.at_ 0 rfl).reN hl1
    have hS : Sep w0 B w (own 3 (.slice A4 out2.length c4) (vI out2) :: fs) := hS
    have hF := hF.cast (t := 4) (v := .slice A4 r3.length c4) (v' := .slice A4 out2.length c4) rfl rfl (congrArg (fun k => Value.slice A4 k c4) hl1)
    have hm : some (out2, (decide ((0 : Int) < r1))) = some r := hm
    obtain rfl := Option.some.inj hm
    exact retV (rs := [.tmp 4, .tmp 5]) (vs := [.slice A4 out2.length c4, .bool (decide ((0 : Int) < r1))]) hF rfl (rv_t (by kernel_rfl) <| rv_t (by kernel_rfl) <| rv_nil) rfl ⟨_, rfl, A4, c4, rfl, hS⟩
  · refine reg [] [] [0, 1, 6, 7, 17, 18, 19] [pl 0 (.slice A3 r2.length c3), pl 1 (.slice A2 clue1.length c2), pl 6 (.int .i64 r1), pl 7 (.slice A4 r3.length c4), pl 17 (.slice A3 r2.length c3), pl 18 (.int .i64 (r2.length : Int)), pl 19 (.int .i64 0)] hF hS Fol (by kernel_rfl) (by kernel_rfl) (by kernel_rfl) ?_ (fun a w hF hS => ?_)
    · exact obs_nil
    refine wpIn_block ?_
    have hS := hS.pickN 2 [1, 0] (by decide)
    refine wp_loop_model (S := (List Int × List Int × Int)) (R := (List Int)) (nono_sure_L1 clue1 r1 r2 r3) (fun x => ((nono_sure_K1 r1) x).bind some) r (fun (x : (List Int × List Int × Int)) a w => Fr 54 [pl 0 (.slice A3 r2.length c3), pl 1 (.slice A2 clue1.length c2), pl 6 (.int .i64 r1), pl 7 (.slice A4 r3.length c4), pl 17 (.slice A3 r2.length c3), pl 18 (.int .i64 (r2.length : Int)), pl 19 (.int .i64 x.2.2)] a ∧ Sep w0 B w (own 3 (.slice A3 r2.length c3) (vI x.1) :: own 3 (.slice A4 r3.length c4) (vI x.2.1) :: fs)) (assoc_b hm) ⟨hF.weak [0, 1, 6, 7, 17, 18, 19] (by kernel_rfl), hS⟩ ?_
    clear hF hS hm
    rintro nn1 ⟨line2, out1, z1⟩ a w ⟨hF, hS⟩ hm
    generalize hφ1 : stK (nono_sure_L1 clue1 r1 r2 r3) nn1 (fun x => ((nono_sure_K1 r1) x).bind some) = φ1 at hm
    unfold nono_sure_L1 at hm
    dsimp only at hF hS hm
    refine reg [] [] [0, 1, 6, 7, 17, 18, 19, 20] [pl 0 (.slice A3 r2.length c3), pl 1 (.slice A2 clue1.length c2), pl 6 (.int .i64 r1), pl 7 (.slice A4 r3.length c4), pl 17 (.slice A3 r2.length c3), pl 18 (.int .i64 (r2.length : Int)), pl 19 (.int .i64 z1), pl 20 (.bool (decide (z1 < (r2.length : Int))))] hF hS Fol (by kernel_rfl) (by kernel_rfl) (by kernel_rfl) ?_ (fun a w hF hS => ?_)
    · exact obs_nil
    refine seq_cut (fun a w => Fr 54 [pl 0 (.slice A3 r2.length c3), pl 1 (.slice A2 clue1.length c2), pl 6 (.int .i64 r1), pl 7 (.slice A4 r3.length c4), pl 17 (.slice A3 r2.length c3), pl 18 (.int .i64 (r2.length : Int)), pl 19 (.int .i64 z1)] a ∧ Sep w0 B w (own 3 (.slice A3 r2.length c3) (vI line2) :: own 3 (.slice A4 r3.length c4) (vI out1) :: fs) ∧ ((nono_sure_J2 clue1 r1 r2 r3 line2 out1 z1)).bind φ1 = some r) ?_ ?_
    · rintro a w ⟨hF, hS, hm⟩
      unfold nono_sure_J2 at hm
      refine seq_cut (fun a w => ∃ (line3 : List Int) (out3 : List Int), Fr 54 [pl 0 (.slice A3 r2.length c3), pl 1 (.slice A2 clue1.length c2), pl 6 (.int .i64 r1), pl 7 (.slice A4 r3.length c4), pl 17 (.slice A3 r2.length c3), pl 18 (.int .i64 (r2.length : Int)), pl 19 (.int .i64 z1)] a ∧ Sep w0 B w (own 3 (.slice A3 r2.length c3) (vI line3) :: own 3 (.slice A4 r3.length c4) (vI out3) :: fs) ∧ ((nono_sure_J3 z1) line3 out3).bind φ1 = some r) ?_ ?_
      · rintro a w ⟨line3, out3, hF, hS, hm⟩
        unfold nono_sure_J3 at hm
        refine reg1 [] [] [0, 1, 6, 7, 17, 18, 19] [pl 0 (.slice A3 r2.length c3), pl 1 (.slice A2 clue1.length c2), pl 6 (.int .i64 r1), pl 7 (.slice A4 r3.length c4), pl 17 (.slice A3 r2.length c3), pl 18 (.int .i64 (r2.length : Int)), pl 19 (.int .i64 (w64 (z1 + 1)))] hF hS Fol (by kernel_rfl) (by kernel_rfl) (by kernel_rfl) ?_ (fun a w hF hS => ?_)
        · exact obs_nil
        refine then_n ?_
        rw [← hφ1] at hm
        exact ⟨(line3, out3, (w64 (z1 + 1))), ⟨hF.weak [0, 1, 6, 7, 17, 18, 19] (by kernel_rfl), hS⟩, hm⟩
      · refine wpIn_block ?_
        obtain ⟨hp1, hm⟩ := asrt_b hm
        refine reg [⟨true, [], vS (Instr.indexAt 22 (.slice A3 r2.length c3) (.int .i64 z1)), .pointer (some (sAddr A3 z1))⟩, ⟨false, [], vS (Instr.loadAt 3 (.pointer (some (sAddr A3 z1)))), .int .i64 (geti line2 z1)⟩] [none, some (.pointer (some (sAddr A3 z1))), some (.int .i64 (geti line2 z1)), none, none] [0, 1, 6, 7, 8, 9, 17, 18, 19] [pl 0 (.slice A3 r2.length c3), pl 1 (.slice A2 clue1.length c2), pl 6 (.int .i64 r1), pl 7 (.slice A4 r3.length c4), pl 8 (.int .i64 z1), pl 9 (.int .i64 (geti line2 z1)), pl 17 (.slice A3 r2.length c3), pl 18 (.int .i64 (r2.length : Int)), pl 19 (.int .i64 z1)] hF hS Fol (by kernel_rfl) (by kernel_rfl) (by kernel_rfl) ?_ (fun a w hF hS => ?_)
        · exact obs_cons (ob_ix1 (f := (Value.int .i64)) (m := line2) Und22 hi3 hs3 (hS.at_ 0 rfl).rd ((hS.at_ 0 rfl).len1) (fun _ => hp1)) <| obs_cons (ob_get1 (n := r2.length) (m := line2) (Value.int .i64) (0 : Int) Agg3 (fun _ hS => ⟨_, (hS.at_ 0 rfl).rd⟩) (fun _ hS => ((hS.at_ 0 rfl).len1)) (fun _ => hp1)) <| obs_nil
        refine seq_cut (fun a w => Fr 54 [pl 0 (.slice A3 r2.length c3), pl 1 (.slice A2 clue1.length c2), pl 6 (.int .i64 r1), pl 7 (.slice A4 r3.length c4), pl 8 (.int .i64 z1), pl 17 (.slice A3 r2.length c3), pl 18 (.int .i64 (r2.length : Int)), pl 19 (.int .i64 z1)] a ∧ Sep w0 B w (own 3 (.slice A3 r2.length c3) (vI line2) :: own 3 (.slice A4 r3.length c4) (vI out1) :: fs) ∧ ((nono_sure_J4 clue1 r1 r2 r3 line2 out1 z1)).bind φ1 = some r) ?_ ?_
        · rintro a w ⟨hF, hS, hm⟩
          unfold nono_sure_J4 at hm
          refine seqR ?_
          obtain ⟨hp2, hm⟩ := asrt_b hm
          refine at_run 3 [⟨true, [], vS (Instr.indexAt 22 (.slice A3 r2.length c3) (.int .i64 z1)), .pointer (some (sAddr A3 z1))⟩] [none, none, some (.pointer (some (sAddr A3 z1)))] [0, 1, 6, 7, 8, 17, 18, 19, 32] [pl 0 (.slice A3 r2.length c3), pl 1 (.slice A2 clue1.length c2), pl 6 (.int .i64 r1), pl 7 (.slice A4 r3.length c4), pl 8 (.int .i64 z1), pl 17 (.slice A3 r2.length c3), pl 18 (.int .i64 (r2.length : Int)), pl 19 (.int .i64 z1), pl 32 (.pointer (some (sAddr A3 z1)))] hF hS (by kernel_rfl) (by kernel_rfl) ?_ (fun a w hF hS => ?_)
          · exact obs_cons (ob_ix1 (f := (Value.int .i64)) (m := line2) Und22 hi3 hs3 (hS.at_ 0 rfl).rd ((hS.at_ 0 rfl).len1) (fun _ => hp2)) <| obs_nil
          obtain ⟨w, hrun, hS⟩ := run_set1 (P := Try.prog) (t := 3) (x := 1) (Value.int .i64) (hS.at_ 0 rfl) hi3 hs3 rfl rfl hp2
          refine at_skip hF (by kernel_rfl) hrun ?_
          have hS : Sep w0 B w (own 3 (.slice A3 r2.length c3) (vI (line2.set (Int.toNat z1) 1)) :: own 3 (.slice A4 r3.length c4) (vI out1) :: fs) := hS
          refine at_end [0, 1, 6, 7, 8, 17, 18, 19] [pl 0 (.slice A3 r2.length c3), pl 1 (.slice A2 clue1.length c2), pl 6 (.int .i64 r1), pl 7 (.slice A4 r3.length c4), pl 8 (.int .i64 z1), pl 17 (.slice A3 r2.length c3), pl 18 (.int .i64 (r2.length : Int)), pl 19 (.int .i64 z1)] hF rfl (by kernel_rfl) (fun hF => ?_)
          refine then_n ?_
          refine seq_cut (fun a w => ∃ (out4 : List Int), Fr 54 [pl 0 (.slice A3 r2.length c3), pl 1 (.slice A2 clue1.length c2), pl 6 (.int .i64 r1), pl 7 (.slice A4 r3.length c4), pl 8 (.int .i64 z1), pl 17 (.slice A3 r2.length c3), pl 18 (.int .i64 (r2.length : Int)), pl 19 (.int .i64 z1)] a ∧ Sep w0 B w (own 3 (.slice A3 r2.length c3) (vI (line2.set (Int.toNat z1) 1)) :: own 3 (.slice A4 r3.length c4) (vI out4) :: fs) ∧ ((nono_sure_J5 r2 line2 z1) out4).bind φ1 = some r) ?_ ?_
          · rintro a w ⟨out4, hF, hS, hm⟩
            unfold nono_sure_J5 at hm
            refine oneR ?_
            obtain ⟨hp5, hm⟩ := asrt_b hm
            refine at_run 3 [⟨true, [], vS (Instr.indexAt 22 (.slice A3 r2.length c3) (.int .i64 z1)), .pointer (some (sAddr A3 z1))⟩] [none, none, some (.pointer (some (sAddr A3 z1)))] [0, 1, 6, 7, 17, 18, 19, 49] [pl 0 (.slice A3 r2.length c3), pl 1 (.slice A2 clue1.length c2), pl 6 (.int .i64 r1), pl 7 (.slice A4 r3.length c4), pl 17 (.slice A3 r2.length c3), pl 18 (.int .i64 (r2.length : Int)), pl 19 (.int .i64 z1), pl 49 (.pointer (some (sAddr A3 z1)))] hF hS (by kernel_rfl) (by kernel_rfl) ?_ (fun a w hF hS => ?_)
            · exact obs_cons (ob_ix1 (f := (Value.int .i64)) (m := (line2.set (Int.toNat z1) 1)) Und22 hi3 hs3 (hS.at_ 0 rfl).rd ((hS.at_ 0 rfl).len1) (fun _ => hp5)) <| obs_nil
            obtain ⟨w, hrun, hS⟩ := run_set1 (P := Try.prog) (t := 3) (x := (-1)) (Value.int .i64) (hS.at_ 0 rfl) hi3 hs3 rfl rfl hp5
            refine at_skip hF (by kernel_rfl) hrun ?_
            have hS : Sep w0 B w (own 3 (.slice A3 r2.length c3) (vI ((line2.set (Int.toNat z1) 1).set (Int.toNat z1) (-1))) :: own 3 (.slice A4 r3.length c4) (vI out4) :: fs) := hS
            refine at_end [0, 1, 6, 7, 17, 18, 19] [pl 0 (.slice A3 r2.length c3), pl 1 (.slice A2 clue1.length c2), pl 6 (.int .i64 r1), pl 7 (.slice A4 r3.length c4), pl 17 (.slice A3 r2.length c3), pl 18 (.int .i64 (r2.length : Int)), pl 19 (.int .i64 z1)] hF rfl (by kernel_rfl) (fun hF => ?_)
            refine block_n ?_
            refine then_n ?_
            exact ⟨((line2.set (Int.toNat z1) 1).set (Int.toNat z1) (-1)), out4, hF.weak [0, 1, 6, 7, 17, 18, 19] (by kernel_rfl), hS, hm⟩
          · obtain ⟨r4, hr4, hm⟩ := call_b hm
            refine reg [⟨false, [], callFunc 155 #[.slice A3 r2.length c3, .slice A2 clue1.length c2], .int .i64 r4⟩] [none, none, some (.int .i64 r4)] [0, 1, 6, 7, 8, 17, 18, 19, 35] [pl 0 (.slice A3 r2.length c3), pl 1 (.slice A2 clue1.length c2), pl 6 (.int .i64 r1), pl 7 (.slice A4 r3.length c4), pl 8 (.int .i64 z1), pl 17 (.slice A3 r2.length c3), pl 18 (.int .i64 (r2.length : Int)), pl 19 (.int .i64 z1), pl 35 (.int .i64 r4)] hF hS Fol (by kernel_rfl) (by kernel_rfl) (by kernel_rfl) ?_ (fun a w hF hS => ?_)
            · exact obs_cons (ob_call Try.func155 (by kernel_rfl) rfl (fun _ _ hS => nono_ways_w hr4 hS (fun _ hS => (hS.at_ 0 rfl).rd) ((hS.at_ 0 rfl).cap1) ((hS.at_ 0 rfl).len1) (fun _ hS => (hr_clue1 _ (hS.dropN 2))) _hc_clue1 rfl)) <| obs_nil
            refine wpIn_block ?_
            refine reg [] [] [0, 1, 6, 7, 8, 17, 18, 19, 35, 36] [pl 0 (.slice A3 r2.length c3), pl 1 (.slice A2 clue1.length c2), pl 6 (.int .i64 r1), pl 7 (.slice A4 r3.length c4), pl 8 (.int .i64 z1), pl 17 (.slice A3 r2.length c3), pl 18 (.int .i64 (r2.length : Int)), pl 19 (.int .i64 z1), pl 35 (.int .i64 r4), pl 36 (.bool (r4 == r1))] hF hS Fol (by kernel_rfl) (by kernel_rfl) (by kernel_rfl) ?_ (fun a w hF hS => ?_)
            · exact obs_nil
            refine cond_ev (t := 36) (b := (r4 == r1)) hF (by kernel_rfl) (fun hb => ?_) (fun hb => ?_)
            · replace hm := if_t hm hb
              refine oneR ?_
              obtain ⟨hp3, hm⟩ := asrt_b hm
              refine at_run 3 [⟨true, [], vS (Instr.indexAt 22 (.slice A4 r3.length c4) (.int .i64 z1)), .pointer (some (sAddr A4 z1))⟩] [none, none, some (.pointer (some (sAddr A4 z1)))] [0, 1, 6, 7, 8, 17, 18, 19, 41] [pl 0 (.slice A3 r2.length c3), pl 1 (.slice A2 clue1.length c2), pl 6 (.int .i64 r1), pl 7 (.slice A4 r3.length c4), pl 8 (.int .i64 z1), pl 17 (.slice A3 r2.length c3), pl 18 (.int .i64 (r2.length : Int)), pl 19 (.int .i64 z1), pl 41 (.pointer (some (sAddr A4 z1)))] hF hS (by kernel_rfl) (by kernel_rfl) ?_ (fun a w hF hS => ?_)
              · exact obs_cons (ob_ix1 (f := (Value.int .i64)) (m := out1) Und22 hi3 hs3 (hS.at_ 1 rfl).rd ((hS.at_ 1 rfl).len1) (fun _ => hp3)) <| obs_nil
              obtain ⟨w, hrun, hS⟩ := run_set1 (P := Try.prog) (t := 3) (x := 1) (Value.int .i64) (hS.at_ 1 rfl) hi3 hs3 rfl rfl hp3
              refine at_skip hF (by kernel_rfl) hrun ?_
              have hS : Sep w0 B w (own 3 (.slice A3 r2.length c3) (vI (line2.set (Int.toNat z1) 1)) :: own 3 (.slice A4 r3.length c4) (vI (out1.set (Int.toNat z1) 1)) :: fs) := hS
              refine at_end [0, 1, 6, 7, 8, 17, 18, 19] [pl 0 (.slice A3 r2.length c3), pl 1 (.slice A2 clue1.length c2), pl 6 (.int .i64 r1), pl 7 (.slice A4 r3.length c4), pl 8 (.int .i64 z1), pl 17 (.slice A3 r2.length c3), pl 18 (.int .i64 (r2.length : Int)), pl 19 (.int .i64 z1)] hF rfl (by kernel_rfl) (fun hF => ?_)
              refine block_n ?_
              refine then_n ?_
              exact ⟨(out1.set (Int.toNat z1) 1), hF.weak [0, 1, 6, 7, 8, 17, 18, 19] (by kernel_rfl), hS, hm⟩
            · replace hm := if_f hm hb
              refine reg [] [] [0, 1, 6, 7, 8, 17, 18, 19, 42] [pl 0 (.slice A3 r2.length c3), pl 1 (.slice A2 clue1.length c2), pl 6 (.int .i64 r1), pl 7 (.slice A4 r3.length c4), pl 8 (.int .i64 z1), pl 17 (.slice A3 r2.length c3), pl 18 (.int .i64 (r2.length : Int)), pl 19 (.int .i64 z1), pl 42 (.bool (r4 == 0))] hF hS Fol (by kernel_rfl) (by kernel_rfl) (by kernel_rfl) ?_ (fun a w hF hS => ?_)
              · exact obs_nil
              refine cond_ev (t := 42) (b := (r4 == 0)) hF (by kernel_rfl) (fun hb => ?_) (fun hb => ?_)
              · replace hm := if_t hm hb
                refine oneR ?_
                obtain ⟨hp4, hm⟩ := asrt_b hm
                refine at_run 3 [⟨true, [], vS (Instr.indexAt 22 (.slice A4 r3.length c4) (.int .i64 z1)), .pointer (some (sAddr A4 z1))⟩] [none, none, some (.pointer (some (sAddr A4 z1)))] [0, 1, 6, 7, 8, 17, 18, 19, 46] [pl 0 (.slice A3 r2.length c3), pl 1 (.slice A2 clue1.length c2), pl 6 (.int .i64 r1), pl 7 (.slice A4 r3.length c4), pl 8 (.int .i64 z1), pl 17 (.slice A3 r2.length c3), pl 18 (.int .i64 (r2.length : Int)), pl 19 (.int .i64 z1), pl 46 (.pointer (some (sAddr A4 z1)))] hF hS (by kernel_rfl) (by kernel_rfl) ?_ (fun a w hF hS => ?_)
                · exact obs_cons (ob_ix1 (f := (Value.int .i64)) (m := out1) Und22 hi3 hs3 (hS.at_ 1 rfl).rd ((hS.at_ 1 rfl).len1) (fun _ => hp4)) <| obs_nil
                obtain ⟨w, hrun, hS⟩ := run_set1 (P := Try.prog) (t := 3) (x := 0) (Value.int .i64) (hS.at_ 1 rfl) hi3 hs3 rfl rfl hp4
                refine at_skip hF (by kernel_rfl) hrun ?_
                have hS : Sep w0 B w (own 3 (.slice A3 r2.length c3) (vI (line2.set (Int.toNat z1) 1)) :: own 3 (.slice A4 r3.length c4) (vI (out1.set (Int.toNat z1) 0)) :: fs) := hS
                refine at_end [0, 1, 6, 7, 8, 17, 18, 19] [pl 0 (.slice A3 r2.length c3), pl 1 (.slice A2 clue1.length c2), pl 6 (.int .i64 r1), pl 7 (.slice A4 r3.length c4), pl 8 (.int .i64 z1), pl 17 (.slice A3 r2.length c3), pl 18 (.int .i64 (r2.length : Int)), pl 19 (.int .i64 z1)] hF rfl (by kernel_rfl) (fun hF => ?_)
                refine block_n ?_
                refine then_n ?_
                exact ⟨(out1.set (Int.toNat z1) 0), hF.weak [0, 1, 6, 7, 8, 17, 18, 19] (by kernel_rfl), hS, hm⟩
              · replace hm := if_f hm hb
                refine wpIn_skip ?_
                refine block_n ?_
                refine then_n ?_
                exact ⟨out1, hF.weak [0, 1, 6, 7, 8, 17, 18, 19] (by kernel_rfl), hS, hm⟩
        · refine reg [] [] [0, 1, 6, 7, 8, 17, 18, 19, 29] [pl 0 (.slice A3 r2.length c3), pl 1 (.slice A2 clue1.length c2), pl 6 (.int .i64 r1), pl 7 (.slice A4 r3.length c4), pl 8 (.int .i64 z1), pl 17 (.slice A3 r2.length c3), pl 18 (.int .i64 (r2.length : Int)), pl 19 (.int .i64 z1), pl 29 (.bool ((decide ((0 : Int) ≤ (geti line2 z1))) || (r1 == 0)))] hF hS Fol (by kernel_rfl) (by kernel_rfl) (by kernel_rfl) ?_ (fun a w hF hS => ?_)
          · exact obs_nil
          refine cond_ev (t := 29) (b := (decide ((0 : Int) ≤ (geti line2 z1))) || (r1 == 0)) hF (by kernel_rfl) (fun hb => ?_) (fun hb => ?_)
          · replace hm := if_t hm hb
            refine wpIn_exit ?_
            refine then_e (block_e (then_n ?_))
            exact ⟨line2, out1, hF.weak [0, 1, 6, 7, 17, 18, 19] (by kernel_rfl), hS, hm⟩
          · replace hm := if_f hm hb
            refine wpIn_skip ?_
            refine then_n ?_
            exact ⟨hF.weak [0, 1, 6, 7, 8, 17, 18, 19] (by kernel_rfl), hS, hm⟩
    · refine cond_ev (t := 20) (b := decide (z1 < (r2.length : Int))) hF (by kernel_rfl) (fun hb => ?_) (fun hb => ?_)
      · replace hm := if_t hm hb
        refine wpIn_skip ?_
        refine then_n ?_
        exact ⟨hF.weak [0, 1, 6, 7, 17, 18, 19] (by kernel_rfl), hS, hm⟩
      · replace hm := if_f hm hb
        refine wpIn_exit ?_
        refine then_e (then_e (block_e (then_n ?_)))
        have hS := hS.pickN 2 [1] (by decide)
        rw [← hφ1] at hm
        replace hm := done_b hm
        unfold nono_sure_K1 at hm
        try dsimp only at hm
        have hm : ((nono_sure_J1 r1) out1).bind some = some r := hm
        exact ⟨out1, hF.weak [6, 7] (by kernel_rfl), hS, hm⟩

noncomputable def slices_Equal_J4  (z1 : Int) : Option (St Int (Fl Unit Bool)) :=
  some (.next (w64 (z1 + 1)))

noncomputable def slices_Equal_J3  (s11 : List Int) (s21 : List Int) (z1 : Int) : Option (St Int (Fl Unit Bool)) :=
  asrt (0 ≤ z1 ∧ z1 < (s11.length : Int)) <| asrt (0 ≤ z1 ∧ z1 < (s21.length : Int)) <| if ((geti s11 z1) != (geti s21 z1)) then (some (.done (.ret false))) else ((slices_Equal_J4 z1))

noncomputable def slices_Equal_J2  : Option Bool :=
  some true

noncomputable def slices_Equal_K1  : (Fl Unit Bool) → Option Bool :=
  fun (x : (Fl Unit Bool)) => match x with | .go _ => slices_Equal_J2 | .ret x => some x

noncomputable def slices_Equal_L1  (s11 : List Int) (s21 : List Int) : Int → Option (St Int (Fl Unit Bool)) :=
  fun (x : Int) => match x with | z1 => if (decide (z1 < (s11.length : Int))) then ((slices_Equal_J3 s11 s21 z1)) else (some (.done (.go ())))

noncomputable def slices_Equal_J1  (s11 : List Int) (s21 : List Int) : Option Bool :=
  (loop (slices_Equal_L1 s11 s21) 0).bind slices_Equal_K1

noncomputable def slices_Equal_m  (s11 : List Int) (s21 : List Int) : Option Bool :=
  if ((s11.length : Int) != (s21.length : Int)) then (some false) else ((slices_Equal_J1 s11 s21))

set_option maxRecDepth 100000 in
set_option maxHeartbeats 4000000 in
theorem slices_Equal_w  {A1 : Option Addr} {c1 : Nat} {n1 : Nat} {s11 : List Int} {A2 : Option Addr} {c2 : Nat} {n2 : Nat} {s21 : List Int} {r : Bool} {w0 w : World} {B : Nat} {fs : List HP} (hm : slices_Equal_m s11 s21 = some r) (hS : Sep w0 B w (fs)) (hr_s11 : RdF w0 B fs A1 (vI s11)) (_hc_s11 : s11.length ≤ c1) (_hn_s11 : n1 = s11.length) (hr_s21 : RdF w0 B fs A2 (vI s21)) (_hc_s21 : s21.length ≤ c2) (_hn_s21 : n2 = s21.length) :
    Calls Try.prog 116 #[.slice A1 n1 c1, .slice A2 n2 c2] w fun e w' => e = .returned (.bool r) ∧ Sep w0 B w' (fs) := by
  obtain ⟨i3, hi3, hz3, hs3, hb3⟩ := info_parts Info3
  obtain rfl := _hn_s11
  obtain rfl := _hn_s21
  unfold slices_Equal_m at hm
  replace hm := start_b hm
  refine enter (l := [.slice A1 s11.length c1, .slice A2 s21.length c2]) (n := 26) Try.func116 rfl rfl (by simp) (fun a hF => ?_)
  refine reg [] [] [0, 1] [pl 0 (.slice A1 s11.length c1), pl 1 (.slice A2 s21.length c2)] hF hS Fol (by kernel_rfl) (by kernel_rfl) (by kernel_rfl) ?_ (fun a w hF hS => ?_)
  · exact obs_nil
  refine seq_cut (fun a w => Fr 26 [pl 0 (.slice A1 s11.length c1), pl 1 (.slice A2 s21.length c2)] a ∧ Sep w0 B w (fs) ∧ ((slices_Equal_J1 s11 s21)).bind some = some r) ?_ ?_
  · rintro a w ⟨hF, hS, hm⟩
    unfold slices_Equal_J1 at hm
    refine seq_cut (fun a w => Fr 26 [] a ∧ Sep w0 B w (fs) ∧ (slices_Equal_J2).bind some = some r) ?_ ?_
    · rintro a w ⟨hF, hS, hm⟩
      unfold slices_Equal_J2 at hm
      refine reg [] [] [4] [pl 4 (.bool true)] hF hS Fol (by kernel_rfl) (by kernel_rfl) (by kernel_rfl) ?_ (fun a w hF hS => ?_)
      · exact obs_nil
      refine wpIn_ret ?_
      have hm : some true = some r := hm
      obtain rfl := Option.some.inj hm
      exact retV (rs := [.tmp 4]) (vs := [.bool true]) hF rfl (rv_t (by kernel_rfl) <| rv_nil) rfl ⟨rfl, hS⟩
    · refine reg [] [] [0, 1, 12, 13] [pl 0 (.slice A1 s11.length c1), pl 1 (.slice A2 s21.length c2), pl 12 (.int .i64 (s11.length : Int)), pl 13 (.int .i64 0)] hF hS Fol (by kernel_rfl) (by kernel_rfl) (by kernel_rfl) ?_ (fun a w hF hS => ?_)
      · exact obs_nil
      refine wpIn_block ?_
      refine wp_loop_model (S := Int) (R := (Fl Unit Bool)) (slices_Equal_L1 s11 s21) (fun x => (slices_Equal_K1 x).bind some) r (fun (x : Int) a w => Fr 26 [pl 0 (.slice A1 s11.length c1), pl 1 (.slice A2 s21.length c2), pl 12 (.int .i64 (s11.length : Int)), pl 13 (.int .i64 x)] a ∧ Sep w0 B w (fs)) (assoc_b hm) ⟨hF.weak [0, 1, 12, 13] (by kernel_rfl), hS⟩ ?_
      clear hF hS hm
      rintro nn1 z1 a w ⟨hF, hS⟩ hm
      generalize hφ1 : stK (slices_Equal_L1 s11 s21) nn1 (fun x => (slices_Equal_K1 x).bind some) = φ1 at hm
      unfold slices_Equal_L1 at hm
      dsimp only at hm
      refine reg [] [] [0, 1, 12, 13, 14] [pl 0 (.slice A1 s11.length c1), pl 1 (.slice A2 s21.length c2), pl 12 (.int .i64 (s11.length : Int)), pl 13 (.int .i64 z1), pl 14 (.bool (decide (z1 < (s11.length : Int))))] hF hS Fol (by kernel_rfl) (by kernel_rfl) (by kernel_rfl) ?_ (fun a w hF hS => ?_)
      · exact obs_nil
      refine seq_cut (fun a w => Fr 26 [pl 0 (.slice A1 s11.length c1), pl 1 (.slice A2 s21.length c2), pl 12 (.int .i64 (s11.length : Int)), pl 13 (.int .i64 z1)] a ∧ Sep w0 B w (fs) ∧ ((slices_Equal_J3 s11 s21 z1)).bind φ1 = some r) ?_ ?_
      · rintro a w ⟨hF, hS, hm⟩
        unfold slices_Equal_J3 at hm
        refine seq_cut (fun a w => Fr 26 [pl 0 (.slice A1 s11.length c1), pl 1 (.slice A2 s21.length c2), pl 12 (.int .i64 (s11.length : Int)), pl 13 (.int .i64 z1)] a ∧ Sep w0 B w (fs) ∧ ((slices_Equal_J4 z1)).bind φ1 = some r) ?_ ?_
        · rintro a w ⟨hF, hS, hm⟩
          unfold slices_Equal_J4 at hm
          refine reg1 [] [] [0, 1, 12, 13] [pl 0 (.slice A1 s11.length c1), pl 1 (.slice A2 s21.length c2), pl 12 (.int .i64 (s11.length : Int)), pl 13 (.int .i64 (w64 (z1 + 1)))] hF hS Fol (by kernel_rfl) (by kernel_rfl) (by kernel_rfl) ?_ (fun a w hF hS => ?_)
          · exact obs_nil
          refine then_n ?_
          rw [← hφ1] at hm
          exact ⟨(w64 (z1 + 1)), ⟨hF.weak [0, 1, 12, 13] (by kernel_rfl), hS⟩, hm⟩
        · refine wpIn_block ?_
          refine reg [] [] [0, 1, 5, 12, 13] [pl 0 (.slice A1 s11.length c1), pl 1 (.slice A2 s21.length c2), pl 5 (.int .i64 z1), pl 12 (.int .i64 (s11.length : Int)), pl 13 (.int .i64 z1)] hF hS Fol (by kernel_rfl) (by kernel_rfl) (by kernel_rfl) ?_ (fun a w hF hS => ?_)
          · exact obs_nil
          obtain ⟨hp1, hm⟩ := asrt_b hm
          obtain ⟨hp2, hm⟩ := asrt_b hm
          refine reg [⟨true, [], vS (Instr.indexAt 22 (.slice A1 s11.length c1) (.int .i64 z1)), .pointer (some (sAddr A1 z1))⟩, ⟨false, [], vS (Instr.loadAt 3 (.pointer (some (sAddr A1 z1)))), .int .i64 (geti s11 z1)⟩, ⟨true, [], vS (Instr.indexAt 22 (.slice A2 s21.length c2) (.int .i64 z1)), .pointer (some (sAddr A2 z1))⟩, ⟨false, [], vS (Instr.loadAt 3 (.pointer (some (sAddr A2 z1)))), .int .i64 (geti s21 z1)⟩] [none, none, some (.pointer (some (sAddr A1 z1))), some (.int .i64 (geti s11 z1)), none, none, some (.pointer (some (sAddr A2 z1))), some (.int .i64 (geti s21 z1)), none] [0, 1, 12, 13, 24] [pl 0 (.slice A1 s11.length c1), pl 1 (.slice A2 s21.length c2), pl 12 (.int .i64 (s11.length : Int)), pl 13 (.int .i64 z1), pl 24 (.bool ((geti s11 z1) != (geti s21 z1)))] hF hS Fol (by kernel_rfl) (by kernel_rfl) (by kernel_rfl) ?_ (fun a w hF hS => ?_)
          · exact obs_cons (ob_ix1 (f := (Value.int .i64)) (m := s11) Und22 hi3 hs3 (hr_s11 _ (hS.dropN 0)) rfl (fun _ => hp1)) <| obs_cons (ob_get1 (n := s11.length) (m := s11) (Value.int .i64) (0 : Int) Agg3 (fun _ hS => ⟨_, (hr_s11 _ (hS.dropN 0))⟩) (fun _ hS => rfl) (fun _ => hp1)) <| obs_cons (ob_ix1 (f := (Value.int .i64)) (m := s21) Und22 hi3 hs3 (hr_s21 _ (hS.dropN 0)) rfl (fun _ => hp2)) <| obs_cons (ob_get1 (n := s21.length) (m := s21) (Value.int .i64) (0 : Int) Agg3 (fun _ hS => ⟨_, (hr_s21 _ (hS.dropN 0))⟩) (fun _ hS => rfl) (fun _ => hp2)) <| obs_nil
          refine cond_ev (t := 24) (b := ((geti s11 z1) != (geti s21 z1))) hF (by kernel_rfl) (fun hb => ?_) (fun hb => ?_)
          · replace hm := if_t hm hb
            refine reg [] [] [4] [pl 4 (.bool false)] hF hS Fol (by kernel_rfl) (by kernel_rfl) (by kernel_rfl) ?_ (fun a w hF hS => ?_)
            · exact obs_nil
            refine wpIn_ret ?_
            refine block_r (then_r (then_r (block_r (then_r ?_))))
            rw [← hφ1] at hm
            replace hm := done_b hm
            unfold slices_Equal_K1 at hm
            try dsimp only at hm
            have hm : some false = some r := hm
            obtain rfl := Option.some.inj hm
            exact retV (rs := [.tmp 4]) (vs := [.bool false]) hF rfl (rv_t (by kernel_rfl) <| rv_nil) rfl ⟨rfl, hS⟩
          · replace hm := if_f hm hb
            refine wpIn_skip ?_
            refine block_n ?_
            refine then_n ?_
            exact ⟨hF.weak [0, 1, 12, 13] (by kernel_rfl), hS, hm⟩
      · refine cond_ev (t := 14) (b := decide (z1 < (s11.length : Int))) hF (by kernel_rfl) (fun hb => ?_) (fun hb => ?_)
        · replace hm := if_t hm hb
          refine wpIn_skip ?_
          refine then_n ?_
          exact ⟨hF.weak [0, 1, 12, 13] (by kernel_rfl), hS, hm⟩
        · replace hm := if_f hm hb
          refine wpIn_exit ?_
          refine then_e (then_e (block_e (then_n ?_)))
          rw [← hφ1] at hm
          replace hm := done_b hm
          unfold slices_Equal_K1 at hm
          try dsimp only at hm
          have hm : (slices_Equal_J2).bind some = some r := hm
          exact ⟨hF.weak [] (by kernel_rfl), hS, hm⟩
  · refine reg [] [] [0, 1, 10] [pl 0 (.slice A1 s11.length c1), pl 1 (.slice A2 s21.length c2), pl 10 (.bool ((s11.length : Int) != (s21.length : Int)))] hF hS Fol (by kernel_rfl) (by kernel_rfl) (by kernel_rfl) ?_ (fun a w hF hS => ?_)
    · exact obs_nil
    refine cond_ev (t := 10) (b := ((s11.length : Int) != (s21.length : Int))) hF (by kernel_rfl) (fun hb => ?_) (fun hb => ?_)
    · replace hm := if_t hm hb
      refine reg [] [] [4] [pl 4 (.bool false)] hF hS Fol (by kernel_rfl) (by kernel_rfl) (by kernel_rfl) ?_ (fun a w hF hS => ?_)
      · exact obs_nil
      refine wpIn_ret ?_
      refine then_r ?_
      have hm : some false = some r := hm
      obtain rfl := Option.some.inj hm
      exact retV (rs := [.tmp 4]) (vs := [.bool false]) hF rfl (rv_t (by kernel_rfl) <| rv_nil) rfl ⟨rfl, hS⟩
    · replace hm := if_f hm hb
      refine wpIn_skip ?_
      refine then_n ?_
      exact ⟨hF.weak [0, 1] (by kernel_rfl), hS, hm⟩

noncomputable def nono_picture_column_J3  (z1 : Int) (l3 : List Int) : Option (St (List Int × Int) (List Int)) :=
  some (.next (l3, (w64 (z1 + 1))))

noncomputable def nono_picture_column_J2  (p_cells1 : List (List Int)) (x1 : Int) (l1 : List Int) (z1 : Int) : Option (St (List Int × Int) (List Int)) :=
  asrt (0 ≤ z1 ∧ z1 < (p_cells1.length : Int)) <| asrt (0 ≤ x1 ∧ x1 < (((geti2 p_cells1 z1).length : Nat) : Int)) <| asrt ((l1.length : Int) + 1 ≤ bigN) <| (nono_picture_column_J3 z1) (l1 ++ ([geti (geti2 p_cells1 z1) x1] : List Int))

noncomputable def nono_picture_column_J1  (l2 : List Int) : Option (List Int) :=
  some l2

noncomputable def nono_picture_column_K1  : (List Int) → Option (List Int) :=
  fun (x : (List Int)) => match x with | l2 => nono_picture_column_J1 l2

noncomputable def nono_picture_column_L1  (p_cells1 : List (List Int)) (x1 : Int) : (List Int × Int) → Option (St (List Int × Int) (List Int)) :=
  fun (x : (List Int × Int)) => match x with | (l1, z1) => if (decide (z1 < (p_cells1.length : Int))) then ((nono_picture_column_J2 p_cells1 x1 l1 z1)) else (some (.done l1))

noncomputable def nono_picture_column_m  (p_rows1 : List (List Int)) (p_columns1 : List (List Int)) (p_cells1 : List (List Int)) (x1 : Int) : Option (List Int) :=
  (loop (nono_picture_column_L1 p_cells1 x1) (([] : List Int), 0)).bind nono_picture_column_K1

set_option maxRecDepth 100000 in
set_option maxHeartbeats 4000000 in
theorem nono_picture_column_w  {g1 : Nat} {A1 : Option Addr} {c1 : Nat} {n1 : Nat} {hd1 : List Hd} {p_rows1 : List (List Int)} {A2 : Option Addr} {c2 : Nat} {n2 : Nat} {hd2 : List Hd} {p_columns1 : List (List Int)} {A3 : Option Addr} {c3 : Nat} {n3 : Nat} {hd3 : List Hd} {p_cells1 : List (List Int)} {x1 : Int} {r : (List Int)} {w0 w : World} {B : Nat} {fs : List HP} (hm : nono_picture_column_m p_rows1 p_columns1 p_cells1 x1 = some r) (hS : Sep w0 B w (blk g1 109 #[.slice A1 n1 c1, .slice A2 n2 c2, .slice A3 n3 c3] :: rows 22 3 (.slice A3 n3 c3) hd3 p_cells1 :: fs)) (hr_p_rows1 : RdRowsF w0 B fs A1 hd1 p_rows1) (_hc_p_rows1 : p_rows1.length ≤ c1) (_hn_p_rows1 : n1 = p_rows1.length) (hr_p_columns1 : RdRowsF w0 B fs A2 hd2 p_columns1) (_hc_p_columns1 : p_columns1.length ≤ c2) (_hn_p_columns1 : n2 = p_columns1.length) :
    Calls Try.prog 117 #[.pointer (some ⟨g1, 0, none⟩), .int .i64 x1] w fun e w' => ∃ v, e = .returned v ∧ ∃ (A8 : Option Addr) (c8 : Nat), v = .slice A8 r.length c8 ∧ Sep w0 B w' (blk g1 109 #[.slice A1 n1 c1, .slice A2 n2 c2, .slice A3 n3 c3] :: rows 22 3 (.slice A3 n3 c3) hd3 p_cells1 :: own 3 (.slice A8 r.length c8) (vI r) :: fs) := by
  obtain ⟨i3, hi3, hz3, hs3, hb3⟩ := info_parts Info3
  obtain ⟨i22, hi22, hz22, hs22, hb22⟩ := info_parts Info22
  obtain rfl := (hS.at_ 1 rfl).lenR
  obtain rfl := _hn_p_rows1
  obtain rfl := _hn_p_columns1
  unfold nono_picture_column_m at hm
  replace hm := start_b hm
  refine enter (l := [.pointer (some ⟨g1, 0, none⟩), .int .i64 x1]) (n := 26) Try.func117 rfl rfl (by simp) (fun a hF => ?_)
  refine reg [] [] [0, 1] [pl 0 (.pointer (some ⟨g1, 0, none⟩)), pl 1 (.int .i64 x1)] hF hS Fol (by kernel_rfl) (by kernel_rfl) (by kernel_rfl) ?_ (fun a w hF hS => ?_)
  · exact obs_nil
  refine reg [] [] [0, 1, 5] [pl 0 (.pointer (some ⟨g1, 0, none⟩)), pl 1 (.int .i64 x1), pl 5 (.slice none 0 0)] hF hS Fol (by kernel_rfl) (by kernel_rfl) (by kernel_rfl) ?_ (fun a w hF hS => ?_)
  · exact obs_nil
  refine seq_cut (fun a w => ∃ (l2 : List Int) (A5 : Option Addr) (c5 : Nat), Fr 26 [pl 5 (.slice A5 l2.length c5)] a ∧ Sep w0 B w (own 3 (.slice A5 l2.length c5) (vI l2) :: blk g1 109 #[.slice A1 p_rows1.length c1, .slice A2 p_columns1.length c2, .slice A3 p_cells1.length c3] :: rows 22 3 (.slice A3 p_cells1.length c3) hd3 p_cells1 :: fs) ∧ (nono_picture_column_J1 l2).bind some = some r) ?_ ?_
  · rintro a w ⟨l2, A5, c5, hF, hS, hm⟩
    unfold nono_picture_column_J1 at hm
    refine reg [] [] [4] [pl 4 (.slice A5 l2.length c5)] hF hS Fol (by kernel_rfl) (by kernel_rfl) (by kernel_rfl) ?_ (fun a w hF hS => ?_)
    · exact obs_nil
    refine wpIn_ret ?_
    have hS := hS.pickN 3 [1, 2, 0] (by decide)
    have hm : some l2 = some r := hm
    obtain rfl := Option.some.inj hm
    exact retV (rs := [.tmp 4]) (vs := [.slice A5 l2.length c5]) hF rfl (rv_t (by kernel_rfl) <| rv_nil) rfl ⟨_, rfl, A5, c5, rfl, hS⟩
  · refine reg [⟨false, [], vS (Instr.loadAt 36 (.pointer (some ⟨g1, 2, none⟩))), .slice A3 p_cells1.length c3⟩] [none, none, none, some (.slice A3 p_cells1.length c3), none, none] [1, 5, 11, 12, 13] [pl 1 (.int .i64 x1), pl 5 (.slice none 0 0), pl 11 (.slice A3 p_cells1.length c3), pl 12 (.int .i64 (p_cells1.length : Int)), pl 13 (.int .i64 0)] hF hS Fol (by kernel_rfl) (by kernel_rfl) (by kernel_rfl) ?_ (fun a w hF hS => ?_)
    · exact obs_cons (ob_load Agg36 (fun _ _ hS => (hS.at_ 0 rfl).cell rfl)) <| obs_nil
    refine wpIn_block ?_
    have hS : Sep w0 B w (own 3 (.slice none 0 0) (vI ([] : List Int)) :: blk g1 109 #[.slice A1 p_rows1.length c1, .slice A2 p_columns1.length c2, .slice A3 p_cells1.length c3] :: rows 22 3 (.slice A3 p_cells1.length c3) hd3 p_cells1 :: fs) := hS.nil 3
    have hl1 := (hS.at_ 0 rfl).len1
    have hS := (hS.at_ 0 rfl).reN hl1
    have hS : Sep w0 B w (own 3 (.slice none (([] : List Int).length) 0) (vI ([] : List Int)) :: blk g1 109 #[.slice A1 p_rows1.length c1, .slice A2 p_columns1.length c2, .slice A3 p_cells1.length c3] :: rows 22 3 (.slice A3 p_cells1.length c3) hd3 p_cells1 :: fs) := hS
    have hF := hF.cast (t := 5) (v := .slice none 0 0) (v' := .slice none (([] : List Int).length) 0) rfl rfl (congrArg (fun k => Value.slice none k 0) hl1)
    have hS := hS.pickN 3 [0, 2, 1] (by decide)
    refine wp_loop_model (S := (List Int × Int)) (R := (List Int)) (nono_picture_column_L1 p_cells1 x1) (fun x => (nono_picture_column_K1 x).bind some) r (fun (x : (List Int × Int)) a w => ∃ (A4 : Option Addr) (c4 : Nat), Fr 26 [pl 1 (.int .i64 x1), pl 5 (.slice A4 x.1.length c4), pl 11 (.slice A3 p_cells1.length c3), pl 12 (.int .i64 (p_cells1.length : Int)), pl 13 (.int .i64 x.2)] a ∧ Sep w0 B w (own 3 (.slice A4 x.1.length c4) (vI x.1) :: rows 22 3 (.slice A3 p_cells1.length c3) hd3 p_cells1 :: blk g1 109 #[.slice A1 p_rows1.length c1, .slice A2 p_columns1.length c2, .slice A3 p_cells1.length c3] :: fs)) (assoc_b hm) ⟨none, 0, hF.weak [1, 5, 11, 12, 13] (by kernel_rfl), hS⟩ ?_
    clear hF hS hm
    rintro nn1 ⟨l1, z1⟩ a w ⟨A4, c4, hF, hS⟩ hm
    generalize hφ1 : stK (nono_picture_column_L1 p_cells1 x1) nn1 (fun x => (nono_picture_column_K1 x).bind some) = φ1 at hm
    unfold nono_picture_column_L1 at hm
    dsimp only at hF hS hm
    refine reg [] [] [1, 5, 11, 12, 13, 14] [pl 1 (.int .i64 x1), pl 5 (.slice A4 l1.length c4), pl 11 (.slice A3 p_cells1.length c3), pl 12 (.int .i64 (p_cells1.length : Int)), pl 13 (.int .i64 z1), pl 14 (.bool (decide (z1 < (p_cells1.length : Int))))] hF hS Fol (by kernel_rfl) (by kernel_rfl) (by kernel_rfl) ?_ (fun a w hF hS => ?_)
    · exact obs_nil
    refine seq_cut (fun a w => Fr 26 [pl 1 (.int .i64 x1), pl 5 (.slice A4 l1.length c4), pl 11 (.slice A3 p_cells1.length c3), pl 12 (.int .i64 (p_cells1.length : Int)), pl 13 (.int .i64 z1)] a ∧ Sep w0 B w (own 3 (.slice A4 l1.length c4) (vI l1) :: rows 22 3 (.slice A3 p_cells1.length c3) hd3 p_cells1 :: blk g1 109 #[.slice A1 p_rows1.length c1, .slice A2 p_columns1.length c2, .slice A3 p_cells1.length c3] :: fs) ∧ ((nono_picture_column_J2 p_cells1 x1 l1 z1)).bind φ1 = some r) ?_ ?_
    · rintro a w ⟨hF, hS, hm⟩
      unfold nono_picture_column_J2 at hm
      refine seq_cut (fun a w => ∃ (l3 : List Int) (A7 : Option Addr) (c7 : Nat), Fr 26 [pl 1 (.int .i64 x1), pl 5 (.slice A7 l3.length c7), pl 11 (.slice A3 p_cells1.length c3), pl 12 (.int .i64 (p_cells1.length : Int)), pl 13 (.int .i64 z1)] a ∧ Sep w0 B w (own 3 (.slice A7 l3.length c7) (vI l3) :: rows 22 3 (.slice A3 p_cells1.length c3) hd3 p_cells1 :: blk g1 109 #[.slice A1 p_rows1.length c1, .slice A2 p_columns1.length c2, .slice A3 p_cells1.length c3] :: fs) ∧ ((nono_picture_column_J3 z1) l3).bind φ1 = some r) ?_ ?_
      · rintro a w ⟨l3, A7, c7, hF, hS, hm⟩
        unfold nono_picture_column_J3 at hm
        refine reg1 [] [] [1, 5, 11, 12, 13] [pl 1 (.int .i64 x1), pl 5 (.slice A7 l3.length c7), pl 11 (.slice A3 p_cells1.length c3), pl 12 (.int .i64 (p_cells1.length : Int)), pl 13 (.int .i64 (w64 (z1 + 1)))] hF hS Fol (by kernel_rfl) (by kernel_rfl) (by kernel_rfl) ?_ (fun a w hF hS => ?_)
        · exact obs_nil
        refine then_n ?_
        rw [← hφ1] at hm
        exact ⟨(l3, (w64 (z1 + 1))), ⟨A7, c7, hF.weak [1, 5, 11, 12, 13] (by kernel_rfl), hS⟩, hm⟩
      · refine wpIn_block ?_
        obtain ⟨hp1, hm⟩ := asrt_b hm
        have hb1 := rowb (n := p_cells1.length) (hS.at_ 1 rfl).lenR hp1
        refine reg [⟨true, [], vS (Instr.indexAt 36 (.slice A3 p_cells1.length c3) (.int .i64 z1)), .pointer (some (sAddr A3 z1))⟩, ⟨false, [], vS (Instr.loadAt 22 (.pointer (some (sAddr A3 z1)))), .slice (hdA hd3 z1) ((geti2 p_cells1 z1).length) (hdC hd3 z1)⟩] [some (.pointer (some (sAddr A3 z1))), some (.slice (hdA hd3 z1) ((geti2 p_cells1 z1).length) (hdC hd3 z1)), none] [1, 5, 7, 11, 12, 13] [pl 1 (.int .i64 x1), pl 5 (.slice A4 l1.length c4), pl 7 (.slice (hdA hd3 z1) ((geti2 p_cells1 z1).length) (hdC hd3 z1)), pl 11 (.slice A3 p_cells1.length c3), pl 12 (.int .i64 (p_cells1.length : Int)), pl 13 (.int .i64 z1)] hF hS Fol (by kernel_rfl) (by kernel_rfl) (by kernel_rfl) ?_ (fun a w hF hS => ?_)
        · exact obs_cons (ob_ixRn Und36 hi22 hs22 (hS.at_ 1 rfl).rdRows (hS.at_ 1 rfl).lenR (fun _ => hp1)) <| obs_cons (ob_getR Agg22 (fun _ hS => ⟨_, (hS.at_ 1 rfl).rdRows⟩) (fun _ => hb1)) <| obs_nil
        refine oneR ?_
        obtain ⟨hp2, hm⟩ := asrt_b hm
        obtain ⟨hp3, hm⟩ := asrt_b hm
        refine at_run 5 [⟨true, [], vS (Instr.indexAt 22 (.slice (hdA hd3 z1) ((geti2 p_cells1 z1).length) (hdC hd3 z1)) (.int .i64 x1)), .pointer (some (sAddr (hdA hd3 z1) x1))⟩, ⟨false, [], vS (Instr.loadAt 3 (.pointer (some (sAddr (hdA hd3 z1) x1)))), .int .i64 (geti (geti2 p_cells1 z1) x1)⟩] [none, none, none, some (.pointer (some (sAddr (hdA hd3 z1) x1))), some (.int .i64 (geti (geti2 p_cells1 z1) x1))] [1, 11, 12, 13, 17, 21] [pl 1 (.int .i64 x1), pl 11 (.slice A3 p_cells1.length c3), pl 12 (.int .i64 (p_cells1.length : Int)), pl 13 (.int .i64 z1), pl 17 (.slice A4 l1.length c4), pl 21 (.int .i64 (geti (geti2 p_cells1 z1) x1))] hF hS (by kernel_rfl) (by kernel_rfl) ?_ (fun a w hF hS => ?_)
        · exact obs_cons (ob_ix1 (f := (Value.int .i64)) (m := (geti2 p_cells1 z1)) Und22 hi3 hs3 ((hS.at_ 1 rfl).rdRows.row _ hb1).1 rfl (fun _ => hp2)) <| obs_cons (ob_get1 (n := (geti2 p_cells1 z1).length) (m := (geti2 p_cells1 z1)) (Value.int .i64) (0 : Int) Agg3 (fun _ hS => ⟨_, ((hS.at_ 1 rfl).rdRows.row _ hb1).1⟩) (fun _ hS => rfl) (fun _ => hp2)) <| obs_nil
        refine at_do (d := 22) (s := vS (Instr.buildSlice 22 1 #[(0, .int .i64 (geti (geti2 p_cells1 z1) x1))])) (v := .slice (some ⟨w.heap.size, 0, none⟩) 1 1) (w' := w.alloc (.cells #[.int .i64 (geti (geti2 p_cells1 z1) x1)] 3)) hF (by kernel_rfl) (by kernel_rfl) (by kernel_rfl) (fun a hF => ?_)
        have hS : Sep w0 B (w.alloc (.cells #[.int .i64 (geti (geti2 p_cells1 z1) x1)] 3)) (own 3 (.slice (some (⟨w.heap.size, 0, none⟩ : Addr)) 1 1) (vI ([geti (geti2 p_cells1 z1) x1] : List Int)) :: (own 3 (.slice A4 l1.length c4) (vI l1) :: rows 22 3 (.slice A3 p_cells1.length c3) hd3 p_cells1 :: blk g1 109 #[.slice A1 p_rows1.length c1, .slice A2 p_columns1.length c2, .slice A3 p_cells1.length c3] :: fs)) := hS.lit 3 #[.int .i64 (geti (geti2 p_cells1 z1) x1)] 1 rfl (by omega)
        generalize (some (⟨w.heap.size, 0, none⟩ : Addr)) = g2 at hF hS
        generalize w.alloc (.cells #[.int .i64 (geti (geti2 p_cells1 z1) x1)] 3) = w at hS ⊢
        obtain ⟨A6, c6, w, hrun, hS⟩ := run_app1 (P := Try.prog) (t := 22) (m := l1) (ys := ([geti (geti2 p_cells1 z1) x1] : List Int)) (A2 := g2) (m2 := 1) (c2 := 1) (Value.int .i64) (0 : Int) (hS.at_ 1 rfl) (hS.at_ 0 rfl).rd ((hS.at_ 0 rfl).len1) 22 Und22 hi3 hz3 hs3 (by omega) rfl (fun _ => rfl) hp3
        have hS : Sep w0 B w (own 3 (.slice g2 1 1) (vI ([geti (geti2 p_cells1 z1) x1] : List Int)) :: own 3 (.slice A6 ((l1 ++ ([geti (geti2 p_cells1 z1) x1] : List Int)).length) c6) (vI (l1 ++ ([geti (geti2 p_cells1 z1) x1] : List Int))) :: rows 22 3 (.slice A3 p_cells1.length c3) hd3 p_cells1 :: blk g1 109 #[.slice A1 p_rows1.length c1, .slice A2 p_columns1.length c2, .slice A3 p_cells1.length c3] :: fs) := hS
        refine at_do (d := 23) hF (by kernel_rfl) (by kernel_rfl) hrun (fun a hF => ?_)
        refine at_run 1 [] [] [1, 5, 11, 12, 13] [pl 1 (.int .i64 x1), pl 5 (.slice A6 ((l1 ++ ([geti (geti2 p_cells1 z1) x1] : List Int)).length) c6), pl 11 (.slice A3 p_cells1.length c3), pl 12 (.int .i64 (p_cells1.length : Int)), pl 13 (.int .i64 z1)] hF hS (by kernel_rfl) (by kernel_rfl) ?_ (fun a w hF hS => ?_)
        · exact obs_nil
        refine at_end [1, 5, 11, 12, 13] [pl 1 (.int .i64 x1), pl 5 (.slice A6 ((l1 ++ ([geti (geti2 p_cells1 z1) x1] : List Int)).length) c6), pl 11 (.slice A3 p_cells1.length c3), pl 12 (.int .i64 (p_cells1.length : Int)), pl 13 (.int .i64 z1)] hF rfl (by kernel_rfl) (fun hF => ?_)
        refine block_n ?_
        refine then_n ?_
        have hS := hS.pickN 4 [1, 2, 3] (by decide)
        exact ⟨(l1 ++ ([geti (geti2 p_cells1 z1) x1] : List Int)), A6, c6, hF.weak [1, 5, 11, 12, 13] (by kernel_rfl), hS, hm⟩
    · refine cond_ev (t := 14) (b := decide (z1 < (p_cells1.length : Int))) hF (by kernel_rfl) (fun hb => ?_) (fun hb => ?_)
      · replace hm := if_t hm hb
        refine wpIn_skip ?_
        refine then_n ?_
        exact ⟨hF.weak [1, 5, 11, 12, 13] (by kernel_rfl), hS, hm⟩
      · replace hm := if_f hm hb
        refine wpIn_exit ?_
        refine then_e (then_e (block_e (then_n ?_)))
        have hS := hS.pickN 3 [0, 2, 1] (by decide)
        rw [← hφ1] at hm
        replace hm := done_b hm
        unfold nono_picture_column_K1 at hm
        try dsimp only at hm
        have hm : (nono_picture_column_J1 l1).bind some = some r := hm
        exact ⟨l1, A4, c4, hF.weak [5] (by kernel_rfl), hS, hm⟩

noncomputable def nono_picture_push_2_J5  (z1 : Int) (p6 : List (List Int)) (more4 : Bool) : Option (St (List (List Int) × Bool × Int) (Fl (List (List Int) × Bool) (Bool × List (List Int)))) :=
  some (.next (p6, more4, (w64 (z1 + 1))))

noncomputable def nono_picture_push_2_J6  (p_cells1 : List (List Int)) (p4 : List (List Int)) (more2 : Bool) (z1 : Int) (r1 : (List Int × Bool)) : Option (St (List (List Int) × Bool × Int) (Fl (List (List Int) × Bool) (Bool × List (List Int)))) :=
  asrt (more2 = false → 0 ≤ z1 ∧ z1 < (p_cells1.length : Int)) <| ((if (!more2) then slices_Equal_m r1.1 (geti2 p4 z1) else some false)).bind fun r2 => asrt (0 ≤ z1 ∧ z1 < (p_cells1.length : Int)) <| (nono_picture_push_2_J5 z1) (p4.set (Int.toNat z1) r1.1) (more2 || (!r2))

noncomputable def nono_picture_push_2_J4  (p_rows1 : List (List Int)) (p_cells1 : List (List Int)) (p4 : List (List Int)) (more2 : Bool) (z1 : Int) : Option (St (List (List Int) × Bool × Int) (Fl (List (List Int) × Bool) (Bool × List (List Int)))) :=
  asrt (0 ≤ z1 ∧ z1 < (p_rows1.length : Int)) <| asrt (0 ≤ z1 ∧ z1 < (p_cells1.length : Int)) <| (nono_sure_m (geti2 p4 z1) (geti2 p_rows1 z1)).bind fun r1 => if (!r1.2) then (some (.done (.ret (false, p4)))) else ((nono_picture_push_2_J6 p_cells1 p4 more2 z1 r1))

noncomputable def nono_picture_push_2_J11  (z2 : Int) (r4 : (List Int × Bool)) (p8 : List (List Int)) (more6 : Bool) (z3 : Int) : Option (St (List (List Int) × Bool × Int) (List (List Int) × Bool)) :=
  some (.next ((p8.set (Int.toNat z3) ((geti2 p8 z3).set (Int.toNat z2) (geti r4.1 z3))), (more6 || ((geti (geti2 p8 z3) z2) != (geti r4.1 z3))), (w64 (z3 + 1))))

noncomputable def nono_picture_push_2_J10  (p_cells1 : List (List Int)) (z2 : Int) (r4 : (List Int × Bool)) (p8 : List (List Int)) (more6 : Bool) (z3 : Int) : Option (St (List (List Int) × Bool × Int) (List (List Int) × Bool)) :=
  asrt (0 ≤ z3 ∧ z3 < (r4.1.length : Int)) <| asrt (more6 = false → 0 ≤ z3 ∧ z3 < (p_cells1.length : Int)) <| asrt (more6 = false → 0 ≤ z2 ∧ z2 < (((geti2 p8 z3).length : Nat) : Int)) <| asrt (0 ≤ z3 ∧ z3 < (p_cells1.length : Int)) <| asrt (0 ≤ z2 ∧ z2 < (((geti2 p8 z3).length : Nat) : Int)) <| (nono_picture_push_2_J11 z2 r4 p8 more6 z3)

noncomputable def nono_picture_push_2_L4  (p_cells1 : List (List Int)) (z2 : Int) (r4 : (List Int × Bool)) : (List (List Int) × Bool × Int) → Option (St (List (List Int) × Bool × Int) (List (List Int) × Bool)) :=
  fun (x : (List (List Int) × Bool × Int)) => match x with | (p8, more6, z3) => if (decide (z3 < (r4.1.length : Int))) then ((nono_picture_push_2_J10 p_cells1 z2 r4 p8 more6 z3)) else (some (.done (p8, more6)))

noncomputable def nono_picture_push_2_J8  (z2 : Int) (p9 : List (List Int)) (more7 : Bool) : Option (St (List (List Int) × Bool × Int) (Fl (List (List Int) × Bool) (Bool × List (List Int)))) :=
  some (.next (p9, more7, (w64 (z2 + 1))))

noncomputable def nono_picture_push_2_K4  (z2 : Int) : (List (List Int) × Bool) → Option (St (List (List Int) × Bool × Int) (Fl (List (List Int) × Bool) (Bool × List (List Int)))) :=
  fun (x : (List (List Int) × Bool)) => match x with | (p9, more7) => (nono_picture_push_2_J8 z2) p9 more7

noncomputable def nono_picture_push_2_J9  (p_cells1 : List (List Int)) (p7 : List (List Int)) (more5 : Bool) (z2 : Int) (r4 : (List Int × Bool)) : Option (St (List (List Int) × Bool × Int) (Fl (List (List Int) × Bool) (Bool × List (List Int)))) :=
  (loop (nono_picture_push_2_L4 p_cells1 z2 r4) (p7, more5, 0)).bind (nono_picture_push_2_K4 z2)

noncomputable def nono_picture_push_2_J7  (p_rows1 : List (List Int)) (p_columns1 : List (List Int)) (p_cells1 : List (List Int)) (p7 : List (List Int)) (more5 : Bool) (z2 : Int) : Option (St (List (List Int) × Bool × Int) (Fl (List (List Int) × Bool) (Bool × List (List Int)))) :=
  asrt (0 ≤ z2 ∧ z2 < (p_columns1.length : Int)) <| (nono_picture_column_m p_rows1 p_columns1 p7 z2).bind fun r3 => (nono_sure_m r3 (geti2 p_columns1 z2)).bind fun r4 => if (!r4.2) then (some (.done (.ret (false, p7)))) else ((nono_picture_push_2_J9 p_cells1 p7 more5 z2 r4))

noncomputable def nono_picture_push_2_L3  (p_rows1 : List (List Int)) (p_columns1 : List (List Int)) (p_cells1 : List (List Int)) : (List (List Int) × Bool × Int) → Option (St (List (List Int) × Bool × Int) (Fl (List (List Int) × Bool) (Bool × List (List Int)))) :=
  fun (x : (List (List Int) × Bool × Int)) => match x with | (p7, more5, z2) => if (decide (z2 < (p_columns1.length : Int))) then ((nono_picture_push_2_J7 p_rows1 p_columns1 p_cells1 p7 more5 z2)) else (some (.done (.go (p7, more5))))

noncomputable def nono_picture_push_2_K3  : (Fl (List (List Int) × Bool) (Bool × List (List Int))) → Option (St (List (List Int) × Bool) (Fl (List (List Int)) (Bool × List (List Int)))) :=
  fun (x : (Fl (List (List Int) × Bool) (Bool × List (List Int)))) => match x with | .go (p2, more1) => some (.next (p2, more1)) | .ret x => some (.done (.ret x))

noncomputable def nono_picture_push_2_J3  (p_rows1 : List (List Int)) (p_columns1 : List (List Int)) (p_cells1 : List (List Int)) (p5 : List (List Int)) (more3 : Bool) : Option (St (List (List Int) × Bool) (Fl (List (List Int)) (Bool × List (List Int)))) :=
  (loop (nono_picture_push_2_L3 p_rows1 p_columns1 p_cells1) (p5, more3, 0)).bind nono_picture_push_2_K3

noncomputable def nono_picture_push_2_K2  (p_rows1 : List (List Int)) (p_columns1 : List (List Int)) (p_cells1 : List (List Int)) : (Fl (List (List Int) × Bool) (Bool × List (List Int))) → Option (St (List (List Int) × Bool) (Fl (List (List Int)) (Bool × List (List Int)))) :=
  fun (x : (Fl (List (List Int) × Bool) (Bool × List (List Int)))) => match x with | .go (p5, more3) => (nono_picture_push_2_J3 p_rows1 p_columns1 p_cells1) p5 more3 | .ret x => some (.done (.ret x))

noncomputable def nono_picture_push_2_L2  (p_rows1 : List (List Int)) (p_cells1 : List (List Int)) : (List (List Int) × Bool × Int) → Option (St (List (List Int) × Bool × Int) (Fl (List (List Int) × Bool) (Bool × List (List Int)))) :=
  fun (x : (List (List Int) × Bool × Int)) => match x with | (p4, more2, z1) => if (decide (z1 < (p_rows1.length : Int))) then ((nono_picture_push_2_J4 p_rows1 p_cells1 p4 more2 z1)) else (some (.done (.go (p4, more2))))

noncomputable def nono_picture_push_2_J2  (p_rows1 : List (List Int)) (p_columns1 : List (List Int)) (p_cells1 : List (List Int)) (p2 : List (List Int)) : Option (St (List (List Int) × Bool) (Fl (List (List Int)) (Bool × List (List Int)))) :=
  (loop (nono_picture_push_2_L2 p_rows1 p_cells1) (p2, false, 0)).bind (nono_picture_push_2_K2 p_rows1 p_columns1 p_cells1)

noncomputable def nono_picture_push_2_J1  (p3 : List (List Int)) : Option (Bool × List (List Int)) :=
  some (true, p3)

noncomputable def nono_picture_push_2_K1  : (Fl (List (List Int)) (Bool × List (List Int))) → Option (Bool × List (List Int)) :=
  fun (x : (Fl (List (List Int)) (Bool × List (List Int)))) => match x with | .go p3 => nono_picture_push_2_J1 p3 | .ret x => some x
end Go.Proofs.Ytdjjomghggplpaa
