import Derived.Test.YtfmmlmiakkjaiaaVI
import Derived.Test.YtfmmlmiakkjaiaaFB
import Derived.Test.YtfmmlmiakkjaiaaNMC
import Derived.Test.YtfmmlmiakkjaiaaNMBa
noncomputable section
namespace Go.Proofs.Ytfmmlmiakkjaiaa
open Go Go.GL Go.RowKit
set_option maxRecDepth 100000
set_option maxHeartbeats 4000000

def rf_BestOf18_m (p1 : List Int) (p2 p3 : Int) (p4 p5 : Int) (p6 deep1 ply1 : Int) : Option (Int × Int × Int × Int) :=
 recM fun n => rf_BestOf18_mF n p1 p2 p3 p4 p5 p6 deep1 ply1

theorem rf_BestOf18_wB {rec_rf_BestOf18 : List Int → Int → Int → Int → Int → Int → Int → Int → Option (Int × Int × Int × Int)} (ih_rf_BestOf18 : ∀ {A1 : Option Addr} {c1 n1 : Nat} {p1 : List Int} {p2 p3 : Int} {p4 p5 : Int} {p6 deep1 ply1 : Int} {r : (Int × Int × Int × Int)} {w0 w : World} {B : Nat} {fs : List HP} (_ : rec_rf_BestOf18 p1 p2 p3 p4 p5 p6 deep1 ply1 = some r) (_ : Sep w0 B w (fs)) (hr_p1 : RdF w0 B fs A1 (vI p1)) (_hc_p1 : p1.length ≤ c1) (_hn_p1 : n1 = p1.length), Calls Try.prog 70 #[.agg (ca A1 n1 c1 p2 p3 p4 p5 p6), vi deep1, vi ply1] w fun e w' => e = .returned (.tuple #[vi r.1, .agg #[vi r.2.1, vi r.2.2.1, vi r.2.2.2]]) ∧ Sep w0 B w' (fs)) {A1 : Option Addr} {c1 n1 : Nat} {p1 : List Int} {p2 p3 : Int} {p4 p5 : Int} {p6 deep1 ply1 : Int} {r : (Int × Int × Int × Int)} {w0 w : World} {B : Nat} {fs : List HP} (hm : rf_BestOf18_B rec_rf_BestOf18 p1 p2 p3 p4 p5 p6 deep1 ply1 = some r) (hS : Sep w0 B w (fs)) (hr_p1 : RdF w0 B fs A1 (vI p1)) (_hc_p1 : p1.length ≤ c1) (_hn_p1 : n1 = p1.length) :
  Calls Try.prog 70 #[.agg (ca A1 n1 c1 p2 p3 p4 p5 p6), vi deep1, vi ply1] w fun e w' => e = .returned (.tuple #[vi r.1, .agg #[vi r.2.1, vi r.2.2.1, vi r.2.2.2]]) ∧ Sep w0 B w' (fs) := by
 obtain ⟨i3, hi3, hz3, hs3, hb3⟩ := info_parts Info3
 obtain ⟨i88, hi88, hz88, hs88, hb88⟩ := info_parts Info88
 obtain rfl := _hn_p1
 unfold rf_BestOf18_B at hm
 replace hm := start_b hm
 refine enter (l := [.agg (ca A1 p1.length c1 p2 p3 p4 p5 p6), vi deep1, vi ply1]) (n := 80) Try.func70 rfl rfl (by simp) (fun a hF => ?_)
 refine seqR ?_
 refine at_do (d := 3) (s := vS (Instr.box 75 (.agg (ca A1 p1.length c1 p2 p3 p4 p5 p6)))) (v := pa w.heap.size 0) (w' := w.alloc (.cells (ca A1 p1.length c1 p2 p3 p4 p5 p6) 75)) hF (by kernel_rfl) (by kernel_rfl) (by kernel_rfl) (fun a hF => ?_)
 have hS : Sep w0 B (w.alloc (.cells (ca A1 p1.length c1 p2 p3 p4 p5 p6) 75)) (blk w.heap.size 75 (ca A1 p1.length c1 p2 p3 p4 p5 p6) :: (fs)) := hS.box 75 (ca A1 p1.length c1 p2 p3 p4 p5 p6)
 generalize w.heap.size = g1 at hF hS
 generalize w.alloc (.cells (ca A1 p1.length c1 p2 p3 p4 p5 p6) 75) = w at hS ⊢
 refine ar 1 [] [] [1, 2, 3] [pl 1 (vi deep1), pl 2 (vi ply1), pl 3 (pa g1 0)] hF hS obs_nil (fun a w hF hS => ?_)
 refine at_do (d := 7) (s := vS (Instr.alloc 88 true (.tuple #[]))) (v := pa w.heap.size 0) (w' := w.alloc (.cells #[vi 0, vi 0, vi 0] 88)) hF (by kernel_rfl) (by kernel_rfl) (by kernel_rfl) (fun a hF => ?_)
 have hS : Sep w0 B (w.alloc (.cells #[vi 0, vi 0, vi 0] 88)) (blk w.heap.size 88 #[vi 0, vi 0, vi 0] :: (blk g1 75 (ca A1 p1.length c1 p2 p3 p4 p5 p6) :: fs)) := hS.box 88 #[vi 0, vi 0, vi 0]
 generalize w.heap.size = g2 at hF hS
 generalize w.alloc (.cells #[vi 0, vi 0, vi 0] 88) = w at hS ⊢
 refine ae [1, 2, 3, 7] [pl 1 (vi deep1), pl 2 (vi ply1), pl 3 (pa g1 0), pl 7 (pa g2 0)] hF rfl (fun hF => ?_)
 refine then_n (seqR ?_)
 obtain ⟨r1, hr1, hm⟩ := call_b hm
 refine ar 1 [⟨false, [], vS (Instr.loadAt 75 (pa g1 0)), .agg (ca A1 p1.length c1 p2 p3 p4 p5 p6)⟩] [some (.agg (ca A1 p1.length c1 p2 p3 p4 p5 p6))] [1, 2, 3, 7, 16] [pl 1 (vi deep1), pl 2 (vi ply1), pl 3 (pa g1 0), pl 7 (pa g2 0), pl 16 (.agg (ca A1 p1.length c1 p2 p3 p4 p5 p6))] hF hS ?_ (fun a w hF hS => ?_)
 ·exact obs_cons (oA (cs := (ca A1 p1.length c1 p2 p3 p4 p5 p6)) (fun _ _ hS => (hS.at_ 1 rfl).cellsAt 0 (by rfl))) <| obs_nil
 refine at_call (f := 58) (args := #[.agg (ca A1 p1.length c1 p2 p3 p4 p5 p6)]) (d := 17) hF (by kernel_rfl) (by kernel_rfl) Try.func58 (by kernel_rfl) rfl (rf_MovesAll_w hr1 hS (fun _ hS => (hr_p1 _ (hS.dropN 2))) _hc_p1 rfl) (fun v a w hR hF => ?_)
 clear hS
 obtain ⟨A2, c2, rfl, hS⟩ := hR
 have hS : Sep w0 B w (ownK 88 3 A2 r1.length c2 (List.flatMap enc88 r1) :: blk g2 88 #[vi 0, vi 0, vi 0] :: blk g1 75 (ca A1 p1.length c1 p2 p3 p4 p5 p6) :: fs) := hS
 refine ar 1 [] [] [1, 2, 3, 7, 8] [pl 1 (vi deep1), pl 2 (vi ply1), pl 3 (pa g1 0), pl 7 (pa g2 0), pl 8 (.slice A2 r1.length c2)] hF hS obs_nil (fun a w hF hS => ?_)
 refine ae [1, 2, 3, 7, 8] [pl 1 (vi deep1), pl 2 (vi ply1), pl 3 (pa g1 0), pl 7 (pa g2 0), pl 8 (.slice A2 r1.length c2)] hF rfl (fun hF => ?_)
 refine then_n ?_
 refine seq_cut (fun a w => Fr 80 [pl 1 (vi deep1), pl 2 (vi ply1), pl 3 (pa g1 0), pl 7 (pa g2 0), pl 8 (.slice A2 r1.length c2)] a ∧ Sep w0 B w (blk g1 75 (ca A1 p1.length c1 p2 p3 p4 p5 p6) :: blk g2 88 #[vi 0, vi 0, vi 0] :: ownK 88 3 A2 r1.length c2 (List.flatMap enc88 r1) :: fs) ∧ ((rf_BestOf18_J1 rec_rf_BestOf18 p1 p2 p3 p4 p5 p6 deep1 ply1 r1)).bind some = some r) ?_ ?_
 ·rintro a w ⟨hF, hS, hm⟩
  unfold rf_BestOf18_J1 at hm
  refine seq_cut (fun a w => Fr 80 [pl 1 (vi deep1), pl 2 (vi ply1), pl 3 (pa g1 0), pl 7 (pa g2 0), pl 8 (.slice A2 r1.length c2)] a ∧ Sep w0 B w (blk g1 75 (ca A1 p1.length c1 p2 p3 p4 p5 p6) :: blk g2 88 #[vi 0, vi 0, vi 0] :: ownK 88 3 A2 r1.length c2 (List.flatMap enc88 r1) :: fs) ∧ ((rf_BestOf18_J2 rec_rf_BestOf18 p1 p2 p3 p4 p5 p6 deep1 ply1 r1)).bind some = some r) ?_ ?_
  ·rintro a w ⟨hF, hS, hm⟩
   unfold rf_BestOf18_J2 at hm
   refine seq_cut (fun a w => Fr 80 [pl 1 (vi deep1), pl 2 (vi ply1), pl 3 (pa g1 0), pl 7 (pa g2 0), pl 8 (.slice A2 r1.length c2)] a ∧ Sep w0 B w (blk g1 75 (ca A1 p1.length c1 p2 p3 p4 p5 p6) :: blk g2 88 #[vi 0, vi 0, vi 0] :: ownK 88 3 A2 r1.length c2 (List.flatMap enc88 r1) :: fs) ∧ ((rf_BestOf18_J3 rec_rf_BestOf18 p1 p2 p3 p4 p5 p6 deep1 ply1 r1)).bind some = some r) ?_ ?_
   ·rintro a w ⟨hF, hS, hm⟩
    unfold rf_BestOf18_J3 at hm
    refine rg [] [] [1, 2, 3, 7, 8, 11] [pl 1 (vi deep1), pl 2 (vi ply1), pl 3 (pa g1 0), pl 7 (pa g2 0), pl 8 (.slice A2 r1.length c2), pl 11 (vi (-5000))] hF hS obs_nil (fun a w hF hS => ?_)
    refine seqR ?_
    refine at_do (d := 12) (s := vS (Instr.alloc 88 true (.tuple #[]))) (v := pa w.heap.size 0) (w' := w.alloc (.cells #[vi 0, vi 0, vi 0] 88)) hF (by kernel_rfl) (by kernel_rfl) (by kernel_rfl) (fun a hF => ?_)
    have hS : Sep w0 B (w.alloc (.cells #[vi 0, vi 0, vi 0] 88)) (blk w.heap.size 88 #[vi 0, vi 0, vi 0] :: (blk g1 75 (ca A1 p1.length c1 p2 p3 p4 p5 p6) :: blk g2 88 #[vi 0, vi 0, vi 0] :: ownK 88 3 A2 r1.length c2 (List.flatMap enc88 r1) :: fs)) := hS.box 88 #[vi 0, vi 0, vi 0]
    generalize w.heap.size = g3 at hF hS
    generalize w.alloc (.cells #[vi 0, vi 0, vi 0] 88) = w at hS ⊢
    refine ae [1, 2, 3, 7, 8, 11, 12] [pl 1 (vi deep1), pl 2 (vi ply1), pl 3 (pa g1 0), pl 7 (pa g2 0), pl 8 (.slice A2 r1.length c2), pl 11 (vi (-5000)), pl 12 (pa g3 0)] hF rfl (fun hF => ?_)
    refine then_n ?_
    refine seq_cut (fun a w => ∃ (best2 who4 : Int) (who5 who6 : Int), Fr 80 [pl 7 (pa g2 0), pl 11 (vi best2), pl 12 (pa g3 0)] a ∧ Sep w0 B w (blk g2 88 #[vi 0, vi 0, vi 0] :: blk g3 88 #[vi who4, vi who5, vi who6] :: fs) ∧ (rf_BestOf18_J4 best2 who4 who5 who6).bind some = some r) ?_ ?_
    ·rintro a w ⟨best2, who4, who5, who6, hF, hS, hm⟩
     unfold rf_BestOf18_J4 at hm
     refine wpIn_seq ?_
     refine regMix4 [0, 1, 2] [3] [⟨false, [], vS (Instr.loadAt 88 (pa g3 0)), .agg #[vi who4, vi who5, vi who6]⟩] [none, some (.agg #[vi who4, vi who5, vi who6]), none] [6, 7, 79] [pl 6 (vi best2), pl 7 (pa g2 0), pl 79 (.agg #[vi who4, vi who5, vi who6])] hF hS Fol (by kernel_rfl) (by kernel_rfl) (by kernel_rfl) (by kernel_rfl) (by kernel_rfl) ?_ (fun a w hF hS => ?_)
     ·exact obs_cons (oA (cs := #[vi who4, vi who5, vi who6]) (fun _ _ hS => (hS.at_ 1 rfl).cellsAt 0 (by rfl))) <| obs_nil
     obtain ⟨w, hrun, hS⟩ := run_putA (P := Try.prog) (t := 88) (us := #[vi who4, vi who5, vi who6]) (o := 0) (hS.at_ 0 rfl) (by kernel_rfl) (all_one (by kernel_rfl)) (Nat.le_of_ble_eq_true (by kernel_rfl))
     refine at_s hF hrun ?_
     have hS : Sep w0 B w (blk g2 88 #[vi who4, vi who5, vi who6] :: blk g3 88 #[vi who4, vi who5, vi who6] :: fs) := hS
     refine ae [6, 7] [pl 6 (vi best2), pl 7 (pa g2 0)] hF rfl (fun hF => ?_)
     refine np_n ?_
     refine then_n (wpIn_ret ?_)
     have hld1 := run_loadVarA (P := Try.prog) (t := 88) (cs := #[vi who4, vi who5, vi who6]) (by kernel_rfl) (by kernel_rfl) ((hS.at_ 0 rfl).cellsAt 0 (by rfl))
     have hS := hS.pickN 2 [] (by decide)
     have hm : some (best2, who4, who5, who6) = some r := hm
     obtain rfl := Option.some.inj hm
     exact retV (rs := [.tmp 6, .cell 7 88]) (vs := [vi best2, .agg #[vi who4, vi who5, vi who6]]) hF rfl (rv_t (by kernel_rfl) <| rv_c (by kernel_rfl) hld1 <| rv_nil) rfl ⟨rfl, hS⟩
    ·refine rg [] [] [1, 2, 3, 7, 8, 11, 12, 13] [pl 1 (vi deep1), pl 2 (vi ply1), pl 3 (pa g1 0), pl 7 (pa g2 0), pl 8 (.slice A2 r1.length c2), pl 11 (vi (-5000)), pl 12 (pa g3 0), pl 13 (vi 0)] hF hS obs_nil (fun a w hF hS => ?_)
     refine wpIn_block ?_
     have hS := hS.pickN 4 [1, 2, 3, 0] (by decide)
     refine wp_loop_model (S := (Int × Int × Int × Int × Int)) (R := (Int × Int × Int × Int)) (rf_BestOf18_L1 rec_rf_BestOf18 p1 p2 p3 p4 p5 p6 deep1 ply1 r1) (fun x => (rf_BestOf18_K1 x).bind some) r (fun (x : (Int × Int × Int × Int × Int)) a w => Fr 80 [pl 1 (vi deep1), pl 2 (vi ply1), pl 3 (pa g1 0), pl 7 (pa g2 0), pl 8 (.slice A2 r1.length c2), pl 11 (vi x.1), pl 12 (pa g3 0), pl 13 (vi x.2.2.2.2)] a ∧ Sep w0 B w (blk g1 75 (ca A1 p1.length c1 p2 p3 p4 p5 p6) :: blk g2 88 #[vi 0, vi 0, vi 0] :: ownK 88 3 A2 r1.length c2 (List.flatMap enc88 r1) :: blk g3 88 #[vi x.2.1, vi x.2.2.1, vi x.2.2.2.1] :: fs)) (assoc_b hm) ⟨hF.wk [1, 2, 3, 7, 8, 11, 12, 13], hS⟩ ?_
     clear hF hS hm
     rintro nn1 ⟨best1, who1, who2, who3, i1⟩ a w ⟨hF, hS⟩ hm
     generalize hφ1 : stK (rf_BestOf18_L1 rec_rf_BestOf18 p1 p2 p3 p4 p5 p6 deep1 ply1 r1) nn1 (fun x => (rf_BestOf18_K1 x).bind some) = φ1 at hm
     unfold rf_BestOf18_L1 at hm
     dsimp only at hF hS hm
     refine seq_cut (fun a w => Fr 80 [pl 1 (vi deep1), pl 2 (vi ply1), pl 3 (pa g1 0), pl 7 (pa g2 0), pl 8 (.slice A2 r1.length c2), pl 11 (vi best1), pl 12 (pa g3 0), pl 13 (vi i1)] a ∧ Sep w0 B w (blk g1 75 (ca A1 p1.length c1 p2 p3 p4 p5 p6) :: blk g2 88 #[vi 0, vi 0, vi 0] :: ownK 88 3 A2 r1.length c2 (List.flatMap enc88 r1) :: blk g3 88 #[vi who1, vi who2, vi who3] :: fs) ∧ ((rf_BestOf18_J5 rec_rf_BestOf18 p1 p2 p3 p4 p5 p6 deep1 ply1 r1 best1 who1 who2 who3 i1)).bind φ1 = some r) ?_ ?_
     ·rintro a w ⟨hF, hS, hm⟩
      unfold rf_BestOf18_J5 at hm
      refine seq_cut (fun a w => ∃ (best3 who7 : Int) (who8 who9 : Int), Fr 80 [pl 1 (vi deep1), pl 2 (vi ply1), pl 3 (pa g1 0), pl 7 (pa g2 0), pl 8 (.slice A2 r1.length c2), pl 11 (vi best3), pl 12 (pa g3 0), pl 13 (vi i1)] a ∧ Sep w0 B w (blk g1 75 (ca A1 p1.length c1 p2 p3 p4 p5 p6) :: blk g2 88 #[vi 0, vi 0, vi 0] :: ownK 88 3 A2 r1.length c2 (List.flatMap enc88 r1) :: blk g3 88 #[vi who7, vi who8, vi who9] :: fs) ∧ ((rf_BestOf18_J6 i1) best3 who7 who8 who9).bind φ1 = some r) ?_ ?_
      ·rintro a w ⟨best3, who7, who8, who9, hF, hS, hm⟩
       unfold rf_BestOf18_J6 at hm
       refine rg1 [] [] [1, 2, 3, 7, 8, 11, 12, 13] [pl 1 (vi deep1), pl 2 (vi ply1), pl 3 (pa g1 0), pl 7 (pa g2 0), pl 8 (.slice A2 r1.length c2), pl 11 (vi best3), pl 12 (pa g3 0), pl 13 (vi (w64 (i1 + 1)))] hF hS obs_nil (fun a w hF hS => ?_)
       refine then_n ?_
       rw [← hφ1] at hm
       exact ⟨(best3, who7, who8, who9, (w64 (i1 + 1))), ⟨hF.wk [1, 2, 3, 7, 8, 11, 12, 13], hS⟩, hm⟩
      ·refine wpIn_block ?_
       refine seq_cut (fun a w => ∃ (n2 : Int), Fr 80 [pl 1 (vi deep1), pl 2 (vi ply1), pl 3 (pa g1 0), pl 7 (pa g2 0), pl 8 (.slice A2 r1.length c2), pl 11 (vi best1), pl 12 (pa g3 0), pl 13 (vi i1), pl 14 (vi n2)] a ∧ Sep w0 B w (blk g1 75 (ca A1 p1.length c1 p2 p3 p4 p5 p6) :: blk g2 88 #[vi 0, vi 0, vi 0] :: ownK 88 3 A2 r1.length c2 (List.flatMap enc88 r1) :: blk g3 88 #[vi who1, vi who2, vi who3] :: fs) ∧ ((rf_BestOf18_J7 r1 best1 who1 who2 who3 i1) n2).bind φ1 = some r) ?_ ?_
       ·rintro a w ⟨n2, hF, hS, hm⟩
        unfold rf_BestOf18_J7 at hm
        refine rg [] [] [1, 2, 3, 7, 8, 11, 12, 13, 14, 71] [pl 1 (vi deep1), pl 2 (vi ply1), pl 3 (pa g1 0), pl 7 (pa g2 0), pl 8 (.slice A2 r1.length c2), pl 11 (vi best1), pl 12 (pa g3 0), pl 13 (vi i1), pl 14 (vi n2), pl 71 (.bool (decide (best1 < (w64 (0 - n2)))))] hF hS obs_nil (fun a w hF hS => ?_)
        refine ce (t := 71) (b := decide (best1 < (w64 (0 - n2)))) hF (fun hb => ?_) (fun hb => ?_)
        ·replace hm := if_t hm hb
         refine rg [] [] [1, 2, 3, 7, 8, 11, 12, 13] [pl 1 (vi deep1), pl 2 (vi ply1), pl 3 (pa g1 0), pl 7 (pa g2 0), pl 8 (.slice A2 r1.length c2), pl 11 (vi (w64 (0 - n2))), pl 12 (pa g3 0), pl 13 (vi i1)] hF hS obs_nil (fun a w hF hS => ?_)
         refine oneR ?_
         obtain ⟨hp2, hm⟩ := asrt_b hm
         refine ar 4 [⟨true, [], vS (Instr.indexAt 81 (.slice A2 r1.length c2) (vi i1)), .pointer (some (sAddrK A2 3 i1))⟩, ⟨false, [], vS (Instr.loadAt 88 (.pointer (some (sAddrK A2 3 i1)))), .agg #[vi ((getd ((0, 0, 0) : MvT) r1 i1).1), vi ((getd ((0, 0, 0) : MvT) r1 i1).2.1), vi ((getd ((0, 0, 0) : MvT) r1 i1).2.2)]⟩] [none, none, some (.pointer (some (sAddrK A2 3 i1))), some (.agg #[vi ((getd ((0, 0, 0) : MvT) r1 i1).1), vi ((getd ((0, 0, 0) : MvT) r1 i1).2.1), vi ((getd ((0, 0, 0) : MvT) r1 i1).2.2)])] [1, 2, 3, 7, 8, 11, 12, 13, 77] [pl 1 (vi deep1), pl 2 (vi ply1), pl 3 (pa g1 0), pl 7 (pa g2 0), pl 8 (.slice A2 r1.length c2), pl 11 (vi (w64 (0 - n2))), pl 12 (pa g3 0), pl 13 (vi i1), pl 77 (.agg #[vi ((getd ((0, 0, 0) : MvT) r1 i1).1), vi ((getd ((0, 0, 0) : MvT) r1 i1).2.1), vi ((getd ((0, 0, 0) : MvT) r1 i1).2.2)])] hF hS ?_ (fun a w hF hS => ?_)
         ·exact obs_cons (ob_ixK (m := r1) encK88 Und81 hi88 hs88 (hS.at_ 2 rfl).rdK rfl (fun _ => hp2)) <| obs_cons (ob_getK (n := r1.length) (m := r1) encK88 ((0, 0, 0) : MvT) (by kernel_rfl) (by kernel_rfl) (fun _ hS => ⟨_, (hS.at_ 2 rfl).rdK⟩) (fun _ hS => rfl) (fun _ => hp2)) <| obs_nil
         obtain ⟨w, hrun, hS⟩ := run_putA (P := Try.prog) (t := 88) (us := #[vi ((getd ((0, 0, 0) : MvT) r1 i1).1), vi ((getd ((0, 0, 0) : MvT) r1 i1).2.1), vi ((getd ((0, 0, 0) : MvT) r1 i1).2.2)]) (o := 0) (hS.at_ 3 rfl) (by kernel_rfl) (all_one (by kernel_rfl)) (Nat.le_of_ble_eq_true (by kernel_rfl))
         refine at_s hF hrun ?_
         have hS : Sep w0 B w (blk g1 75 (ca A1 p1.length c1 p2 p3 p4 p5 p6) :: blk g2 88 #[vi 0, vi 0, vi 0] :: ownK 88 3 A2 r1.length c2 (List.flatMap enc88 r1) :: blk g3 88 #[vi ((getd ((0, 0, 0) : MvT) r1 i1).1), vi ((getd ((0, 0, 0) : MvT) r1 i1).2.1), vi ((getd ((0, 0, 0) : MvT) r1 i1).2.2)] :: fs) := hS
         refine ae [1, 2, 3, 7, 8, 11, 12, 13] [pl 1 (vi deep1), pl 2 (vi ply1), pl 3 (pa g1 0), pl 7 (pa g2 0), pl 8 (.slice A2 r1.length c2), pl 11 (vi (w64 (0 - n2))), pl 12 (pa g3 0), pl 13 (vi i1)] hF rfl (fun hF => ?_)
         refine block_n ?_
         refine then_n ?_
         exact ⟨(w64 (0 - n2)), ((getd ((0, 0, 0) : MvT) r1 i1).1), ((getd ((0, 0, 0) : MvT) r1 i1).2.1), ((getd ((0, 0, 0) : MvT) r1 i1).2.2), hF.wk [1, 2, 3, 7, 8, 11, 12, 13], hS, hm⟩
        ·replace hm := if_f hm hb
         refine wpIn_skip ?_
         refine block_n ?_
         refine then_n ?_
         exact ⟨best1, who1, who2, who3, hF.wk [1, 2, 3, 7, 8, 11, 12, 13], hS, hm⟩
       ·obtain ⟨hp1, hm⟩ := asrt_b hm
        obtain ⟨r5, hr5, hm⟩ := call_b hm
        obtain ⟨r6, hr6, hm⟩ := call_b hm
        refine regMix5 [0, 1, 2, 3, 4, 6, 7, 8] [] 8 #[true, true, true, true, true, false, true, true, true, false, false, false, false, false, false, false] [⟨false, [], vS (Instr.loadAt 75 (pa g1 0)), .agg (ca A1 p1.length c1 p2 p3 p4 p5 p6)⟩, ⟨true, [], vS (Instr.indexAt 81 (.slice A2 r1.length c2) (vi i1)), .pointer (some (sAddrK A2 3 i1))⟩, ⟨false, [], vS (Instr.loadAt 88 (.pointer (some (sAddrK A2 3 i1)))), .agg #[vi ((getd ((0, 0, 0) : MvT) r1 i1).1), vi ((getd ((0, 0, 0) : MvT) r1 i1).2.1), vi ((getd ((0, 0, 0) : MvT) r1 i1).2.2)]⟩] [some (.agg (ca A1 p1.length c1 p2 p3 p4 p5 p6)), none, none, some (.pointer (some (sAddrK A2 3 i1))), some (.agg #[vi ((getd ((0, 0, 0) : MvT) r1 i1).1), vi ((getd ((0, 0, 0) : MvT) r1 i1).2.1), vi ((getd ((0, 0, 0) : MvT) r1 i1).2.2)]), none, none, none] [1, 2, 3, 7, 8, 11, 12, 13, 56, 60, 62, 64] [pl 1 (vi deep1), pl 2 (vi ply1), pl 3 (pa g1 0), pl 7 (pa g2 0), pl 8 (.slice A2 r1.length c2), pl 11 (vi best1), pl 12 (pa g3 0), pl 13 (vi i1), pl 56 (.agg (ca A1 p1.length c1 p2 p3 p4 p5 p6)), pl 60 (.agg #[vi ((getd ((0, 0, 0) : MvT) r1 i1).1), vi ((getd ((0, 0, 0) : MvT) r1 i1).2.1), vi ((getd ((0, 0, 0) : MvT) r1 i1).2.2)]), pl 62 (vi deep1), pl 64 (vi (w64 (ply1 + 1)))] hF hS Fol (by kernel_rfl) (by kernel_rfl) (by kernel_rfl) (by kernel_rfl) ?_ (fun a w hF hS => ?_)
        ·exact obs_cons (oA (cs := (ca A1 p1.length c1 p2 p3 p4 p5 p6)) (fun _ _ hS => (hS.at_ 0 rfl).cellsAt 0 (by rfl))) <| obs_cons (ob_ixK (m := r1) encK88 Und81 hi88 hs88 (hS.at_ 2 rfl).rdK rfl (fun _ => hp1)) <| obs_cons (ob_getK (n := r1.length) (m := r1) encK88 ((0, 0, 0) : MvT) (by kernel_rfl) (by kernel_rfl) (fun _ hS => ⟨_, (hS.at_ 2 rfl).rdK⟩) (fun _ hS => rfl) (fun _ => hp1)) <| obs_nil
        refine aq [5, 13] ?_
        refine (all_cons ?_ (all_cons ?_ all_nil))
        ·refine ao (listed' := #[true, true, true, true, true, true, true, true, true, false, false, false, false, false, false, false]) ?_
         refine at_call (f := 62) (args := #[.agg (ca A1 p1.length c1 p2 p3 p4 p5 p6), .agg #[vi ((getd ((0, 0, 0) : MvT) r1 i1).1), vi ((getd ((0, 0, 0) : MvT) r1 i1).2.1), vi ((getd ((0, 0, 0) : MvT) r1 i1).2.2)]]) (d := 61) hF (by kernel_rfl) (by kernel_rfl) Try.func62 (by kernel_rfl) rfl (rf_MoveDone_w hr5 hS (fun _ hS => (hr_p1 _ (hS.dropN 4))) _hc_p1 rfl) (fun v a w hR hF => ?_)
         clear hS
         obtain ⟨A4, c4, rfl, hS⟩ := hR
         have hS : Sep w0 B w (own 3 (.slice A4 r5.1.length c4) (vI r5.1) :: blk g1 75 (ca A1 p1.length c1 p2 p3 p4 p5 p6) :: blk g2 88 #[vi 0, vi 0, vi 0] :: ownK 88 3 A2 r1.length c2 (List.flatMap enc88 r1) :: blk g3 88 #[vi who1, vi who2, vi who3] :: fs) := hS
         refine any_fin rfl (hS.pickN 5 [1, 2, 3, 4] (by decide)) ?_
         refine aq [9, 13] ?_
         refine (all_cons ?_ (all_cons ?_ all_nil))
         ·refine ao (listed' := #[true, true, true, true, true, true, true, true, true, true, false, false, false, false, false, false]) ?_
          refine ar 1 [⟨false, [], callFunc 70 #[.agg (ca A4 r5.1.length c4 r5.2.1 r5.2.2.1 r5.2.2.2.1 r5.2.2.2.2.1 r5.2.2.2.2.2), vi deep1, vi (w64 (ply1 + 1))], .tuple #[vi r6.1, .agg #[vi r6.2.1, vi r6.2.2.1, vi r6.2.2.2]]⟩] [some (.tuple #[vi r6.1, .agg #[vi r6.2.1, vi r6.2.2.1, vi r6.2.2.2]])] [1, 2, 3, 7, 8, 11, 12, 13, 65] [pl 1 (vi deep1), pl 2 (vi ply1), pl 3 (pa g1 0), pl 7 (pa g2 0), pl 8 (.slice A2 r1.length c2), pl 11 (vi best1), pl 12 (pa g3 0), pl 13 (vi i1), pl 65 (.tuple #[vi r6.1, .agg #[vi r6.2.1, vi r6.2.2.1, vi r6.2.2.2]])] hF hS ?_ (fun a w hF hS => ?_)
          ·exact obs_cons (ob_call Try.func70 (by kernel_rfl) rfl (fun _ _ hS => ih_rf_BestOf18 hr6 hS (fun _ hS => (hS.at_ 0 rfl).rd) ((hS.at_ 0 rfl).cap1) rfl)) <| obs_nil
          refine any_fin rfl (hS.pickN 5 [1, 2, 3, 4] (by decide)) ?_
          refine aq [10, 13] ?_
          refine (all_cons ?_ (all_cons ?_ all_nil))
          ·refine ao (listed' := #[true, true, true, true, true, true, true, true, true, true, true, false, false, false, false, false]) ?_
           refine aw 1 [] [] [1, 2, 3, 7, 8, 11, 12, 13, 55] [pl 1 (vi deep1), pl 2 (vi ply1), pl 3 (pa g1 0), pl 7 (pa g2 0), pl 8 (.slice A2 r1.length c2), pl 11 (vi best1), pl 12 (pa g3 0), pl 13 (vi i1), pl 55 (.tuple #[vi r6.1, .agg #[vi r6.2.1, vi r6.2.2.1, vi r6.2.2.2]])] hF hS obs_nil (fun a hF => ?_)
           refine any_finI rfl (fun h => h) ?_
           refine aq [11, 12, 13] ?_
           refine (all_cons ?_ (all_cons ?_ (all_cons ?_ all_nil)))
           ·refine ao (listed' := #[true, true, true, true, true, true, true, true, true, true, true, true, false, false, false, false]) ?_
            refine aw 1 [] [] [1, 2, 3, 7, 8, 11, 12, 13, 55, 66] [pl 1 (vi deep1), pl 2 (vi ply1), pl 3 (pa g1 0), pl 7 (pa g2 0), pl 8 (.slice A2 r1.length c2), pl 11 (vi best1), pl 12 (pa g3 0), pl 13 (vi i1), pl 55 (.tuple #[vi r6.1, .agg #[vi r6.2.1, vi r6.2.2.1, vi r6.2.2.2]]), pl 66 (vi r6.1)] hF hS obs_nil (fun a hF => ?_)
            refine any_finI rfl (fun h => h) ?_
            refine aq [12, 13] ?_
            refine (all_cons ?_ (all_cons ?_ all_nil))
            ·refine ao (listed' := #[true, true, true, true, true, true, true, true, true, true, true, true, true, false, false, false]) ?_
             refine aw 1 [] [] [1, 2, 3, 7, 8, 11, 12, 13, 66, 67] [pl 1 (vi deep1), pl 2 (vi ply1), pl 3 (pa g1 0), pl 7 (pa g2 0), pl 8 (.slice A2 r1.length c2), pl 11 (vi best1), pl 12 (pa g3 0), pl 13 (vi i1), pl 66 (vi r6.1), pl 67 (.agg #[vi r6.2.1, vi r6.2.2.1, vi r6.2.2.2])] hF hS obs_nil (fun a hF => ?_)
             refine any_finI rfl (fun h => h) ?_
             refine aq [13] (all_cons ?_ all_nil)
             refine ao (listed' := #[true, true, true, true, true, true, true, true, true, true, true, true, true, true, false, false]) ?_
             refine at_do (d := 15) (s := vS (Instr.alloc 88 true (.tuple #[]))) (v := pa w.heap.size 0) (w' := w.alloc (.cells #[vi 0, vi 0, vi 0] 88)) hF (by kernel_rfl) (by kernel_rfl) (by kernel_rfl) (fun a hF => ?_)
             have hS : Sep w0 B (w.alloc (.cells #[vi 0, vi 0, vi 0] 88)) (blk w.heap.size 88 #[vi 0, vi 0, vi 0] :: (own 3 (.slice A4 r5.1.length c4) (vI r5.1) :: blk g1 75 (ca A1 p1.length c1 p2 p3 p4 p5 p6) :: blk g2 88 #[vi 0, vi 0, vi 0] :: ownK 88 3 A2 r1.length c2 (List.flatMap enc88 r1) :: blk g3 88 #[vi who1, vi who2, vi who3] :: fs)) := hS.box 88 #[vi 0, vi 0, vi 0]
             generalize w.heap.size = g4 at hF hS
             generalize w.alloc (.cells #[vi 0, vi 0, vi 0] 88) = w at hS ⊢
             refine any_fin rfl (hS.pickN 6 [2, 3, 4, 5] (by decide)) ?_
             refine aq [14] (all_cons ?_ all_nil)
             refine ao (listed' := #[true, true, true, true, true, true, true, true, true, true, true, true, true, true, true, false]) ?_
             refine aw 1 [] [] [1, 2, 3, 7, 8, 11, 12, 13, 14, 15, 67] [pl 1 (vi deep1), pl 2 (vi ply1), pl 3 (pa g1 0), pl 7 (pa g2 0), pl 8 (.slice A2 r1.length c2), pl 11 (vi best1), pl 12 (pa g3 0), pl 13 (vi i1), pl 14 (vi r6.1), pl 15 (pa g4 0), pl 67 (.agg #[vi r6.2.1, vi r6.2.2.1, vi r6.2.2.2])] hF hS obs_nil (fun a hF => ?_)
             refine any_finI rfl (fun h => h) ?_
             refine aq [15] (all_cons ?_ all_nil)
             refine ao (listed' := #[true, true, true, true, true, true, true, true, true, true, true, true, true, true, true, true]) ?_
             obtain ⟨w, hrun, hS⟩ := run_putA (P := Try.prog) (t := 88) (us := #[vi r6.2.1, vi r6.2.2.1, vi r6.2.2.2]) (o := 0) (hS.at_ 0 rfl) (by kernel_rfl) (all_one (by kernel_rfl)) (Nat.le_of_ble_eq_true (by kernel_rfl))
             refine at_s hF hrun ?_
             have hS : Sep w0 B w (blk g4 88 #[vi r6.2.1, vi r6.2.2.1, vi r6.2.2.2] :: own 3 (.slice A4 r5.1.length c4) (vI r5.1) :: blk g1 75 (ca A1 p1.length c1 p2 p3 p4 p5 p6) :: blk g2 88 #[vi 0, vi 0, vi 0] :: ownK 88 3 A2 r1.length c2 (List.flatMap enc88 r1) :: blk g3 88 #[vi who1, vi who2, vi who3] :: fs) := hS
             refine any_fin rfl (hS.pickN 6 [2, 3, 4, 5] (by decide)) ?_
             refine any_end (by kernel_rfl) (np_n (then_n ?_))
             have hS := hS.pickN 6 [2, 3, 4, 5] (by decide)
             exact ⟨r6.1, hF.wk [1, 2, 3, 7, 8, 11, 12, 13, 14], hS, hm⟩
            ·refine ao (listed' := #[true, true, true, true, true, true, true, true, true, true, true, true, false, true, false, false]) ?_
             refine at_do (d := 15) (s := vS (Instr.alloc 88 true (.tuple #[]))) (v := pa w.heap.size 0) (w' := w.alloc (.cells #[vi 0, vi 0, vi 0] 88)) hF (by kernel_rfl) (by kernel_rfl) (by kernel_rfl) (fun a hF => ?_)
             have hS : Sep w0 B (w.alloc (.cells #[vi 0, vi 0, vi 0] 88)) (blk w.heap.size 88 #[vi 0, vi 0, vi 0] :: (own 3 (.slice A4 r5.1.length c4) (vI r5.1) :: blk g1 75 (ca A1 p1.length c1 p2 p3 p4 p5 p6) :: blk g2 88 #[vi 0, vi 0, vi 0] :: ownK 88 3 A2 r1.length c2 (List.flatMap enc88 r1) :: blk g3 88 #[vi who1, vi who2, vi who3] :: fs)) := hS.box 88 #[vi 0, vi 0, vi 0]
             generalize w.heap.size = g4 at hF hS
             generalize w.alloc (.cells #[vi 0, vi 0, vi 0] 88) = w at hS ⊢
             refine any_fin rfl (hS.pickN 6 [2, 3, 4, 5] (by decide)) ?_
             refine aq [12, 14] ?_
             refine (all_cons ?_ (all_cons ?_ all_nil))
             ·refine ao (listed' := #[true, true, true, true, true, true, true, true, true, true, true, true, true, true, false, false]) ?_
              refine aw 1 [] [] [1, 2, 3, 7, 8, 11, 12, 13, 15, 66, 67] [pl 1 (vi deep1), pl 2 (vi ply1), pl 3 (pa g1 0), pl 7 (pa g2 0), pl 8 (.slice A2 r1.length c2), pl 11 (vi best1), pl 12 (pa g3 0), pl 13 (vi i1), pl 15 (pa g4 0), pl 66 (vi r6.1), pl 67 (.agg #[vi r6.2.1, vi r6.2.2.1, vi r6.2.2.2])] hF hS obs_nil (fun a hF => ?_)
              refine any_finI rfl (fun h => h) ?_
              refine aq [14] (all_cons ?_ all_nil)
              refine ao (listed' := #[true, true, true, true, true, true, true, true, true, true, true, true, true, true, true, false]) ?_
              refine aw 1 [] [] [1, 2, 3, 7, 8, 11, 12, 13, 14, 15, 67] [pl 1 (vi deep1), pl 2 (vi ply1), pl 3 (pa g1 0), pl 7 (pa g2 0), pl 8 (.slice A2 r1.length c2), pl 11 (vi best1), pl 12 (pa g3 0), pl 13 (vi i1), pl 14 (vi r6.1), pl 15 (pa g4 0), pl 67 (.agg #[vi r6.2.1, vi r6.2.2.1, vi r6.2.2.2])] hF hS obs_nil (fun a hF => ?_)
              refine any_finI rfl (fun h => h) ?_
              refine aq [15] (all_cons ?_ all_nil)
              refine ao (listed' := #[true, true, true, true, true, true, true, true, true, true, true, true, true, true, true, true]) ?_
              obtain ⟨w, hrun, hS⟩ := run_putA (P := Try.prog) (t := 88) (us := #[vi r6.2.1, vi r6.2.2.1, vi r6.2.2.2]) (o := 0) (hS.at_ 0 rfl) (by kernel_rfl) (all_one (by kernel_rfl)) (Nat.le_of_ble_eq_true (by kernel_rfl))
              refine at_s hF hrun ?_
              have hS : Sep w0 B w (blk g4 88 #[vi r6.2.1, vi r6.2.2.1, vi r6.2.2.2] :: own 3 (.slice A4 r5.1.length c4) (vI r5.1) :: blk g1 75 (ca A1 p1.length c1 p2 p3 p4 p5 p6) :: blk g2 88 #[vi 0, vi 0, vi 0] :: ownK 88 3 A2 r1.length c2 (List.flatMap enc88 r1) :: blk g3 88 #[vi who1, vi who2, vi who3] :: fs) := hS
              refine any_fin rfl (hS.pickN 6 [2, 3, 4, 5] (by decide)) ?_
              refine any_end (by kernel_rfl) (np_n (then_n ?_))
              have hS := hS.pickN 6 [2, 3, 4, 5] (by decide)
              exact ⟨r6.1, hF.wk [1, 2, 3, 7, 8, 11, 12, 13, 14], hS, hm⟩
             ·refine ao (listed' := #[true, true, true, true, true, true, true, true, true, true, true, true, false, true, true, false]) ?_
              refine aw 1 [] [] [1, 2, 3, 7, 8, 11, 12, 13, 14, 15, 55] [pl 1 (vi deep1), pl 2 (vi ply1), pl 3 (pa g1 0), pl 7 (pa g2 0), pl 8 (.slice A2 r1.length c2), pl 11 (vi best1), pl 12 (pa g3 0), pl 13 (vi i1), pl 14 (vi r6.1), pl 15 (pa g4 0), pl 55 (.tuple #[vi r6.1, .agg #[vi r6.2.1, vi r6.2.2.1, vi r6.2.2.2]])] hF hS obs_nil (fun a hF => ?_)
              refine any_finI rfl (fun h => h) ?_
              refine aq [12] (all_cons ?_ all_nil)
              refine ao (listed' := #[true, true, true, true, true, true, true, true, true, true, true, true, true, true, true, false]) ?_
              refine aw 1 [] [] [1, 2, 3, 7, 8, 11, 12, 13, 14, 15, 67] [pl 1 (vi deep1), pl 2 (vi ply1), pl 3 (pa g1 0), pl 7 (pa g2 0), pl 8 (.slice A2 r1.length c2), pl 11 (vi best1), pl 12 (pa g3 0), pl 13 (vi i1), pl 14 (vi r6.1), pl 15 (pa g4 0), pl 67 (.agg #[vi r6.2.1, vi r6.2.2.1, vi r6.2.2.2])] hF hS obs_nil (fun a hF => ?_)
              refine any_finI rfl (fun h => h) ?_
              refine aq [15] (all_cons ?_ all_nil)
              refine ao (listed' := #[true, true, true, true, true, true, true, true, true, true, true, true, true, true, true, true]) ?_
              obtain ⟨w, hrun, hS⟩ := run_putA (P := Try.prog) (t := 88) (us := #[vi r6.2.1, vi r6.2.2.1, vi r6.2.2.2]) (o := 0) (hS.at_ 0 rfl) (by kernel_rfl) (all_one (by kernel_rfl)) (Nat.le_of_ble_eq_true (by kernel_rfl))
              refine at_s hF hrun ?_
              have hS : Sep w0 B w (blk g4 88 #[vi r6.2.1, vi r6.2.2.1, vi r6.2.2.2] :: own 3 (.slice A4 r5.1.length c4) (vI r5.1) :: blk g1 75 (ca A1 p1.length c1 p2 p3 p4 p5 p6) :: blk g2 88 #[vi 0, vi 0, vi 0] :: ownK 88 3 A2 r1.length c2 (List.flatMap enc88 r1) :: blk g3 88 #[vi who1, vi who2, vi who3] :: fs) := hS
              refine any_fin rfl (hS.pickN 6 [2, 3, 4, 5] (by decide)) ?_
              refine any_end (by kernel_rfl) (np_n (then_n ?_))
              have hS := hS.pickN 6 [2, 3, 4, 5] (by decide)
              exact ⟨r6.1, hF.wk [1, 2, 3, 7, 8, 11, 12, 13, 14], hS, hm⟩
           ·refine ao (listed' := #[true, true, true, true, true, true, true, true, true, true, true, false, true, false, false, false]) ?_
            refine aw 1 [] [] [1, 2, 3, 7, 8, 11, 12, 13, 55, 67] [pl 1 (vi deep1), pl 2 (vi ply1), pl 3 (pa g1 0), pl 7 (pa g2 0), pl 8 (.slice A2 r1.length c2), pl 11 (vi best1), pl 12 (pa g3 0), pl 13 (vi i1), pl 55 (.tuple #[vi r6.1, .agg #[vi r6.2.1, vi r6.2.2.1, vi r6.2.2.2]]), pl 67 (.agg #[vi r6.2.1, vi r6.2.2.1, vi r6.2.2.2])] hF hS obs_nil (fun a hF => ?_)
            refine any_finI rfl (fun h => h) ?_
            refine aq [11, 13] ?_
            refine (all_cons ?_ (all_cons ?_ all_nil))
            ·refine ao (listed' := #[true, true, true, true, true, true, true, true, true, true, true, true, true, false, false, false]) ?_
             refine aw 1 [] [] [1, 2, 3, 7, 8, 11, 12, 13, 66, 67] [pl 1 (vi deep1), pl 2 (vi ply1), pl 3 (pa g1 0), pl 7 (pa g2 0), pl 8 (.slice A2 r1.length c2), pl 11 (vi best1), pl 12 (pa g3 0), pl 13 (vi i1), pl 66 (vi r6.1), pl 67 (.agg #[vi r6.2.1, vi r6.2.2.1, vi r6.2.2.2])] hF hS obs_nil (fun a hF => ?_)
             refine any_finI rfl (fun h => h) ?_
             refine aq [13] (all_cons ?_ all_nil)
             refine ao (listed' := #[true, true, true, true, true, true, true, true, true, true, true, true, true, true, false, false]) ?_
             refine at_do (d := 15) (s := vS (Instr.alloc 88 true (.tuple #[]))) (v := pa w.heap.size 0) (w' := w.alloc (.cells #[vi 0, vi 0, vi 0] 88)) hF (by kernel_rfl) (by kernel_rfl) (by kernel_rfl) (fun a hF => ?_)
             have hS : Sep w0 B (w.alloc (.cells #[vi 0, vi 0, vi 0] 88)) (blk w.heap.size 88 #[vi 0, vi 0, vi 0] :: (own 3 (.slice A4 r5.1.length c4) (vI r5.1) :: blk g1 75 (ca A1 p1.length c1 p2 p3 p4 p5 p6) :: blk g2 88 #[vi 0, vi 0, vi 0] :: ownK 88 3 A2 r1.length c2 (List.flatMap enc88 r1) :: blk g3 88 #[vi who1, vi who2, vi who3] :: fs)) := hS.box 88 #[vi 0, vi 0, vi 0]
             generalize w.heap.size = g4 at hF hS
             generalize w.alloc (.cells #[vi 0, vi 0, vi 0] 88) = w at hS ⊢
             refine any_fin rfl (hS.pickN 6 [2, 3, 4, 5] (by decide)) ?_
             refine aq [14] (all_cons ?_ all_nil)
             refine ao (listed' := #[true, true, true, true, true, true, true, true, true, true, true, true, true, true, true, false]) ?_
             refine aw 1 [] [] [1, 2, 3, 7, 8, 11, 12, 13, 14, 15, 67] [pl 1 (vi deep1), pl 2 (vi ply1), pl 3 (pa g1 0), pl 7 (pa g2 0), pl 8 (.slice A2 r1.length c2), pl 11 (vi best1), pl 12 (pa g3 0), pl 13 (vi i1), pl 14 (vi r6.1), pl 15 (pa g4 0), pl 67 (.agg #[vi r6.2.1, vi r6.2.2.1, vi r6.2.2.2])] hF hS obs_nil (fun a hF => ?_)
             refine any_finI rfl (fun h => h) ?_
             refine aq [15] (all_cons ?_ all_nil)
             refine ao (listed' := #[true, true, true, true, true, true, true, true, true, true, true, true, true, true, true, true]) ?_
             obtain ⟨w, hrun, hS⟩ := run_putA (P := Try.prog) (t := 88) (us := #[vi r6.2.1, vi r6.2.2.1, vi r6.2.2.2]) (o := 0) (hS.at_ 0 rfl) (by kernel_rfl) (all_one (by kernel_rfl)) (Nat.le_of_ble_eq_true (by kernel_rfl))
             refine at_s hF hrun ?_
             have hS : Sep w0 B w (blk g4 88 #[vi r6.2.1, vi r6.2.2.1, vi r6.2.2.2] :: own 3 (.slice A4 r5.1.length c4) (vI r5.1) :: blk g1 75 (ca A1 p1.length c1 p2 p3 p4 p5 p6) :: blk g2 88 #[vi 0, vi 0, vi 0] :: ownK 88 3 A2 r1.length c2 (List.flatMap enc88 r1) :: blk g3 88 #[vi who1, vi who2, vi who3] :: fs) := hS
             refine any_fin rfl (hS.pickN 6 [2, 3, 4, 5] (by decide)) ?_
             refine any_end (by kernel_rfl) (np_n (then_n ?_))
             have hS := hS.pickN 6 [2, 3, 4, 5] (by decide)
             exact ⟨r6.1, hF.wk [1, 2, 3, 7, 8, 11, 12, 13, 14], hS, hm⟩
            ·refine ao (listed' := #[true, true, true, true, true, true, true, true, true, true, true, false, true, true, false, false]) ?_
             refine at_do (d := 15) (s := vS (Instr.alloc 88 true (.tuple #[]))) (v := pa w.heap.size 0) (w' := w.alloc (.cells #[vi 0, vi 0, vi 0] 88)) hF (by kernel_rfl) (by kernel_rfl) (by kernel_rfl) (fun a hF => ?_)
             have hS : Sep w0 B (w.alloc (.cells #[vi 0, vi 0, vi 0] 88)) (blk w.heap.size 88 #[vi 0, vi 0, vi 0] :: (own 3 (.slice A4 r5.1.length c4) (vI r5.1) :: blk g1 75 (ca A1 p1.length c1 p2 p3 p4 p5 p6) :: blk g2 88 #[vi 0, vi 0, vi 0] :: ownK 88 3 A2 r1.length c2 (List.flatMap enc88 r1) :: blk g3 88 #[vi who1, vi who2, vi who3] :: fs)) := hS.box 88 #[vi 0, vi 0, vi 0]
             generalize w.heap.size = g4 at hF hS
             generalize w.alloc (.cells #[vi 0, vi 0, vi 0] 88) = w at hS ⊢
             refine any_fin rfl (hS.pickN 6 [2, 3, 4, 5] (by decide)) ?_
             refine aq [11] (all_cons ?_ all_nil)
             refine ao (listed' := #[true, true, true, true, true, true, true, true, true, true, true, true, true, true, false, false]) ?_
             refine aw 1 [] [] [1, 2, 3, 7, 8, 11, 12, 13, 15, 66, 67] [pl 1 (vi deep1), pl 2 (vi ply1), pl 3 (pa g1 0), pl 7 (pa g2 0), pl 8 (.slice A2 r1.length c2), pl 11 (vi best1), pl 12 (pa g3 0), pl 13 (vi i1), pl 15 (pa g4 0), pl 66 (vi r6.1), pl 67 (.agg #[vi r6.2.1, vi r6.2.2.1, vi r6.2.2.2])] hF hS obs_nil (fun a hF => ?_)
             refine any_finI rfl (fun h => h) ?_
             refine aq [14] (all_cons ?_ all_nil)
             refine ao (listed' := #[true, true, true, true, true, true, true, true, true, true, true, true, true, true, true, false]) ?_
             refine aw 1 [] [] [1, 2, 3, 7, 8, 11, 12, 13, 14, 15, 67] [pl 1 (vi deep1), pl 2 (vi ply1), pl 3 (pa g1 0), pl 7 (pa g2 0), pl 8 (.slice A2 r1.length c2), pl 11 (vi best1), pl 12 (pa g3 0), pl 13 (vi i1), pl 14 (vi r6.1), pl 15 (pa g4 0), pl 67 (.agg #[vi r6.2.1, vi r6.2.2.1, vi r6.2.2.2])] hF hS obs_nil (fun a hF => ?_)
             refine any_finI rfl (fun h => h) ?_
             refine aq [15] (all_cons ?_ all_nil)
             refine ao (listed' := #[true, true, true, true, true, true, true, true, true, true, true, true, true, true, true, true]) ?_
             obtain ⟨w, hrun, hS⟩ := run_putA (P := Try.prog) (t := 88) (us := #[vi r6.2.1, vi r6.2.2.1, vi r6.2.2.2]) (o := 0) (hS.at_ 0 rfl) (by kernel_rfl) (all_one (by kernel_rfl)) (Nat.le_of_ble_eq_true (by kernel_rfl))
             refine at_s hF hrun ?_
             have hS : Sep w0 B w (blk g4 88 #[vi r6.2.1, vi r6.2.2.1, vi r6.2.2.2] :: own 3 (.slice A4 r5.1.length c4) (vI r5.1) :: blk g1 75 (ca A1 p1.length c1 p2 p3 p4 p5 p6) :: blk g2 88 #[vi 0, vi 0, vi 0] :: ownK 88 3 A2 r1.length c2 (List.flatMap enc88 r1) :: blk g3 88 #[vi who1, vi who2, vi who3] :: fs) := hS
             refine any_fin rfl (hS.pickN 6 [2, 3, 4, 5] (by decide)) ?_
             refine any_end (by kernel_rfl) (np_n (then_n ?_))
             have hS := hS.pickN 6 [2, 3, 4, 5] (by decide)
             exact ⟨r6.1, hF.wk [1, 2, 3, 7, 8, 11, 12, 13, 14], hS, hm⟩
           ·refine ao (listed' := #[true, true, true, true, true, true, true, true, true, true, true, false, false, true, false, false]) ?_
            refine at_do (d := 15) (s := vS (Instr.alloc 88 true (.tuple #[]))) (v := pa w.heap.size 0) (w' := w.alloc (.cells #[vi 0, vi 0, vi 0] 88)) hF (by kernel_rfl) (by kernel_rfl) (by kernel_rfl) (fun a hF => ?_)
            have hS : Sep w0 B (w.alloc (.cells #[vi 0, vi 0, vi 0] 88)) (blk w.heap.size 88 #[vi 0, vi 0, vi 0] :: (own 3 (.slice A4 r5.1.length c4) (vI r5.1) :: blk g1 75 (ca A1 p1.length c1 p2 p3 p4 p5 p6) :: blk g2 88 #[vi 0, vi 0, vi 0] :: ownK 88 3 A2 r1.length c2 (List.flatMap enc88 r1) :: blk g3 88 #[vi who1, vi who2, vi who3] :: fs)) := hS.box 88 #[vi 0, vi 0, vi 0]
            generalize w.heap.size = g4 at hF hS
            generalize w.alloc (.cells #[vi 0, vi 0, vi 0] 88) = w at hS ⊢
            refine any_fin rfl (hS.pickN 6 [2, 3, 4, 5] (by decide)) ?_
            refine aq [11, 12] ?_
            refine (all_cons ?_ (all_cons ?_ all_nil))
            ·refine ao (listed' := #[true, true, true, true, true, true, true, true, true, true, true, true, false, true, false, false]) ?_
             refine aw 1 [] [] [1, 2, 3, 7, 8, 11, 12, 13, 15, 55, 66] [pl 1 (vi deep1), pl 2 (vi ply1), pl 3 (pa g1 0), pl 7 (pa g2 0), pl 8 (.slice A2 r1.length c2), pl 11 (vi best1), pl 12 (pa g3 0), pl 13 (vi i1), pl 15 (pa g4 0), pl 55 (.tuple #[vi r6.1, .agg #[vi r6.2.1, vi r6.2.2.1, vi r6.2.2.2]]), pl 66 (vi r6.1)] hF hS obs_nil (fun a hF => ?_)
             refine any_finI rfl (fun h => h) ?_
             refine aq [12, 14] ?_
             refine (all_cons ?_ (all_cons ?_ all_nil))
             ·refine ao (listed' := #[true, true, true, true, true, true, true, true, true, true, true, true, true, true, false, false]) ?_
              refine aw 1 [] [] [1, 2, 3, 7, 8, 11, 12, 13, 15, 66, 67] [pl 1 (vi deep1), pl 2 (vi ply1), pl 3 (pa g1 0), pl 7 (pa g2 0), pl 8 (.slice A2 r1.length c2), pl 11 (vi best1), pl 12 (pa g3 0), pl 13 (vi i1), pl 15 (pa g4 0), pl 66 (vi r6.1), pl 67 (.agg #[vi r6.2.1, vi r6.2.2.1, vi r6.2.2.2])] hF hS obs_nil (fun a hF => ?_)
              refine any_finI rfl (fun h => h) ?_
              refine aq [14] (all_cons ?_ all_nil)
              refine ao (listed' := #[true, true, true, true, true, true, true, true, true, true, true, true, true, true, true, false]) ?_
              refine aw 1 [] [] [1, 2, 3, 7, 8, 11, 12, 13, 14, 15, 67] [pl 1 (vi deep1), pl 2 (vi ply1), pl 3 (pa g1 0), pl 7 (pa g2 0), pl 8 (.slice A2 r1.length c2), pl 11 (vi best1), pl 12 (pa g3 0), pl 13 (vi i1), pl 14 (vi r6.1), pl 15 (pa g4 0), pl 67 (.agg #[vi r6.2.1, vi r6.2.2.1, vi r6.2.2.2])] hF hS obs_nil (fun a hF => ?_)
              refine any_finI rfl (fun h => h) ?_
              refine aq [15] (all_cons ?_ all_nil)
              refine ao (listed' := #[true, true, true, true, true, true, true, true, true, true, true, true, true, true, true, true]) ?_
              obtain ⟨w, hrun, hS⟩ := run_putA (P := Try.prog) (t := 88) (us := #[vi r6.2.1, vi r6.2.2.1, vi r6.2.2.2]) (o := 0) (hS.at_ 0 rfl) (by kernel_rfl) (all_one (by kernel_rfl)) (Nat.le_of_ble_eq_true (by kernel_rfl))
              refine at_s hF hrun ?_
              have hS : Sep w0 B w (blk g4 88 #[vi r6.2.1, vi r6.2.2.1, vi r6.2.2.2] :: own 3 (.slice A4 r5.1.length c4) (vI r5.1) :: blk g1 75 (ca A1 p1.length c1 p2 p3 p4 p5 p6) :: blk g2 88 #[vi 0, vi 0, vi 0] :: ownK 88 3 A2 r1.length c2 (List.flatMap enc88 r1) :: blk g3 88 #[vi who1, vi who2, vi who3] :: fs) := hS
              refine any_fin rfl (hS.pickN 6 [2, 3, 4, 5] (by decide)) ?_
              refine any_end (by kernel_rfl) (np_n (then_n ?_))
              have hS := hS.pickN 6 [2, 3, 4, 5] (by decide)
              exact ⟨r6.1, hF.wk [1, 2, 3, 7, 8, 11, 12, 13, 14], hS, hm⟩
             ·refine ao (listed' := #[true, true, true, true, true, true, true, true, true, true, true, true, false, true, true, false]) ?_
              refine aw 1 [] [] [1, 2, 3, 7, 8, 11, 12, 13, 14, 15, 55] [pl 1 (vi deep1), pl 2 (vi ply1), pl 3 (pa g1 0), pl 7 (pa g2 0), pl 8 (.slice A2 r1.length c2), pl 11 (vi best1), pl 12 (pa g3 0), pl 13 (vi i1), pl 14 (vi r6.1), pl 15 (pa g4 0), pl 55 (.tuple #[vi r6.1, .agg #[vi r6.2.1, vi r6.2.2.1, vi r6.2.2.2]])] hF hS obs_nil (fun a hF => ?_)
              refine any_finI rfl (fun h => h) ?_
              refine aq [12] (all_cons ?_ all_nil)
              refine ao (listed' := #[true, true, true, true, true, true, true, true, true, true, true, true, true, true, true, false]) ?_
              refine aw 1 [] [] [1, 2, 3, 7, 8, 11, 12, 13, 14, 15, 67] [pl 1 (vi deep1), pl 2 (vi ply1), pl 3 (pa g1 0), pl 7 (pa g2 0), pl 8 (.slice A2 r1.length c2), pl 11 (vi best1), pl 12 (pa g3 0), pl 13 (vi i1), pl 14 (vi r6.1), pl 15 (pa g4 0), pl 67 (.agg #[vi r6.2.1, vi r6.2.2.1, vi r6.2.2.2])] hF hS obs_nil (fun a hF => ?_)
              refine any_finI rfl (fun h => h) ?_
              refine aq [15] (all_cons ?_ all_nil)
              refine ao (listed' := #[true, true, true, true, true, true, true, true, true, true, true, true, true, true, true, true]) ?_
              obtain ⟨w, hrun, hS⟩ := run_putA (P := Try.prog) (t := 88) (us := #[vi r6.2.1, vi r6.2.2.1, vi r6.2.2.2]) (o := 0) (hS.at_ 0 rfl) (by kernel_rfl) (all_one (by kernel_rfl)) (Nat.le_of_ble_eq_true (by kernel_rfl))
              refine at_s hF hrun ?_
              have hS : Sep w0 B w (blk g4 88 #[vi r6.2.1, vi r6.2.2.1, vi r6.2.2.2] :: own 3 (.slice A4 r5.1.length c4) (vI r5.1) :: blk g1 75 (ca A1 p1.length c1 p2 p3 p4 p5 p6) :: blk g2 88 #[vi 0, vi 0, vi 0] :: ownK 88 3 A2 r1.length c2 (List.flatMap enc88 r1) :: blk g3 88 #[vi who1, vi who2, vi who3] :: fs) := hS
              refine any_fin rfl (hS.pickN 6 [2, 3, 4, 5] (by decide)) ?_
              refine any_end (by kernel_rfl) (np_n (then_n ?_))
              have hS := hS.pickN 6 [2, 3, 4, 5] (by decide)
              exact ⟨r6.1, hF.wk [1, 2, 3, 7, 8, 11, 12, 13, 14], hS, hm⟩
            ·refine ao (listed' := #[true, true, true, true, true, true, true, true, true, true, true, false, true, true, false, false]) ?_
             refine aw 1 [] [] [1, 2, 3, 7, 8, 11, 12, 13, 15, 55, 67] [pl 1 (vi deep1), pl 2 (vi ply1), pl 3 (pa g1 0), pl 7 (pa g2 0), pl 8 (.slice A2 r1.length c2), pl 11 (vi best1), pl 12 (pa g3 0), pl 13 (vi i1), pl 15 (pa g4 0), pl 55 (.tuple #[vi r6.1, .agg #[vi r6.2.1, vi r6.2.2.1, vi r6.2.2.2]]), pl 67 (.agg #[vi r6.2.1, vi r6.2.2.1, vi r6.2.2.2])] hF hS obs_nil (fun a hF => ?_)
             refine any_finI rfl (fun h => h) ?_
             refine aq [11] (all_cons ?_ all_nil)
             refine ao (listed' := #[true, true, true, true, true, true, true, true, true, true, true, true, true, true, false, false]) ?_
             refine aw 1 [] [] [1, 2, 3, 7, 8, 11, 12, 13, 15, 66, 67] [pl 1 (vi deep1), pl 2 (vi ply1), pl 3 (pa g1 0), pl 7 (pa g2 0), pl 8 (.slice A2 r1.length c2), pl 11 (vi best1), pl 12 (pa g3 0), pl 13 (vi i1), pl 15 (pa g4 0), pl 66 (vi r6.1), pl 67 (.agg #[vi r6.2.1, vi r6.2.2.1, vi r6.2.2.2])] hF hS obs_nil (fun a hF => ?_)
             refine any_finI rfl (fun h => h) ?_
             refine aq [14] (all_cons ?_ all_nil)
             refine ao (listed' := #[true, true, true, true, true, true, true, true, true, true, true, true, true, true, true, false]) ?_
             refine aw 1 [] [] [1, 2, 3, 7, 8, 11, 12, 13, 14, 15, 67] [pl 1 (vi deep1), pl 2 (vi ply1), pl 3 (pa g1 0), pl 7 (pa g2 0), pl 8 (.slice A2 r1.length c2), pl 11 (vi best1), pl 12 (pa g3 0), pl 13 (vi i1), pl 14 (vi r6.1), pl 15 (pa g4 0), pl 67 (.agg #[vi r6.2.1, vi r6.2.2.1, vi r6.2.2.2])] hF hS obs_nil (fun a hF => ?_)
             refine any_finI rfl (fun h => h) ?_
             refine aq [15] (all_cons ?_ all_nil)
             refine ao (listed' := #[true, true, true, true, true, true, true, true, true, true, true, true, true, true, true, true]) ?_
             obtain ⟨w, hrun, hS⟩ := run_putA (P := Try.prog) (t := 88) (us := #[vi r6.2.1, vi r6.2.2.1, vi r6.2.2.2]) (o := 0) (hS.at_ 0 rfl) (by kernel_rfl) (all_one (by kernel_rfl)) (Nat.le_of_ble_eq_true (by kernel_rfl))
             refine at_s hF hrun ?_
             have hS : Sep w0 B w (blk g4 88 #[vi r6.2.1, vi r6.2.2.1, vi r6.2.2.2] :: own 3 (.slice A4 r5.1.length c4) (vI r5.1) :: blk g1 75 (ca A1 p1.length c1 p2 p3 p4 p5 p6) :: blk g2 88 #[vi 0, vi 0, vi 0] :: ownK 88 3 A2 r1.length c2 (List.flatMap enc88 r1) :: blk g3 88 #[vi who1, vi who2, vi who3] :: fs) := hS
             refine any_fin rfl (hS.pickN 6 [2, 3, 4, 5] (by decide)) ?_
             refine any_end (by kernel_rfl) (np_n (then_n ?_))
             have hS := hS.pickN 6 [2, 3, 4, 5] (by decide)
             exact ⟨r6.1, hF.wk [1, 2, 3, 7, 8, 11, 12, 13, 14], hS, hm⟩
          ·refine ao (listed' := #[true, true, true, true, true, true, true, true, true, true, false, false, false, true, false, false]) ?_
           refine at_do (d := 15) (s := vS (Instr.alloc 88 true (.tuple #[]))) (v := pa w.heap.size 0) (w' := w.alloc (.cells #[vi 0, vi 0, vi 0] 88)) hF (by kernel_rfl) (by kernel_rfl) (by kernel_rfl) (fun a hF => ?_)
           have hS : Sep w0 B (w.alloc (.cells #[vi 0, vi 0, vi 0] 88)) (blk w.heap.size 88 #[vi 0, vi 0, vi 0] :: (own 3 (.slice A4 r5.1.length c4) (vI r5.1) :: blk g1 75 (ca A1 p1.length c1 p2 p3 p4 p5 p6) :: blk g2 88 #[vi 0, vi 0, vi 0] :: ownK 88 3 A2 r1.length c2 (List.flatMap enc88 r1) :: blk g3 88 #[vi who1, vi who2, vi who3] :: fs)) := hS.box 88 #[vi 0, vi 0, vi 0]
           generalize w.heap.size = g4 at hF hS
           generalize w.alloc (.cells #[vi 0, vi 0, vi 0] 88) = w at hS ⊢
           refine any_fin rfl (hS.pickN 6 [2, 3, 4, 5] (by decide)) ?_
           refine aq [10] (all_cons ?_ all_nil)
           refine ao (listed' := #[true, true, true, true, true, true, true, true, true, true, true, false, false, true, false, false]) ?_
           refine aw 1 [] [] [1, 2, 3, 7, 8, 11, 12, 13, 15, 55] [pl 1 (vi deep1), pl 2 (vi ply1), pl 3 (pa g1 0), pl 7 (pa g2 0), pl 8 (.slice A2 r1.length c2), pl 11 (vi best1), pl 12 (pa g3 0), pl 13 (vi i1), pl 15 (pa g4 0), pl 55 (.tuple #[vi r6.1, .agg #[vi r6.2.1, vi r6.2.2.1, vi r6.2.2.2]])] hF hS obs_nil (fun a hF => ?_)
           refine any_finI rfl (fun h => h) ?_
           refine aq [11, 12] ?_
           refine (all_cons ?_ (all_cons ?_ all_nil))
           ·refine ao (listed' := #[true, true, true, true, true, true, true, true, true, true, true, true, false, true, false, false]) ?_
            refine aw 1 [] [] [1, 2, 3, 7, 8, 11, 12, 13, 15, 55, 66] [pl 1 (vi deep1), pl 2 (vi ply1), pl 3 (pa g1 0), pl 7 (pa g2 0), pl 8 (.slice A2 r1.length c2), pl 11 (vi best1), pl 12 (pa g3 0), pl 13 (vi i1), pl 15 (pa g4 0), pl 55 (.tuple #[vi r6.1, .agg #[vi r6.2.1, vi r6.2.2.1, vi r6.2.2.2]]), pl 66 (vi r6.1)] hF hS obs_nil (fun a hF => ?_)
            refine any_finI rfl (fun h => h) ?_
            refine aq [12, 14] ?_
            refine (all_cons ?_ (all_cons ?_ all_nil))
            ·refine ao (listed' := #[true, true, true, true, true, true, true, true, true, true, true, true, true, true, false, false]) ?_
             refine aw 1 [] [] [1, 2, 3, 7, 8, 11, 12, 13, 15, 66, 67] [pl 1 (vi deep1), pl 2 (vi ply1), pl 3 (pa g1 0), pl 7 (pa g2 0), pl 8 (.slice A2 r1.length c2), pl 11 (vi best1), pl 12 (pa g3 0), pl 13 (vi i1), pl 15 (pa g4 0), pl 66 (vi r6.1), pl 67 (.agg #[vi r6.2.1, vi r6.2.2.1, vi r6.2.2.2])] hF hS obs_nil (fun a hF => ?_)
             refine any_finI rfl (fun h => h) ?_
             refine aq [14] (all_cons ?_ all_nil)
             refine ao (listed' := #[true, true, true, true, true, true, true, true, true, true, true, true, true, true, true, false]) ?_
             refine aw 1 [] [] [1, 2, 3, 7, 8, 11, 12, 13, 14, 15, 67] [pl 1 (vi deep1), pl 2 (vi ply1), pl 3 (pa g1 0), pl 7 (pa g2 0), pl 8 (.slice A2 r1.length c2), pl 11 (vi best1), pl 12 (pa g3 0), pl 13 (vi i1), pl 14 (vi r6.1), pl 15 (pa g4 0), pl 67 (.agg #[vi r6.2.1, vi r6.2.2.1, vi r6.2.2.2])] hF hS obs_nil (fun a hF => ?_)
             refine any_finI rfl (fun h => h) ?_
             refine aq [15] (all_cons ?_ all_nil)
             refine ao (listed' := #[true, true, true, true, true, true, true, true, true, true, true, true, true, true, true, true]) ?_
             obtain ⟨w, hrun, hS⟩ := run_putA (P := Try.prog) (t := 88) (us := #[vi r6.2.1, vi r6.2.2.1, vi r6.2.2.2]) (o := 0) (hS.at_ 0 rfl) (by kernel_rfl) (all_one (by kernel_rfl)) (Nat.le_of_ble_eq_true (by kernel_rfl))
             refine at_s hF hrun ?_
             have hS : Sep w0 B w (blk g4 88 #[vi r6.2.1, vi r6.2.2.1, vi r6.2.2.2] :: own 3 (.slice A4 r5.1.length c4) (vI r5.1) :: blk g1 75 (ca A1 p1.length c1 p2 p3 p4 p5 p6) :: blk g2 88 #[vi 0, vi 0, vi 0] :: ownK 88 3 A2 r1.length c2 (List.flatMap enc88 r1) :: blk g3 88 #[vi who1, vi who2, vi who3] :: fs) := hS
             refine any_fin rfl (hS.pickN 6 [2, 3, 4, 5] (by decide)) ?_
             refine any_end (by kernel_rfl) (np_n (then_n ?_))
             have hS := hS.pickN 6 [2, 3, 4, 5] (by decide)
             exact ⟨r6.1, hF.wk [1, 2, 3, 7, 8, 11, 12, 13, 14], hS, hm⟩
            ·refine ao (listed' := #[true, true, true, true, true, true, true, true, true, true, true, true, false, true, true, false]) ?_
             refine aw 1 [] [] [1, 2, 3, 7, 8, 11, 12, 13, 14, 15, 55] [pl 1 (vi deep1), pl 2 (vi ply1), pl 3 (pa g1 0), pl 7 (pa g2 0), pl 8 (.slice A2 r1.length c2), pl 11 (vi best1), pl 12 (pa g3 0), pl 13 (vi i1), pl 14 (vi r6.1), pl 15 (pa g4 0), pl 55 (.tuple #[vi r6.1, .agg #[vi r6.2.1, vi r6.2.2.1, vi r6.2.2.2]])] hF hS obs_nil (fun a hF => ?_)
             refine any_finI rfl (fun h => h) ?_
             refine aq [12] (all_cons ?_ all_nil)
             refine ao (listed' := #[true, true, true, true, true, true, true, true, true, true, true, true, true, true, true, false]) ?_
             refine aw 1 [] [] [1, 2, 3, 7, 8, 11, 12, 13, 14, 15, 67] [pl 1 (vi deep1), pl 2 (vi ply1), pl 3 (pa g1 0), pl 7 (pa g2 0), pl 8 (.slice A2 r1.length c2), pl 11 (vi best1), pl 12 (pa g3 0), pl 13 (vi i1), pl 14 (vi r6.1), pl 15 (pa g4 0), pl 67 (.agg #[vi r6.2.1, vi r6.2.2.1, vi r6.2.2.2])] hF hS obs_nil (fun a hF => ?_)
             refine any_finI rfl (fun h => h) ?_
             refine aq [15] (all_cons ?_ all_nil)
             refine ao (listed' := #[true, true, true, true, true, true, true, true, true, true, true, true, true, true, true, true]) ?_
             obtain ⟨w, hrun, hS⟩ := run_putA (P := Try.prog) (t := 88) (us := #[vi r6.2.1, vi r6.2.2.1, vi r6.2.2.2]) (o := 0) (hS.at_ 0 rfl) (by kernel_rfl) (all_one (by kernel_rfl)) (Nat.le_of_ble_eq_true (by kernel_rfl))
             refine at_s hF hrun ?_
             have hS : Sep w0 B w (blk g4 88 #[vi r6.2.1, vi r6.2.2.1, vi r6.2.2.2] :: own 3 (.slice A4 r5.1.length c4) (vI r5.1) :: blk g1 75 (ca A1 p1.length c1 p2 p3 p4 p5 p6) :: blk g2 88 #[vi 0, vi 0, vi 0] :: ownK 88 3 A2 r1.length c2 (List.flatMap enc88 r1) :: blk g3 88 #[vi who1, vi who2, vi who3] :: fs) := hS
             refine any_fin rfl (hS.pickN 6 [2, 3, 4, 5] (by decide)) ?_
             refine any_end (by kernel_rfl) (np_n (then_n ?_))
             have hS := hS.pickN 6 [2, 3, 4, 5] (by decide)
             exact ⟨r6.1, hF.wk [1, 2, 3, 7, 8, 11, 12, 13, 14], hS, hm⟩
           ·refine ao (listed' := #[true, true, true, true, true, true, true, true, true, true, true, false, true, true, false, false]) ?_
            refine aw 1 [] [] [1, 2, 3, 7, 8, 11, 12, 13, 15, 55, 67] [pl 1 (vi deep1), pl 2 (vi ply1), pl 3 (pa g1 0), pl 7 (pa g2 0), pl 8 (.slice A2 r1.length c2), pl 11 (vi best1), pl 12 (pa g3 0), pl 13 (vi i1), pl 15 (pa g4 0), pl 55 (.tuple #[vi r6.1, .agg #[vi r6.2.1, vi r6.2.2.1, vi r6.2.2.2]]), pl 67 (.agg #[vi r6.2.1, vi r6.2.2.1, vi r6.2.2.2])] hF hS obs_nil (fun a hF => ?_)
            refine any_finI rfl (fun h => h) ?_
            refine aq [11] (all_cons ?_ all_nil)
            refine ao (listed' := #[true, true, true, true, true, true, true, true, true, true, true, true, true, true, false, false]) ?_
            refine aw 1 [] [] [1, 2, 3, 7, 8, 11, 12, 13, 15, 66, 67] [pl 1 (vi deep1), pl 2 (vi ply1), pl 3 (pa g1 0), pl 7 (pa g2 0), pl 8 (.slice A2 r1.length c2), pl 11 (vi best1), pl 12 (pa g3 0), pl 13 (vi i1), pl 15 (pa g4 0), pl 66 (vi r6.1), pl 67 (.agg #[vi r6.2.1, vi r6.2.2.1, vi r6.2.2.2])] hF hS obs_nil (fun a hF => ?_)
            refine any_finI rfl (fun h => h) ?_
            refine aq [14] (all_cons ?_ all_nil)
            refine ao (listed' := #[true, true, true, true, true, true, true, true, true, true, true, true, true, true, true, false]) ?_
            refine aw 1 [] [] [1, 2, 3, 7, 8, 11, 12, 13, 14, 15, 67] [pl 1 (vi deep1), pl 2 (vi ply1), pl 3 (pa g1 0), pl 7 (pa g2 0), pl 8 (.slice A2 r1.length c2), pl 11 (vi best1), pl 12 (pa g3 0), pl 13 (vi i1), pl 14 (vi r6.1), pl 15 (pa g4 0), pl 67 (.agg #[vi r6.2.1, vi r6.2.2.1, vi r6.2.2.2])] hF hS obs_nil (fun a hF => ?_)
            refine any_finI rfl (fun h => h) ?_
            refine aq [15] (all_cons ?_ all_nil)
            refine ao (listed' := #[true, true, true, true, true, true, true, true, true, true, true, true, true, true, true, true]) ?_
            obtain ⟨w, hrun, hS⟩ := run_putA (P := Try.prog) (t := 88) (us := #[vi r6.2.1, vi r6.2.2.1, vi r6.2.2.2]) (o := 0) (hS.at_ 0 rfl) (by kernel_rfl) (all_one (by kernel_rfl)) (Nat.le_of_ble_eq_true (by kernel_rfl))
            refine at_s hF hrun ?_
            have hS : Sep w0 B w (blk g4 88 #[vi r6.2.1, vi r6.2.2.1, vi r6.2.2.2] :: own 3 (.slice A4 r5.1.length c4) (vI r5.1) :: blk g1 75 (ca A1 p1.length c1 p2 p3 p4 p5 p6) :: blk g2 88 #[vi 0, vi 0, vi 0] :: ownK 88 3 A2 r1.length c2 (List.flatMap enc88 r1) :: blk g3 88 #[vi who1, vi who2, vi who3] :: fs) := hS
            refine any_fin rfl (hS.pickN 6 [2, 3, 4, 5] (by decide)) ?_
            refine any_end (by kernel_rfl) (np_n (then_n ?_))
            have hS := hS.pickN 6 [2, 3, 4, 5] (by decide)
            exact ⟨r6.1, hF.wk [1, 2, 3, 7, 8, 11, 12, 13, 14], hS, hm⟩
         ·refine ao (listed' := #[true, true, true, true, true, true, true, true, true, false, false, false, false, true, false, false]) ?_
          refine at_do (d := 15) (s := vS (Instr.alloc 88 true (.tuple #[]))) (v := pa w.heap.size 0) (w' := w.alloc (.cells #[vi 0, vi 0, vi 0] 88)) hF (by kernel_rfl) (by kernel_rfl) (by kernel_rfl) (fun a hF => ?_)
          have hS : Sep w0 B (w.alloc (.cells #[vi 0, vi 0, vi 0] 88)) (blk w.heap.size 88 #[vi 0, vi 0, vi 0] :: (own 3 (.slice A4 r5.1.length c4) (vI r5.1) :: blk g1 75 (ca A1 p1.length c1 p2 p3 p4 p5 p6) :: blk g2 88 #[vi 0, vi 0, vi 0] :: ownK 88 3 A2 r1.length c2 (List.flatMap enc88 r1) :: blk g3 88 #[vi who1, vi who2, vi who3] :: fs)) := hS.box 88 #[vi 0, vi 0, vi 0]
          generalize w.heap.size = g4 at hF hS
          generalize w.alloc (.cells #[vi 0, vi 0, vi 0] 88) = w at hS ⊢
          refine any_fin rfl (hS.pickN 6 [2, 3, 4, 5] (by decide)) ?_
          refine aq [9] (all_cons ?_ all_nil)
          refine ao (listed' := #[true, true, true, true, true, true, true, true, true, true, false, false, false, true, false, false]) ?_
          refine ar 1 [⟨false, [], callFunc 70 #[.agg (ca A4 r5.1.length c4 r5.2.1 r5.2.2.1 r5.2.2.2.1 r5.2.2.2.2.1 r5.2.2.2.2.2), vi deep1, vi (w64 (ply1 + 1))], .tuple #[vi r6.1, .agg #[vi r6.2.1, vi r6.2.2.1, vi r6.2.2.2]]⟩] [some (.tuple #[vi r6.1, .agg #[vi r6.2.1, vi r6.2.2.1, vi r6.2.2.2]])] [1, 2, 3, 7, 8, 11, 12, 13, 15, 65] [pl 1 (vi deep1), pl 2 (vi ply1), pl 3 (pa g1 0), pl 7 (pa g2 0), pl 8 (.slice A2 r1.length c2), pl 11 (vi best1), pl 12 (pa g3 0), pl 13 (vi i1), pl 15 (pa g4 0), pl 65 (.tuple #[vi r6.1, .agg #[vi r6.2.1, vi r6.2.2.1, vi r6.2.2.2]])] hF hS ?_ (fun a w hF hS => ?_)
          ·exact obs_cons (ob_call Try.func70 (by kernel_rfl) rfl (fun _ _ hS => ih_rf_BestOf18 hr6 hS (fun _ hS => (hS.at_ 1 rfl).rd) ((hS.at_ 1 rfl).cap1) rfl)) <| obs_nil
          refine any_fin rfl (hS.pickN 6 [2, 3, 4, 5] (by decide)) ?_
          refine aq [10] (all_cons ?_ all_nil)
          refine ao (listed' := #[true, true, true, true, true, true, true, true, true, true, true, false, false, true, false, false]) ?_
          refine aw 1 [] [] [1, 2, 3, 7, 8, 11, 12, 13, 15, 55] [pl 1 (vi deep1), pl 2 (vi ply1), pl 3 (pa g1 0), pl 7 (pa g2 0), pl 8 (.slice A2 r1.length c2), pl 11 (vi best1), pl 12 (pa g3 0), pl 13 (vi i1), pl 15 (pa g4 0), pl 55 (.tuple #[vi r6.1, .agg #[vi r6.2.1, vi r6.2.2.1, vi r6.2.2.2]])] hF hS obs_nil (fun a hF => ?_)
          refine any_finI rfl (fun h => h) ?_
          refine aq [11, 12] ?_
          refine (all_cons ?_ (all_cons ?_ all_nil))
          ·refine ao (listed' := #[true, true, true, true, true, true, true, true, true, true, true, true, false, true, false, false]) ?_
           refine aw 1 [] [] [1, 2, 3, 7, 8, 11, 12, 13, 15, 55, 66] [pl 1 (vi deep1), pl 2 (vi ply1), pl 3 (pa g1 0), pl 7 (pa g2 0), pl 8 (.slice A2 r1.length c2), pl 11 (vi best1), pl 12 (pa g3 0), pl 13 (vi i1), pl 15 (pa g4 0), pl 55 (.tuple #[vi r6.1, .agg #[vi r6.2.1, vi r6.2.2.1, vi r6.2.2.2]]), pl 66 (vi r6.1)] hF hS obs_nil (fun a hF => ?_)
           refine any_finI rfl (fun h => h) ?_
           refine aq [12, 14] ?_
           refine (all_cons ?_ (all_cons ?_ all_nil))
           ·refine ao (listed' := #[true, true, true, true, true, true, true, true, true, true, true, true, true, true, false, false]) ?_
            refine aw 1 [] [] [1, 2, 3, 7, 8, 11, 12, 13, 15, 66, 67] [pl 1 (vi deep1), pl 2 (vi ply1), pl 3 (pa g1 0), pl 7 (pa g2 0), pl 8 (.slice A2 r1.length c2), pl 11 (vi best1), pl 12 (pa g3 0), pl 13 (vi i1), pl 15 (pa g4 0), pl 66 (vi r6.1), pl 67 (.agg #[vi r6.2.1, vi r6.2.2.1, vi r6.2.2.2])] hF hS obs_nil (fun a hF => ?_)
            refine any_finI rfl (fun h => h) ?_
            refine aq [14] (all_cons ?_ all_nil)
            refine ao (listed' := #[true, true, true, true, true, true, true, true, true, true, true, true, true, true, true, false]) ?_
            refine aw 1 [] [] [1, 2, 3, 7, 8, 11, 12, 13, 14, 15, 67] [pl 1 (vi deep1), pl 2 (vi ply1), pl 3 (pa g1 0), pl 7 (pa g2 0), pl 8 (.slice A2 r1.length c2), pl 11 (vi best1), pl 12 (pa g3 0), pl 13 (vi i1), pl 14 (vi r6.1), pl 15 (pa g4 0), pl 67 (.agg #[vi r6.2.1, vi r6.2.2.1, vi r6.2.2.2])] hF hS obs_nil (fun a hF => ?_)
            refine any_finI rfl (fun h => h) ?_
            refine aq [15] (all_cons ?_ all_nil)
            refine ao (listed' := #[true, true, true, true, true, true, true, true, true, true, true, true, true, true, true, true]) ?_
            obtain ⟨w, hrun, hS⟩ := run_putA (P := Try.prog) (t := 88) (us := #[vi r6.2.1, vi r6.2.2.1, vi r6.2.2.2]) (o := 0) (hS.at_ 0 rfl) (by kernel_rfl) (all_one (by kernel_rfl)) (Nat.le_of_ble_eq_true (by kernel_rfl))
            refine at_s hF hrun ?_
            have hS : Sep w0 B w (blk g4 88 #[vi r6.2.1, vi r6.2.2.1, vi r6.2.2.2] :: own 3 (.slice A4 r5.1.length c4) (vI r5.1) :: blk g1 75 (ca A1 p1.length c1 p2 p3 p4 p5 p6) :: blk g2 88 #[vi 0, vi 0, vi 0] :: ownK 88 3 A2 r1.length c2 (List.flatMap enc88 r1) :: blk g3 88 #[vi who1, vi who2, vi who3] :: fs) := hS
            refine any_fin rfl (hS.pickN 6 [2, 3, 4, 5] (by decide)) ?_
            refine any_end (by kernel_rfl) (np_n (then_n ?_))
            have hS := hS.pickN 6 [2, 3, 4, 5] (by decide)
            exact ⟨r6.1, hF.wk [1, 2, 3, 7, 8, 11, 12, 13, 14], hS, hm⟩
           ·refine ao (listed' := #[true, true, true, true, true, true, true, true, true, true, true, true, false, true, true, false]) ?_
            refine aw 1 [] [] [1, 2, 3, 7, 8, 11, 12, 13, 14, 15, 55] [pl 1 (vi deep1), pl 2 (vi ply1), pl 3 (pa g1 0), pl 7 (pa g2 0), pl 8 (.slice A2 r1.length c2), pl 11 (vi best1), pl 12 (pa g3 0), pl 13 (vi i1), pl 14 (vi r6.1), pl 15 (pa g4 0), pl 55 (.tuple #[vi r6.1, .agg #[vi r6.2.1, vi r6.2.2.1, vi r6.2.2.2]])] hF hS obs_nil (fun a hF => ?_)
            refine any_finI rfl (fun h => h) ?_
            refine aq [12] (all_cons ?_ all_nil)
            refine ao (listed' := #[true, true, true, true, true, true, true, true, true, true, true, true, true, true, true, false]) ?_
            refine aw 1 [] [] [1, 2, 3, 7, 8, 11, 12, 13, 14, 15, 67] [pl 1 (vi deep1), pl 2 (vi ply1), pl 3 (pa g1 0), pl 7 (pa g2 0), pl 8 (.slice A2 r1.length c2), pl 11 (vi best1), pl 12 (pa g3 0), pl 13 (vi i1), pl 14 (vi r6.1), pl 15 (pa g4 0), pl 67 (.agg #[vi r6.2.1, vi r6.2.2.1, vi r6.2.2.2])] hF hS obs_nil (fun a hF => ?_)
            refine any_finI rfl (fun h => h) ?_
            refine aq [15] (all_cons ?_ all_nil)
            refine ao (listed' := #[true, true, true, true, true, true, true, true, true, true, true, true, true, true, true, true]) ?_
            obtain ⟨w, hrun, hS⟩ := run_putA (P := Try.prog) (t := 88) (us := #[vi r6.2.1, vi r6.2.2.1, vi r6.2.2.2]) (o := 0) (hS.at_ 0 rfl) (by kernel_rfl) (all_one (by kernel_rfl)) (Nat.le_of_ble_eq_true (by kernel_rfl))
            refine at_s hF hrun ?_
            have hS : Sep w0 B w (blk g4 88 #[vi r6.2.1, vi r6.2.2.1, vi r6.2.2.2] :: own 3 (.slice A4 r5.1.length c4) (vI r5.1) :: blk g1 75 (ca A1 p1.length c1 p2 p3 p4 p5 p6) :: blk g2 88 #[vi 0, vi 0, vi 0] :: ownK 88 3 A2 r1.length c2 (List.flatMap enc88 r1) :: blk g3 88 #[vi who1, vi who2, vi who3] :: fs) := hS
            refine any_fin rfl (hS.pickN 6 [2, 3, 4, 5] (by decide)) ?_
            refine any_end (by kernel_rfl) (np_n (then_n ?_))
            have hS := hS.pickN 6 [2, 3, 4, 5] (by decide)
            exact ⟨r6.1, hF.wk [1, 2, 3, 7, 8, 11, 12, 13, 14], hS, hm⟩
          ·refine ao (listed' := #[true, true, true, true, true, true, true, true, true, true, true, false, true, true, false, false]) ?_
           refine aw 1 [] [] [1, 2, 3, 7, 8, 11, 12, 13, 15, 55, 67] [pl 1 (vi deep1), pl 2 (vi ply1), pl 3 (pa g1 0), pl 7 (pa g2 0), pl 8 (.slice A2 r1.length c2), pl 11 (vi best1), pl 12 (pa g3 0), pl 13 (vi i1), pl 15 (pa g4 0), pl 55 (.tuple #[vi r6.1, .agg #[vi r6.2.1, vi r6.2.2.1, vi r6.2.2.2]]), pl 67 (.agg #[vi r6.2.1, vi r6.2.2.1, vi r6.2.2.2])] hF hS obs_nil (fun a hF => ?_)
           refine any_finI rfl (fun h => h) ?_
           refine aq [11] (all_cons ?_ all_nil)
           refine ao (listed' := #[true, true, true, true, true, true, true, true, true, true, true, true, true, true, false, false]) ?_
           refine aw 1 [] [] [1, 2, 3, 7, 8, 11, 12, 13, 15, 66, 67] [pl 1 (vi deep1), pl 2 (vi ply1), pl 3 (pa g1 0), pl 7 (pa g2 0), pl 8 (.slice A2 r1.length c2), pl 11 (vi best1), pl 12 (pa g3 0), pl 13 (vi i1), pl 15 (pa g4 0), pl 66 (vi r6.1), pl 67 (.agg #[vi r6.2.1, vi r6.2.2.1, vi r6.2.2.2])] hF hS obs_nil (fun a hF => ?_)
           refine any_finI rfl (fun h => h) ?_
           refine aq [14] (all_cons ?_ all_nil)
           refine ao (listed' := #[true, true, true, true, true, true, true, true, true, true, true, true, true, true, true, false]) ?_
           refine aw 1 [] [] [1, 2, 3, 7, 8, 11, 12, 13, 14, 15, 67] [pl 1 (vi deep1), pl 2 (vi ply1), pl 3 (pa g1 0), pl 7 (pa g2 0), pl 8 (.slice A2 r1.length c2), pl 11 (vi best1), pl 12 (pa g3 0), pl 13 (vi i1), pl 14 (vi r6.1), pl 15 (pa g4 0), pl 67 (.agg #[vi r6.2.1, vi r6.2.2.1, vi r6.2.2.2])] hF hS obs_nil (fun a hF => ?_)
           refine any_finI rfl (fun h => h) ?_
           refine aq [15] (all_cons ?_ all_nil)
           refine ao (listed' := #[true, true, true, true, true, true, true, true, true, true, true, true, true, true, true, true]) ?_
           obtain ⟨w, hrun, hS⟩ := run_putA (P := Try.prog) (t := 88) (us := #[vi r6.2.1, vi r6.2.2.1, vi r6.2.2.2]) (o := 0) (hS.at_ 0 rfl) (by kernel_rfl) (all_one (by kernel_rfl)) (Nat.le_of_ble_eq_true (by kernel_rfl))
           refine at_s hF hrun ?_
           have hS : Sep w0 B w (blk g4 88 #[vi r6.2.1, vi r6.2.2.1, vi r6.2.2.2] :: own 3 (.slice A4 r5.1.length c4) (vI r5.1) :: blk g1 75 (ca A1 p1.length c1 p2 p3 p4 p5 p6) :: blk g2 88 #[vi 0, vi 0, vi 0] :: ownK 88 3 A2 r1.length c2 (List.flatMap enc88 r1) :: blk g3 88 #[vi who1, vi who2, vi who3] :: fs) := hS
           refine any_fin rfl (hS.pickN 6 [2, 3, 4, 5] (by decide)) ?_
           refine any_end (by kernel_rfl) (np_n (then_n ?_))
           have hS := hS.pickN 6 [2, 3, 4, 5] (by decide)
           exact ⟨r6.1, hF.wk [1, 2, 3, 7, 8, 11, 12, 13, 14], hS, hm⟩
        ·refine ao (listed' := #[true, true, true, true, true, false, true, true, true, false, false, false, false, true, false, false]) ?_
         refine at_do (d := 15) (s := vS (Instr.alloc 88 true (.tuple #[]))) (v := pa w.heap.size 0) (w' := w.alloc (.cells #[vi 0, vi 0, vi 0] 88)) hF (by kernel_rfl) (by kernel_rfl) (by kernel_rfl) (fun a hF => ?_)
         have hS : Sep w0 B (w.alloc (.cells #[vi 0, vi 0, vi 0] 88)) (blk w.heap.size 88 #[vi 0, vi 0, vi 0] :: (blk g1 75 (ca A1 p1.length c1 p2 p3 p4 p5 p6) :: blk g2 88 #[vi 0, vi 0, vi 0] :: ownK 88 3 A2 r1.length c2 (List.flatMap enc88 r1) :: blk g3 88 #[vi who1, vi who2, vi who3] :: fs)) := hS.box 88 #[vi 0, vi 0, vi 0]
         generalize w.heap.size = g4 at hF hS
         generalize w.alloc (.cells #[vi 0, vi 0, vi 0] 88) = w at hS ⊢
         refine any_fin rfl (hS.pickN 5 [1, 2, 3, 4] (by decide)) ?_
         refine aq [5] (all_cons ?_ all_nil)
         refine ao (listed' := #[true, true, true, true, true, true, true, true, true, false, false, false, false, true, false, false]) ?_
         refine at_call (f := 62) (args := #[.agg (ca A1 p1.length c1 p2 p3 p4 p5 p6), .agg #[vi ((getd ((0, 0, 0) : MvT) r1 i1).1), vi ((getd ((0, 0, 0) : MvT) r1 i1).2.1), vi ((getd ((0, 0, 0) : MvT) r1 i1).2.2)]]) (d := 61) hF (by kernel_rfl) (by kernel_rfl) Try.func62 (by kernel_rfl) rfl (rf_MoveDone_w hr5 hS (fun _ hS => (hr_p1 _ (hS.dropN 5))) _hc_p1 rfl) (fun v a w hR hF => ?_)
         clear hS
         obtain ⟨A5, c5, rfl, hS⟩ := hR
         have hS : Sep w0 B w (own 3 (.slice A5 r5.1.length c5) (vI r5.1) :: blk g4 88 #[vi 0, vi 0, vi 0] :: blk g1 75 (ca A1 p1.length c1 p2 p3 p4 p5 p6) :: blk g2 88 #[vi 0, vi 0, vi 0] :: ownK 88 3 A2 r1.length c2 (List.flatMap enc88 r1) :: blk g3 88 #[vi who1, vi who2, vi who3] :: fs) := hS
         refine any_fin rfl (hS.pickN 6 [2, 3, 4, 5] (by decide)) ?_
         refine aq [9] (all_cons ?_ all_nil)
         refine ao (listed' := #[true, true, true, true, true, true, true, true, true, true, false, false, false, true, false, false]) ?_
         refine ar 1 [⟨false, [], callFunc 70 #[.agg (ca A5 r5.1.length c5 r5.2.1 r5.2.2.1 r5.2.2.2.1 r5.2.2.2.2.1 r5.2.2.2.2.2), vi deep1, vi (w64 (ply1 + 1))], .tuple #[vi r6.1, .agg #[vi r6.2.1, vi r6.2.2.1, vi r6.2.2.2]]⟩] [some (.tuple #[vi r6.1, .agg #[vi r6.2.1, vi r6.2.2.1, vi r6.2.2.2]])] [1, 2, 3, 7, 8, 11, 12, 13, 15, 65] [pl 1 (vi deep1), pl 2 (vi ply1), pl 3 (pa g1 0), pl 7 (pa g2 0), pl 8 (.slice A2 r1.length c2), pl 11 (vi best1), pl 12 (pa g3 0), pl 13 (vi i1), pl 15 (pa g4 0), pl 65 (.tuple #[vi r6.1, .agg #[vi r6.2.1, vi r6.2.2.1, vi r6.2.2.2]])] hF hS ?_ (fun a w hF hS => ?_)
         ·exact obs_cons (ob_call Try.func70 (by kernel_rfl) rfl (fun _ _ hS => ih_rf_BestOf18 hr6 hS (fun _ hS => (hS.at_ 0 rfl).rd) ((hS.at_ 0 rfl).cap1) rfl)) <| obs_nil
         refine any_fin rfl (hS.pickN 6 [2, 3, 4, 5] (by decide)) ?_
         refine aq [10] (all_cons ?_ all_nil)
         refine ao (listed' := #[true, true, true, true, true, true, true, true, true, true, true, false, false, true, false, false]) ?_
         refine aw 1 [] [] [1, 2, 3, 7, 8, 11, 12, 13, 15, 55] [pl 1 (vi deep1), pl 2 (vi ply1), pl 3 (pa g1 0), pl 7 (pa g2 0), pl 8 (.slice A2 r1.length c2), pl 11 (vi best1), pl 12 (pa g3 0), pl 13 (vi i1), pl 15 (pa g4 0), pl 55 (.tuple #[vi r6.1, .agg #[vi r6.2.1, vi r6.2.2.1, vi r6.2.2.2]])] hF hS obs_nil (fun a hF => ?_)
         refine any_finI rfl (fun h => h) ?_
         refine aq [11, 12] ?_
         refine (all_cons ?_ (all_cons ?_ all_nil))
         ·refine ao (listed' := #[true, true, true, true, true, true, true, true, true, true, true, true, false, true, false, false]) ?_
          refine aw 1 [] [] [1, 2, 3, 7, 8, 11, 12, 13, 15, 55, 66] [pl 1 (vi deep1), pl 2 (vi ply1), pl 3 (pa g1 0), pl 7 (pa g2 0), pl 8 (.slice A2 r1.length c2), pl 11 (vi best1), pl 12 (pa g3 0), pl 13 (vi i1), pl 15 (pa g4 0), pl 55 (.tuple #[vi r6.1, .agg #[vi r6.2.1, vi r6.2.2.1, vi r6.2.2.2]]), pl 66 (vi r6.1)] hF hS obs_nil (fun a hF => ?_)
          refine any_finI rfl (fun h => h) ?_
          refine aq [12, 14] ?_
          refine (all_cons ?_ (all_cons ?_ all_nil))
          ·refine ao (listed' := #[true, true, true, true, true, true, true, true, true, true, true, true, true, true, false, false]) ?_
           refine aw 1 [] [] [1, 2, 3, 7, 8, 11, 12, 13, 15, 66, 67] [pl 1 (vi deep1), pl 2 (vi ply1), pl 3 (pa g1 0), pl 7 (pa g2 0), pl 8 (.slice A2 r1.length c2), pl 11 (vi best1), pl 12 (pa g3 0), pl 13 (vi i1), pl 15 (pa g4 0), pl 66 (vi r6.1), pl 67 (.agg #[vi r6.2.1, vi r6.2.2.1, vi r6.2.2.2])] hF hS obs_nil (fun a hF => ?_)
           refine any_finI rfl (fun h => h) ?_
           refine aq [14] (all_cons ?_ all_nil)
           refine ao (listed' := #[true, true, true, true, true, true, true, true, true, true, true, true, true, true, true, false]) ?_
           refine aw 1 [] [] [1, 2, 3, 7, 8, 11, 12, 13, 14, 15, 67] [pl 1 (vi deep1), pl 2 (vi ply1), pl 3 (pa g1 0), pl 7 (pa g2 0), pl 8 (.slice A2 r1.length c2), pl 11 (vi best1), pl 12 (pa g3 0), pl 13 (vi i1), pl 14 (vi r6.1), pl 15 (pa g4 0), pl 67 (.agg #[vi r6.2.1, vi r6.2.2.1, vi r6.2.2.2])] hF hS obs_nil (fun a hF => ?_)
           refine any_finI rfl (fun h => h) ?_
           refine aq [15] (all_cons ?_ all_nil)
           refine ao (listed' := #[true, true, true, true, true, true, true, true, true, true, true, true, true, true, true, true]) ?_
           obtain ⟨w, hrun, hS⟩ := run_putA (P := Try.prog) (t := 88) (us := #[vi r6.2.1, vi r6.2.2.1, vi r6.2.2.2]) (o := 0) (hS.at_ 1 rfl) (by kernel_rfl) (all_one (by kernel_rfl)) (Nat.le_of_ble_eq_true (by kernel_rfl))
           refine at_s hF hrun ?_
           have hS : Sep w0 B w (own 3 (.slice A5 r5.1.length c5) (vI r5.1) :: blk g4 88 #[vi r6.2.1, vi r6.2.2.1, vi r6.2.2.2] :: blk g1 75 (ca A1 p1.length c1 p2 p3 p4 p5 p6) :: blk g2 88 #[vi 0, vi 0, vi 0] :: ownK 88 3 A2 r1.length c2 (List.flatMap enc88 r1) :: blk g3 88 #[vi who1, vi who2, vi who3] :: fs) := hS
           refine any_fin rfl (hS.pickN 6 [2, 3, 4, 5] (by decide)) ?_
           refine any_end (by kernel_rfl) (np_n (then_n ?_))
           have hS := hS.pickN 6 [2, 3, 4, 5] (by decide)
           exact ⟨r6.1, hF.wk [1, 2, 3, 7, 8, 11, 12, 13, 14], hS, hm⟩
          ·refine ao (listed' := #[true, true, true, true, true, true, true, true, true, true, true, true, false, true, true, false]) ?_
           refine aw 1 [] [] [1, 2, 3, 7, 8, 11, 12, 13, 14, 15, 55] [pl 1 (vi deep1), pl 2 (vi ply1), pl 3 (pa g1 0), pl 7 (pa g2 0), pl 8 (.slice A2 r1.length c2), pl 11 (vi best1), pl 12 (pa g3 0), pl 13 (vi i1), pl 14 (vi r6.1), pl 15 (pa g4 0), pl 55 (.tuple #[vi r6.1, .agg #[vi r6.2.1, vi r6.2.2.1, vi r6.2.2.2]])] hF hS obs_nil (fun a hF => ?_)
           refine any_finI rfl (fun h => h) ?_
           refine aq [12] (all_cons ?_ all_nil)
           refine ao (listed' := #[true, true, true, true, true, true, true, true, true, true, true, true, true, true, true, false]) ?_
           refine aw 1 [] [] [1, 2, 3, 7, 8, 11, 12, 13, 14, 15, 67] [pl 1 (vi deep1), pl 2 (vi ply1), pl 3 (pa g1 0), pl 7 (pa g2 0), pl 8 (.slice A2 r1.length c2), pl 11 (vi best1), pl 12 (pa g3 0), pl 13 (vi i1), pl 14 (vi r6.1), pl 15 (pa g4 0), pl 67 (.agg #[vi r6.2.1, vi r6.2.2.1, vi r6.2.2.2])] hF hS obs_nil (fun a hF => ?_)
           refine any_finI rfl (fun h => h) ?_
           refine aq [15] (all_cons ?_ all_nil)
           refine ao (listed' := #[true, true, true, true, true, true, true, true, true, true, true, true, true, true, true, true]) ?_
           obtain ⟨w, hrun, hS⟩ := run_putA (P := Try.prog) (t := 88) (us := #[vi r6.2.1, vi r6.2.2.1, vi r6.2.2.2]) (o := 0) (hS.at_ 1 rfl) (by kernel_rfl) (all_one (by kernel_rfl)) (Nat.le_of_ble_eq_true (by kernel_rfl))
           refine at_s hF hrun ?_
           have hS : Sep w0 B w (own 3 (.slice A5 r5.1.length c5) (vI r5.1) :: blk g4 88 #[vi r6.2.1, vi r6.2.2.1, vi r6.2.2.2] :: blk g1 75 (ca A1 p1.length c1 p2 p3 p4 p5 p6) :: blk g2 88 #[vi 0, vi 0, vi 0] :: ownK 88 3 A2 r1.length c2 (List.flatMap enc88 r1) :: blk g3 88 #[vi who1, vi who2, vi who3] :: fs) := hS
           refine any_fin rfl (hS.pickN 6 [2, 3, 4, 5] (by decide)) ?_
           refine any_end (by kernel_rfl) (np_n (then_n ?_))
           have hS := hS.pickN 6 [2, 3, 4, 5] (by decide)
           exact ⟨r6.1, hF.wk [1, 2, 3, 7, 8, 11, 12, 13, 14], hS, hm⟩
         ·refine ao (listed' := #[true, true, true, true, true, true, true, true, true, true, true, false, true, true, false, false]) ?_
          refine aw 1 [] [] [1, 2, 3, 7, 8, 11, 12, 13, 15, 55, 67] [pl 1 (vi deep1), pl 2 (vi ply1), pl 3 (pa g1 0), pl 7 (pa g2 0), pl 8 (.slice A2 r1.length c2), pl 11 (vi best1), pl 12 (pa g3 0), pl 13 (vi i1), pl 15 (pa g4 0), pl 55 (.tuple #[vi r6.1, .agg #[vi r6.2.1, vi r6.2.2.1, vi r6.2.2.2]]), pl 67 (.agg #[vi r6.2.1, vi r6.2.2.1, vi r6.2.2.2])] hF hS obs_nil (fun a hF => ?_)
          refine any_finI rfl (fun h => h) ?_
          refine aq [11] (all_cons ?_ all_nil)
          refine ao (listed' := #[true, true, true, true, true, true, true, true, true, true, true, true, true, true, false, false]) ?_
          refine aw 1 [] [] [1, 2, 3, 7, 8, 11, 12, 13, 15, 66, 67] [pl 1 (vi deep1), pl 2 (vi ply1), pl 3 (pa g1 0), pl 7 (pa g2 0), pl 8 (.slice A2 r1.length c2), pl 11 (vi best1), pl 12 (pa g3 0), pl 13 (vi i1), pl 15 (pa g4 0), pl 66 (vi r6.1), pl 67 (.agg #[vi r6.2.1, vi r6.2.2.1, vi r6.2.2.2])] hF hS obs_nil (fun a hF => ?_)
          refine any_finI rfl (fun h => h) ?_
          refine aq [14] (all_cons ?_ all_nil)
          refine ao (listed' := #[true, true, true, true, true, true, true, true, true, true, true, true, true, true, true, false]) ?_
          refine aw 1 [] [] [1, 2, 3, 7, 8, 11, 12, 13, 14, 15, 67] [pl 1 (vi deep1), pl 2 (vi ply1), pl 3 (pa g1 0), pl 7 (pa g2 0), pl 8 (.slice A2 r1.length c2), pl 11 (vi best1), pl 12 (pa g3 0), pl 13 (vi i1), pl 14 (vi r6.1), pl 15 (pa g4 0), pl 67 (.agg #[vi r6.2.1, vi r6.2.2.1, vi r6.2.2.2])] hF hS obs_nil (fun a hF => ?_)
          refine any_finI rfl (fun h => h) ?_
          refine aq [15] (all_cons ?_ all_nil)
          refine ao (listed' := #[true, true, true, true, true, true, true, true, true, true, true, true, true, true, true, true]) ?_
          obtain ⟨w, hrun, hS⟩ := run_putA (P := Try.prog) (t := 88) (us := #[vi r6.2.1, vi r6.2.2.1, vi r6.2.2.2]) (o := 0) (hS.at_ 1 rfl) (by kernel_rfl) (all_one (by kernel_rfl)) (Nat.le_of_ble_eq_true (by kernel_rfl))
          refine at_s hF hrun ?_
          have hS : Sep w0 B w (own 3 (.slice A5 r5.1.length c5) (vI r5.1) :: blk g4 88 #[vi r6.2.1, vi r6.2.2.1, vi r6.2.2.2] :: blk g1 75 (ca A1 p1.length c1 p2 p3 p4 p5 p6) :: blk g2 88 #[vi 0, vi 0, vi 0] :: ownK 88 3 A2 r1.length c2 (List.flatMap enc88 r1) :: blk g3 88 #[vi who1, vi who2, vi who3] :: fs) := hS
          refine any_fin rfl (hS.pickN 6 [2, 3, 4, 5] (by decide)) ?_
          refine any_end (by kernel_rfl) (np_n (then_n ?_))
          have hS := hS.pickN 6 [2, 3, 4, 5] (by decide)
          exact ⟨r6.1, hF.wk [1, 2, 3, 7, 8, 11, 12, 13, 14], hS, hm⟩
     ·refine rg [] [] [1, 2, 3, 7, 8, 11, 12, 13, 52] [pl 1 (vi deep1), pl 2 (vi ply1), pl 3 (pa g1 0), pl 7 (pa g2 0), pl 8 (.slice A2 r1.length c2), pl 11 (vi best1), pl 12 (pa g3 0), pl 13 (vi i1), pl 52 (.bool (decide (i1 < (r1.length : Int))))] hF hS obs_nil (fun a w hF hS => ?_)
      refine ce (t := 52) (b := decide (i1 < (r1.length : Int))) hF (fun hb => ?_) (fun hb => ?_)
      ·replace hm := if_t hm hb
       refine wpIn_skip ?_
       refine then_n ?_
       exact ⟨hF.wk [1, 2, 3, 7, 8, 11, 12, 13], hS, hm⟩
      ·replace hm := if_f hm hb
       refine wpIn_exit ?_
       refine then_e (then_e (block_e (then_n ?_)))
       have hS := hS.pickN 4 [1, 3] (by decide)
       rw [← hφ1] at hm
       replace hm := done_b hm
       unfold rf_BestOf18_K1 at hm
       try dsimp only at hm
       have hm : (rf_BestOf18_J4 best1 who1 who2 who3).bind some = some r := hm
       exact ⟨best1, who1, who2, who3, hF.wk [7, 11, 12], hS, hm⟩
   ·refine rg [] [] [1, 2, 3, 7, 8, 37] [pl 1 (vi deep1), pl 2 (vi ply1), pl 3 (pa g1 0), pl 7 (pa g2 0), pl 8 (.slice A2 r1.length c2), pl 37 (.bool (ply1 == deep1))] hF hS obs_nil (fun a w hF hS => ?_)
    refine ce (t := 37) (b := (ply1 == deep1)) hF (fun hb => ?_) (fun hb => ?_)
    ·replace hm := if_t hm hb
     obtain ⟨r3, hr3, hm⟩ := call_b hm
     refine rg [⟨false, [], vS (Instr.loadAt 75 (pa g1 0)), .agg (ca A1 p1.length c1 p2 p3 p4 p5 p6)⟩, ⟨false, [], callFunc 141 #[.agg (ca A1 p1.length c1 p2 p3 p4 p5 p6)], .tuple #[vi r3.1, .bool r3.2]⟩] [some (.agg (ca A1 p1.length c1 p2 p3 p4 p5 p6)), some (.tuple #[vi r3.1, .bool r3.2]), none, none, none, none, none] [3, 7, 9] [pl 3 (pa g1 0), pl 7 (pa g2 0), pl 9 (vi r3.1)] hF hS ?_ (fun a w hF hS => ?_)
     ·exact obs_cons (oA (cs := (ca A1 p1.length c1 p2 p3 p4 p5 p6)) (fun _ _ hS => (hS.at_ 0 rfl).cellsAt 0 (by rfl))) <| obs_cons (ob_call Try.func141 (by kernel_rfl) rfl (fun _ _ hS => rf_MaterialOf_w hr3 hS (fun _ hS => (hr_p1 _ (hS.dropN 3))) _hc_p1 rfl)) <| obs_nil
     refine seqR ?_
     obtain ⟨r4, hr4, hm⟩ := call_b hm
     refine ar 7 [⟨false, [], vS (Instr.loadAt 3 (pa g1 1)), vi p2⟩, ⟨false, [], callFunc 142 #[vi p2], vi r4⟩] [none, none, some (vi p2), some (vi r4), none, none, none] [6, 7, 48] [pl 6 (vi (w64 (r3.1 * r4))), pl 7 (pa g2 0), pl 48 (.agg #[vi 0, vi 0, vi 0])] hF hS ?_ (fun a w hF hS => ?_)
     ·exact obs_cons (ob_load Agg3 (fun _ _ hS => (hS.at_ 0 rfl).cell rfl)) <| obs_cons (ob_call Try.func142 (by kernel_rfl) rfl (fun _ _ hS => rf_SideSign_w hr4 hS )) <| obs_nil
     obtain ⟨w, hrun, hS⟩ := run_putA (P := Try.prog) (t := 88) (us := #[vi 0, vi 0, vi 0]) (o := 0) (hS.at_ 1 rfl) (by kernel_rfl) (all_one (by kernel_rfl)) (Nat.le_of_ble_eq_true (by kernel_rfl))
     refine at_s hF hrun ?_
     have hS : Sep w0 B w (blk g1 75 (ca A1 p1.length c1 p2 p3 p4 p5 p6) :: blk g2 88 #[vi 0, vi 0, vi 0] :: ownK 88 3 A2 r1.length c2 (List.flatMap enc88 r1) :: fs) := hS
     refine ae [6, 7] [pl 6 (vi (w64 (r3.1 * r4))), pl 7 (pa g2 0)] hF rfl (fun hF => ?_)
     refine then_n (wpIn_ret ?_)
     refine then_r ?_
     have hld1 := run_loadVarA (P := Try.prog) (t := 88) (cs := #[vi 0, vi 0, vi 0]) (by kernel_rfl) (by kernel_rfl) ((hS.at_ 1 rfl).cellsAt 0 (by rfl))
     have hS := hS.pickN 3 [] (by decide)
     have hm : some ((w64 (r3.1 * r4)), 0, 0, 0) = some r := hm
     obtain rfl := Option.some.inj hm
     exact retV (rs := [.tmp 6, .cell 7 88]) (vs := [vi (w64 (r3.1 * r4)), .agg #[vi 0, vi 0, vi 0]]) hF rfl (rv_t (by kernel_rfl) <| rv_c (by kernel_rfl) hld1 <| rv_nil) rfl ⟨rfl, hS⟩
    ·replace hm := if_f hm hb
     refine wpIn_skip ?_
     refine then_n ?_
     exact ⟨hF.wk [1, 2, 3, 7, 8], hS, hm⟩
  ·refine rg [] [] [1, 2, 3, 7, 8, 33] [pl 1 (vi deep1), pl 2 (vi ply1), pl 3 (pa g1 0), pl 7 (pa g2 0), pl 8 (.slice A2 r1.length c2), pl 33 (.bool ((r1.length : Int) == 0))] hF hS obs_nil (fun a w hF hS => ?_)
   refine ce (t := 33) (b := ((r1.length : Int) == 0)) hF (fun hb => ?_) (fun hb => ?_)
   ·replace hm := if_t hm hb
    refine seqR ?_
    refine ar 2 [] [] [6, 7, 34] [pl 6 (vi 0), pl 7 (pa g2 0), pl 34 (.agg #[vi 0, vi 0, vi 0])] hF hS obs_nil (fun a w hF hS => ?_)
    obtain ⟨w, hrun, hS⟩ := run_putA (P := Try.prog) (t := 88) (us := #[vi 0, vi 0, vi 0]) (o := 0) (hS.at_ 1 rfl) (by kernel_rfl) (all_one (by kernel_rfl)) (Nat.le_of_ble_eq_true (by kernel_rfl))
    refine at_s hF hrun ?_
    have hS : Sep w0 B w (blk g1 75 (ca A1 p1.length c1 p2 p3 p4 p5 p6) :: blk g2 88 #[vi 0, vi 0, vi 0] :: ownK 88 3 A2 r1.length c2 (List.flatMap enc88 r1) :: fs) := hS
    refine ae [6, 7] [pl 6 (vi 0), pl 7 (pa g2 0)] hF rfl (fun hF => ?_)
    refine then_n (wpIn_ret ?_)
    refine then_r ?_
    have hld1 := run_loadVarA (P := Try.prog) (t := 88) (cs := #[vi 0, vi 0, vi 0]) (by kernel_rfl) (by kernel_rfl) ((hS.at_ 1 rfl).cellsAt 0 (by rfl))
    have hS := hS.pickN 3 [] (by decide)
    have hm : some (0, 0, 0, 0) = some r := hm
    obtain rfl := Option.some.inj hm
    exact retV (rs := [.tmp 6, .cell 7 88]) (vs := [vi 0, .agg #[vi 0, vi 0, vi 0]]) hF rfl (rv_t (by kernel_rfl) <| rv_c (by kernel_rfl) hld1 <| rv_nil) rfl ⟨rfl, hS⟩
   ·replace hm := if_f hm hb
    refine wpIn_skip ?_
    refine then_n ?_
    exact ⟨hF.wk [1, 2, 3, 7, 8], hS, hm⟩
 ·obtain ⟨r2, hr2, hm⟩ := call_b hm
  refine rg [⟨false, [(((r1.length : Int) == 0), true)], vS (Instr.loadAt 27 (pa g1 0)), .slice A1 p1.length c1⟩, ⟨false, [(((r1.length : Int) == 0), true)], vS (Instr.loadAt 3 (pa g1 1)), vi p2⟩, ⟨false, [(((r1.length : Int) == 0), true)], callFunc 130 #[.slice A1 p1.length c1, vi p2], .bool r2⟩] [none, none, none, none, none, some (.slice A1 p1.length c1), none, some (vi p2), some (.bool r2), none] [1, 2, 3, 7, 8, 27] [pl 1 (vi deep1), pl 2 (vi ply1), pl 3 (pa g1 0), pl 7 (pa g2 0), pl 8 (.slice A2 r1.length c2), pl 27 (.bool (((r1.length : Int) == 0) && r2))] hF hS ?_ (fun a w hF hS => ?_)
  ·exact obs_cons (ob_load Agg27 (fun _ _ hS => (hS.at_ 2 rfl).cell rfl)) <| obs_cons (ob_load Agg3 (fun _ _ hS => (hS.at_ 2 rfl).cell rfl)) <| obs_cons (ob_call Try.func130 (by kernel_rfl) rfl (fun hy _ hS => rf_InCheck_w (ite_some hr2 (by rw [show ((r1.length : Int) == 0) = true from hy (((r1.length : Int) == 0), true) (by simp)]; try rfl)) hS (fun _ hS => (hr_p1 _ (hS.dropN 3))) _hc_p1 rfl)) <| obs_nil
  refine ce (t := 27) (b := ((r1.length : Int) == 0) && r2) hF (fun hb => ?_) (fun hb => ?_)
  ·replace hm := if_t hm hb
   refine seqR ?_
   refine ar 4 [] [] [6, 7, 30] [pl 6 (vi (w64 (ply1 - 1000))), pl 7 (pa g2 0), pl 30 (.agg #[vi 0, vi 0, vi 0])] hF hS obs_nil (fun a w hF hS => ?_)
   obtain ⟨w, hrun, hS⟩ := run_putA (P := Try.prog) (t := 88) (us := #[vi 0, vi 0, vi 0]) (o := 0) (hS.at_ 1 rfl) (by kernel_rfl) (all_one (by kernel_rfl)) (Nat.le_of_ble_eq_true (by kernel_rfl))
   refine at_s hF hrun ?_
   have hS : Sep w0 B w (ownK 88 3 A2 r1.length c2 (List.flatMap enc88 r1) :: blk g2 88 #[vi 0, vi 0, vi 0] :: blk g1 75 (ca A1 p1.length c1 p2 p3 p4 p5 p6) :: fs) := hS
   refine ae [6, 7] [pl 6 (vi (w64 (ply1 - 1000))), pl 7 (pa g2 0)] hF rfl (fun hF => ?_)
   refine then_n (wpIn_ret ?_)
   refine then_r ?_
   have hld1 := run_loadVarA (P := Try.prog) (t := 88) (cs := #[vi 0, vi 0, vi 0]) (by kernel_rfl) (by kernel_rfl) ((hS.at_ 1 rfl).cellsAt 0 (by rfl))
   have hS := hS.pickN 3 [] (by decide)
   have hm : some ((w64 (ply1 - 1000)), 0, 0, 0) = some r := hm
   obtain rfl := Option.some.inj hm
   exact retV (rs := [.tmp 6, .cell 7 88]) (vs := [vi (w64 (ply1 - 1000)), .agg #[vi 0, vi 0, vi 0]]) hF rfl (rv_t (by kernel_rfl) <| rv_c (by kernel_rfl) hld1 <| rv_nil) rfl ⟨rfl, hS⟩
  ·replace hm := if_f hm hb
   refine wpIn_skip ?_
   refine then_n ?_
   have hS := hS.pickN 3 [2, 1, 0] (by decide)
   exact ⟨hF.wk [1, 2, 3, 7, 8], hS, hm⟩

theorem rf_BestOf18_w {A1 : Option Addr} {c1 n1 : Nat} {p1 : List Int} {p2 p3 : Int} {p4 p5 : Int} {p6 deep1 ply1 : Int} {r : (Int × Int × Int × Int)} {w0 w : World} {B : Nat} {fs : List HP} (hm : rf_BestOf18_m p1 p2 p3 p4 p5 p6 deep1 ply1 = some r) (hS : Sep w0 B w (fs)) (hr_p1 : RdF w0 B fs A1 (vI p1)) (_hc_p1 : p1.length ≤ c1) (_hn_p1 : n1 = p1.length) :
  Calls Try.prog 70 #[.agg (ca A1 n1 c1 p2 p3 p4 p5 p6), vi deep1, vi ply1] w fun e w' => e = .returned (.tuple #[vi r.1, .agg #[vi r.2.1, vi r.2.2.1, vi r.2.2.2]]) ∧ Sep w0 B w' (fs) := by
 have key : ∀ (n : Nat) {A1 : Option Addr} {c1 n1 : Nat} {p1 : List Int} {p2 p3 : Int} {p4 p5 : Int} {p6 deep1 ply1 : Int} {r : (Int × Int × Int × Int)} {w0 w : World} {B : Nat} {fs : List HP} (_ : rf_BestOf18_mF n p1 p2 p3 p4 p5 p6 deep1 ply1 = some r) (_ : Sep w0 B w (fs)) (hr_p1 : RdF w0 B fs A1 (vI p1)) (_hc_p1 : p1.length ≤ c1) (_hn_p1 : n1 = p1.length), Calls Try.prog 70 #[.agg (ca A1 n1 c1 p2 p3 p4 p5 p6), vi deep1, vi ply1] w fun e w' => e = .returned (.tuple #[vi r.1, .agg #[vi r.2.1, vi r.2.2.1, vi r.2.2.2]]) ∧ Sep w0 B w' (fs) := by
  intro n
  induction n with
  | zero => intros; rename_i hm0 _ _ _ _; cases hm0
  | succ n ih => intros; rename_i hm0 hS0 h0 h1 h2; exact rf_BestOf18_wB (rec_rf_BestOf18 := rf_BestOf18_mF n) (fun hm hS h0 h1 h2 => ih hm hS h0 h1 h2) hm0 hS0 h0 h1 h2
 obtain ⟨n, hn⟩ := recM_some hm
 exact key n hn hS hr_p1 _hc_p1 _hn_p1

set_option maxRecDepth 100000 in
theorem rf_BestOf18_J5_le_rf_BestOf18 {rec_rf_BestOf181 rec_rf_BestOf182 : List Int → Int → Int → Int → Int → Int → Int → Int → Option (Int × Int × Int × Int)} (h_rec_rf_BestOf18 : ∀ a0 a1 a2 a3 a4 a5 a6 a7, Le (rec_rf_BestOf181 a0 a1 a2 a3 a4 a5 a6 a7) (rec_rf_BestOf182 a0 a1 a2 a3 a4 a5 a6 a7)) (p1 : List Int) (p2 p3 : Int) (p4 p5 : Int) (p6 deep1 ply1 : Int) (r1 : (List MvT)) (best1 who1 : Int) (who2 who3 i1 : Int) : Le (rf_BestOf18_J5 rec_rf_BestOf181 p1 p2 p3 p4 p5 p6 deep1 ply1 r1 best1 who1 who2 who3 i1) (rf_BestOf18_J5 rec_rf_BestOf182 p1 p2 p3 p4 p5 p6 deep1 ply1 r1 best1 who1 who2 who3 i1) := by
 unfold rf_BestOf18_J5
 repeat' (first | with_reducible exact Le.refl _ | with_reducible exact h_rec_rf_BestOf18 _ _ _ _ _ _ _ _ | with_reducible refine Le.asrt ?_ | with_reducible refine Le.ite ?_ ?_ | refine Le.bind ?_ (fun _ => ?_) | refine Le.loop2 (fun _ => ?_) | refine Le.elim2 (fun _ => ?_) (fun _ => ?_))

set_option maxRecDepth 100000 in
theorem rf_BestOf18_L1_le_rf_BestOf18 {rec_rf_BestOf181 rec_rf_BestOf182 : List Int → Int → Int → Int → Int → Int → Int → Int → Option (Int × Int × Int × Int)} (h_rec_rf_BestOf18 : ∀ a0 a1 a2 a3 a4 a5 a6 a7, Le (rec_rf_BestOf181 a0 a1 a2 a3 a4 a5 a6 a7) (rec_rf_BestOf182 a0 a1 a2 a3 a4 a5 a6 a7)) (p1 : List Int) (p2 p3 : Int) (p4 p5 : Int) (p6 deep1 ply1 : Int) (r1 : (List MvT)) (x : (Int × Int × Int × Int × Int)) : Le (rf_BestOf18_L1 rec_rf_BestOf181 p1 p2 p3 p4 p5 p6 deep1 ply1 r1 x) (rf_BestOf18_L1 rec_rf_BestOf182 p1 p2 p3 p4 p5 p6 deep1 ply1 r1 x) := by
 rcases x with ⟨best1, who1, who2, who3, i1⟩
 all_goals
  unfold rf_BestOf18_L1
  try dsimp only
  repeat' (first | with_reducible exact Le.refl _ | with_reducible exact h_rec_rf_BestOf18 _ _ _ _ _ _ _ _ | with_reducible exact rf_BestOf18_J5_le_rf_BestOf18 h_rec_rf_BestOf18 _ _ _ _ _ _ _ _ _ _ _ _ _ _ | with_reducible refine Le.asrt ?_ | with_reducible refine Le.ite ?_ ?_ | refine Le.bind ?_ (fun _ => ?_) | refine Le.loop2 (fun _ => ?_) | refine Le.elim2 (fun _ => ?_) (fun _ => ?_))

set_option maxRecDepth 100000 in
theorem rf_BestOf18_J3_le_rf_BestOf18 {rec_rf_BestOf181 rec_rf_BestOf182 : List Int → Int → Int → Int → Int → Int → Int → Int → Option (Int × Int × Int × Int)} (h_rec_rf_BestOf18 : ∀ a0 a1 a2 a3 a4 a5 a6 a7, Le (rec_rf_BestOf181 a0 a1 a2 a3 a4 a5 a6 a7) (rec_rf_BestOf182 a0 a1 a2 a3 a4 a5 a6 a7)) (p1 : List Int) (p2 p3 : Int) (p4 p5 : Int) (p6 deep1 ply1 : Int) (r1 : (List MvT)) : Le (rf_BestOf18_J3 rec_rf_BestOf181 p1 p2 p3 p4 p5 p6 deep1 ply1 r1) (rf_BestOf18_J3 rec_rf_BestOf182 p1 p2 p3 p4 p5 p6 deep1 ply1 r1) := by
 unfold rf_BestOf18_J3
 repeat' (first | with_reducible exact Le.refl _ | with_reducible exact h_rec_rf_BestOf18 _ _ _ _ _ _ _ _ | with_reducible exact rf_BestOf18_L1_le_rf_BestOf18 h_rec_rf_BestOf18 _ _ _ _ _ _ _ _ _ _ | with_reducible refine Le.asrt ?_ | with_reducible refine Le.ite ?_ ?_ | refine Le.bind ?_ (fun _ => ?_) | refine Le.loop2 (fun _ => ?_) | refine Le.elim2 (fun _ => ?_) (fun _ => ?_))

set_option maxRecDepth 100000 in
theorem rf_BestOf18_J2_le_rf_BestOf18 {rec_rf_BestOf181 rec_rf_BestOf182 : List Int → Int → Int → Int → Int → Int → Int → Int → Option (Int × Int × Int × Int)} (h_rec_rf_BestOf18 : ∀ a0 a1 a2 a3 a4 a5 a6 a7, Le (rec_rf_BestOf181 a0 a1 a2 a3 a4 a5 a6 a7) (rec_rf_BestOf182 a0 a1 a2 a3 a4 a5 a6 a7)) (p1 : List Int) (p2 p3 : Int) (p4 p5 : Int) (p6 deep1 ply1 : Int) (r1 : (List MvT)) : Le (rf_BestOf18_J2 rec_rf_BestOf181 p1 p2 p3 p4 p5 p6 deep1 ply1 r1) (rf_BestOf18_J2 rec_rf_BestOf182 p1 p2 p3 p4 p5 p6 deep1 ply1 r1) := by
 unfold rf_BestOf18_J2
 repeat' (first | with_reducible exact Le.refl _ | with_reducible exact h_rec_rf_BestOf18 _ _ _ _ _ _ _ _ | with_reducible exact rf_BestOf18_J3_le_rf_BestOf18 h_rec_rf_BestOf18 _ _ _ _ _ _ _ _ _ | with_reducible refine Le.asrt ?_ | with_reducible refine Le.ite ?_ ?_ | refine Le.bind ?_ (fun _ => ?_) | refine Le.loop2 (fun _ => ?_) | refine Le.elim2 (fun _ => ?_) (fun _ => ?_))

set_option maxRecDepth 100000 in
theorem rf_BestOf18_J1_le_rf_BestOf18 {rec_rf_BestOf181 rec_rf_BestOf182 : List Int → Int → Int → Int → Int → Int → Int → Int → Option (Int × Int × Int × Int)} (h_rec_rf_BestOf18 : ∀ a0 a1 a2 a3 a4 a5 a6 a7, Le (rec_rf_BestOf181 a0 a1 a2 a3 a4 a5 a6 a7) (rec_rf_BestOf182 a0 a1 a2 a3 a4 a5 a6 a7)) (p1 : List Int) (p2 p3 : Int) (p4 p5 : Int) (p6 deep1 ply1 : Int) (r1 : (List MvT)) : Le (rf_BestOf18_J1 rec_rf_BestOf181 p1 p2 p3 p4 p5 p6 deep1 ply1 r1) (rf_BestOf18_J1 rec_rf_BestOf182 p1 p2 p3 p4 p5 p6 deep1 ply1 r1) := by
 unfold rf_BestOf18_J1
 repeat' (first | with_reducible exact Le.refl _ | with_reducible exact h_rec_rf_BestOf18 _ _ _ _ _ _ _ _ | with_reducible exact rf_BestOf18_J2_le_rf_BestOf18 h_rec_rf_BestOf18 _ _ _ _ _ _ _ _ _ | with_reducible refine Le.asrt ?_ | with_reducible refine Le.ite ?_ ?_ | refine Le.bind ?_ (fun _ => ?_) | refine Le.loop2 (fun _ => ?_) | refine Le.elim2 (fun _ => ?_) (fun _ => ?_))

set_option maxRecDepth 100000 in
theorem rf_BestOf18_B_le {rec_rf_BestOf181 rec_rf_BestOf182 : List Int → Int → Int → Int → Int → Int → Int → Int → Option (Int × Int × Int × Int)} (h_rec_rf_BestOf18 : ∀ a0 a1 a2 a3 a4 a5 a6 a7, Le (rec_rf_BestOf181 a0 a1 a2 a3 a4 a5 a6 a7) (rec_rf_BestOf182 a0 a1 a2 a3 a4 a5 a6 a7)) (p1 : List Int) (p2 p3 : Int) (p4 p5 : Int) (p6 deep1 ply1 : Int) : Le (rf_BestOf18_B rec_rf_BestOf181 p1 p2 p3 p4 p5 p6 deep1 ply1) (rf_BestOf18_B rec_rf_BestOf182 p1 p2 p3 p4 p5 p6 deep1 ply1) := by
 unfold rf_BestOf18_B
 repeat' (first | with_reducible exact Le.refl _ | with_reducible exact h_rec_rf_BestOf18 _ _ _ _ _ _ _ _ | with_reducible exact rf_BestOf18_J1_le_rf_BestOf18 h_rec_rf_BestOf18 _ _ _ _ _ _ _ _ _ | with_reducible refine Le.asrt ?_ | with_reducible refine Le.ite ?_ ?_ | refine Le.bind ?_ (fun _ => ?_) | refine Le.loop2 (fun _ => ?_) | refine Le.elim2 (fun _ => ?_) (fun _ => ?_))

set_option maxRecDepth 100000 in
theorem rf_BestOf18_mF_le : ∀ (n : Nat) (p1 : List Int) (p2 p3 : Int) (p4 p5 : Int) (p6 deep1 ply1 : Int), Le (rf_BestOf18_mF n p1 p2 p3 p4 p5 p6 deep1 ply1) (rf_BestOf18_mF (n + 1) p1 p2 p3 p4 p5 p6 deep1 ply1)
 | 0, _, _, _, _, _, _, _, _ => fun _ h => by cases h
 | n + 1, _, _, _, _, _, _, _, _ => rf_BestOf18_B_le (fun a0 a1 a2 a3 a4 a5 a6 a7 => rf_BestOf18_mF_le n a0 a1 a2 a3 a4 a5 a6 a7) _ _ _ _ _ _ _ _

set_option maxRecDepth 100000 in
theorem rf_BestOf18_m_of (N : Nat) (p1 : List Int) (p2 p3 : Int) (p4 p5 : Int) (p6 deep1 ply1 : Int) {r : (Int × Int × Int × Int)} (h : rf_BestOf18_mF N p1 p2 p3 p4 p5 p6 deep1 ply1 = some r) : rf_BestOf18_m p1 p2 p3 p4 p5 p6 deep1 ply1 = some r :=
 recM_mono (fun n => rf_BestOf18_mF_le n _ _ _ _ _ _ _ _) h

def rf_ResultOf_J2  : Option Int :=
 some 2

def rf_ResultOf_J4  : Option Int :=
 some 0

def rf_ResultOf_J3  (p5 : Int) : Option Int :=
 if (decide ((100 : Int) ≤ p5)) then (some 4) else (rf_ResultOf_J4)

def rf_ResultOf_J1  (p1 : List Int) (p2 p3 : Int) (p4 p5 p6 : Int) : Option Int :=
 (rf_MaterialOf_m p1 p2 p3 p4 p5 p6).bind fun r3 => if r3.2 then (some 3) else ((rf_ResultOf_J3 p5))

def rf_ResultOf_m  (p1 : List Int) (p2 p3 : Int) (p4 p5 p6 : Int) : Option Int :=
 (rf_MovesAll_m p1 p2 p3 p4 p5 p6).bind fun r1 => if ((r1.length : Int) == 0) then ((rf_InCheck_m p1 p2).bind fun r2 => if r2 then (some 1) else (rf_ResultOf_J2)) else ((rf_ResultOf_J1 p1 p2 p3 p4 p5 p6))

theorem rf_ResultOf_w {A1 : Option Addr} {c1 n1 : Nat} {p1 : List Int} {p2 p3 : Int} {p4 p5 : Int} {p6 r : Int} {w0 w : World} {B : Nat} {fs : List HP} (hm : rf_ResultOf_m p1 p2 p3 p4 p5 p6 = some r) (hS : Sep w0 B w (fs)) (hr_p1 : RdF w0 B fs A1 (vI p1)) (_hc_p1 : p1.length ≤ c1) (_hn_p1 : n1 = p1.length) :
  Calls Try.prog 60 #[.agg (ca A1 n1 c1 p2 p3 p4 p5 p6)] w fun e w' => e = .returned (vi r) ∧ Sep w0 B w' (fs) := by
 obtain ⟨i3, hi3, hz3, hs3, hb3⟩ := info_parts Info3
 obtain rfl := _hn_p1
 unfold rf_ResultOf_m at hm
 replace hm := start_b hm
 refine enter (l := [.agg (ca A1 p1.length c1 p2 p3 p4 p5 p6)]) (n := 23) Try.func60 rfl rfl (by simp) (fun a hF => ?_)
 refine seqR ?_
 refine at_do (d := 1) (s := vS (Instr.box 75 (.agg (ca A1 p1.length c1 p2 p3 p4 p5 p6)))) (v := pa w.heap.size 0) (w' := w.alloc (.cells (ca A1 p1.length c1 p2 p3 p4 p5 p6) 75)) hF (by kernel_rfl) (by kernel_rfl) (by kernel_rfl) (fun a hF => ?_)
 have hS : Sep w0 B (w.alloc (.cells (ca A1 p1.length c1 p2 p3 p4 p5 p6) 75)) (blk w.heap.size 75 (ca A1 p1.length c1 p2 p3 p4 p5 p6) :: (fs)) := hS.box 75 (ca A1 p1.length c1 p2 p3 p4 p5 p6)
 generalize w.heap.size = g1 at hF hS
 generalize w.alloc (.cells (ca A1 p1.length c1 p2 p3 p4 p5 p6) 75) = w at hS ⊢
 refine ar 1 [] [] [1] [pl 1 (pa g1 0)] hF hS obs_nil (fun a w hF hS => ?_)
 refine ae [1] [pl 1 (pa g1 0)] hF rfl (fun hF => ?_)
 refine then_n ?_
 refine seq_cut (fun a w => Fr 23 [pl 1 (pa g1 0)] a ∧ Sep w0 B w (blk g1 75 (ca A1 p1.length c1 p2 p3 p4 p5 p6) :: fs) ∧ ((rf_ResultOf_J1 p1 p2 p3 p4 p5 p6)).bind some = some r) ?_ ?_
 ·rintro a w ⟨hF, hS, hm⟩
  unfold rf_ResultOf_J1 at hm
  obtain ⟨r3, hr3, hm⟩ := call_b hm
  refine rg [⟨false, [], vS (Instr.loadAt 75 (pa g1 0)), .agg (ca A1 p1.length c1 p2 p3 p4 p5 p6)⟩, ⟨false, [], callFunc 141 #[.agg (ca A1 p1.length c1 p2 p3 p4 p5 p6)], .tuple #[vi r3.1, .bool r3.2]⟩] [some (.agg (ca A1 p1.length c1 p2 p3 p4 p5 p6)), some (.tuple #[vi r3.1, .bool r3.2]), none, none, none, none, none] [1, 4] [pl 1 (pa g1 0), pl 4 (.bool r3.2)] hF hS ?_ (fun a w hF hS => ?_)
  ·exact obs_cons (oA (cs := (ca A1 p1.length c1 p2 p3 p4 p5 p6)) (fun _ _ hS => (hS.at_ 0 rfl).cellsAt 0 (by rfl))) <| obs_cons (ob_call Try.func141 (by kernel_rfl) rfl (fun _ _ hS => rf_MaterialOf_w hr3 hS (fun _ hS => (hr_p1 _ (hS.dropN 1))) _hc_p1 rfl)) <| obs_nil
  refine seq_cut (fun a w => Fr 23 [pl 1 (pa g1 0)] a ∧ Sep w0 B w (blk g1 75 (ca A1 p1.length c1 p2 p3 p4 p5 p6) :: fs) ∧ ((rf_ResultOf_J3 p5)).bind some = some r) ?_ ?_
  ·rintro a w ⟨hF, hS, hm⟩
   unfold rf_ResultOf_J3 at hm
   refine seq_cut (fun a w => Fr 23 [] a ∧ Sep w0 B w (fs) ∧ (rf_ResultOf_J4).bind some = some r) ?_ ?_
   ·rintro a w ⟨hF, hS, hm⟩
    unfold rf_ResultOf_J4 at hm
    refine rg [] [] [2] [pl 2 (vi 0)] hF hS obs_nil (fun a w hF hS => ?_)
    refine wpIn_ret ?_
    have hm : some 0 = some r := hm
    obtain rfl := Option.some.inj hm
    exact retV (rs := [.tmp 2]) (vs := [vi 0]) hF rfl rv1 rfl ⟨rfl, hS⟩
   ·refine rg [⟨false, [], vS (Instr.loadAt 3 (pa g1 4)), vi p5⟩] [none, some (vi p5), none] [22] [pl 22 (.bool (decide ((100 : Int) ≤ p5)))] hF hS ?_ (fun a w hF hS => ?_)
    ·exact obs_cons (ob_load Agg3 (fun _ _ hS => (hS.at_ 0 rfl).cell rfl)) <| obs_nil
    refine ce (t := 22) (b := decide ((100 : Int) ≤ p5)) hF (fun hb => ?_) (fun hb => ?_)
    ·replace hm := if_t hm hb
     refine rg [] [] [2] [pl 2 (vi 4)] hF hS obs_nil (fun a w hF hS => ?_)
     refine wpIn_ret ?_
     refine then_r ?_
     have hS := hS.pickN 1 [] (by decide)
     have hm : some 4 = some r := hm
     obtain rfl := Option.some.inj hm
     exact retV (rs := [.tmp 2]) (vs := [vi 4]) hF rfl rv1 rfl ⟨rfl, hS⟩
    ·replace hm := if_f hm hb
     refine wpIn_skip ?_
     refine then_n ?_
     have hS := hS.pickN 1 [] (by decide)
     exact ⟨hF.wk [], hS, hm⟩
  ·refine rg [] [] [1, 19] [pl 1 (pa g1 0), pl 19 (.bool r3.2)] hF hS obs_nil (fun a w hF hS => ?_)
   refine ce (t := 19) (b := r3.2) hF (fun hb => ?_) (fun hb => ?_)
   ·replace hm := if_t hm hb
    refine rg [] [] [2] [pl 2 (vi 3)] hF hS obs_nil (fun a w hF hS => ?_)
    refine wpIn_ret ?_
    refine then_r ?_
    have hS := hS.pickN 1 [] (by decide)
    have hm : some 3 = some r := hm
    obtain rfl := Option.some.inj hm
    exact retV (rs := [.tmp 2]) (vs := [vi 3]) hF rfl rv1 rfl ⟨rfl, hS⟩
   ·replace hm := if_f hm hb
    refine wpIn_skip ?_
    refine then_n ?_
    exact ⟨hF.wk [1], hS, hm⟩
 ·refine seqR ?_
  obtain ⟨r1, hr1, hm⟩ := call_b hm
  refine ar 1 [⟨false, [], vS (Instr.loadAt 75 (pa g1 0)), .agg (ca A1 p1.length c1 p2 p3 p4 p5 p6)⟩] [some (.agg (ca A1 p1.length c1 p2 p3 p4 p5 p6))] [1, 5] [pl 1 (pa g1 0), pl 5 (.agg (ca A1 p1.length c1 p2 p3 p4 p5 p6))] hF hS ?_ (fun a w hF hS => ?_)
  ·exact obs_cons (oA (cs := (ca A1 p1.length c1 p2 p3 p4 p5 p6)) (fun _ _ hS => (hS.at_ 0 rfl).cellsAt 0 (by rfl))) <| obs_nil
  refine at_call (f := 58) (args := #[.agg (ca A1 p1.length c1 p2 p3 p4 p5 p6)]) (d := 6) hF (by kernel_rfl) (by kernel_rfl) Try.func58 (by kernel_rfl) rfl (rf_MovesAll_w hr1 hS (fun _ hS => (hr_p1 _ (hS.dropN 1))) _hc_p1 rfl) (fun v a w hR hF => ?_)
  clear hS
  obtain ⟨A2, c2, rfl, hS⟩ := hR
  have hS : Sep w0 B w (ownK 88 3 A2 r1.length c2 (List.flatMap enc88 r1) :: blk g1 75 (ca A1 p1.length c1 p2 p3 p4 p5 p6) :: fs) := hS
  refine ar 2 [] [] [1, 8] [pl 1 (pa g1 0), pl 8 (.bool ((r1.length : Int) == 0))] hF hS obs_nil (fun a w hF hS => ?_)
  refine ae [1, 8] [pl 1 (pa g1 0), pl 8 (.bool ((r1.length : Int) == 0))] hF rfl (fun hF => ?_)
  refine then_n ?_
  refine ce (t := 8) (b := ((r1.length : Int) == 0)) hF (fun hb => ?_) (fun hb => ?_)
  ·replace hm := if_t hm hb
   refine seq_cut (fun a w => Fr 23 [] a ∧ Sep w0 B w (fs) ∧ (rf_ResultOf_J2).bind some = some r) ?_ ?_
   ·rintro a w ⟨hF, hS, hm⟩
    unfold rf_ResultOf_J2 at hm
    refine rg [] [] [2] [pl 2 (vi 2)] hF hS obs_nil (fun a w hF hS => ?_)
    refine wpIn_ret ?_
    refine then_r ?_
    have hm : some 2 = some r := hm
    obtain rfl := Option.some.inj hm
    exact retV (rs := [.tmp 2]) (vs := [vi 2]) hF rfl rv1 rfl ⟨rfl, hS⟩
   ·obtain ⟨r2, hr2, hm⟩ := call_b hm
    refine rg [⟨false, [], vS (Instr.loadAt 27 (pa g1 0)), .slice A1 p1.length c1⟩, ⟨false, [], vS (Instr.loadAt 3 (pa g1 1)), vi p2⟩, ⟨false, [], callFunc 130 #[.slice A1 p1.length c1, vi p2], .bool r2⟩] [none, some (.slice A1 p1.length c1), none, some (vi p2), some (.bool r2)] [13] [pl 13 (.bool r2)] hF hS ?_ (fun a w hF hS => ?_)
    ·exact obs_cons (ob_load Agg27 (fun _ _ hS => (hS.at_ 1 rfl).cell rfl)) <| obs_cons (ob_load Agg3 (fun _ _ hS => (hS.at_ 1 rfl).cell rfl)) <| obs_cons (ob_call Try.func130 (by kernel_rfl) rfl (fun _ _ hS => rf_InCheck_w hr2 hS (fun _ hS => (hr_p1 _ (hS.dropN 2))) _hc_p1 rfl)) <| obs_nil
    refine ce (t := 13) (b := r2) hF (fun hb => ?_) (fun hb => ?_)
    ·replace hm := if_t hm hb
     refine rg [] [] [2] [pl 2 (vi 1)] hF hS obs_nil (fun a w hF hS => ?_)
     refine wpIn_ret ?_
     refine then_r (then_r ?_)
     have hS := hS.pickN 2 [] (by decide)
     have hm : some 1 = some r := hm
     obtain rfl := Option.some.inj hm
     exact retV (rs := [.tmp 2]) (vs := [vi 1]) hF rfl rv1 rfl ⟨rfl, hS⟩
    ·replace hm := if_f hm hb
     refine wpIn_skip ?_
     refine then_n ?_
     have hS := hS.pickN 2 [] (by decide)
     exact ⟨hF.wk [], hS, hm⟩
  ·replace hm := if_f hm hb
   refine wpIn_skip ?_
   refine then_n ?_
   have hS := hS.pickN 2 [1] (by decide)
   exact ⟨hF.wk [1], hS, hm⟩

def rf_RowsOf18_J2  : Option Int :=
 some 0

def rf_RowsOf18_J5  (i1 n4 : Int) : Option (St (Int × Int) Int) :=
 some (.next (n4, (w64 (i1 + 1))))

def rf_RowsOf18_J4  (rec_rf_RowsOf18 : List Int → Int → Int → Int → Int → Int → Int → Int → Option Int) (p1 : List Int) (p2 p3 : Int) (p4 p5 : Int) (p6 plies1 result1 : Int) (r2 : (List MvT)) (n2 i1 : Int) : Option (St (Int × Int) Int) :=
 asrt (0 ≤ i1 ∧ i1 < (r2.length : Int)) <| (rf_MoveDone_m p1 p2 p3 p4 p5 p6 ((getd ((0, 0, 0) : MvT) r2 i1).1) ((getd ((0, 0, 0) : MvT) r2 i1).2.1) ((getd ((0, 0, 0) : MvT) r2 i1).2.2)).bind fun r3 => (rec_rf_RowsOf18 r3.1 r3.2.1 r3.2.2.1 r3.2.2.2.1 r3.2.2.2.2.1 r3.2.2.2.2.2 (w64 (plies1 - 1)) result1).bind fun r4 => (rf_RowsOf18_J5 i1) (w64 (n2 + r4))

def rf_RowsOf18_J3  (n3 : Int) : Option Int :=
 some n3

def rf_RowsOf18_K1  : Int → Option Int :=
 fun (x : Int) => match x with | n3 => rf_RowsOf18_J3 n3

def rf_RowsOf18_L1  (rec_rf_RowsOf18 : List Int → Int → Int → Int → Int → Int → Int → Int → Option Int) (p1 : List Int) (p2 p3 : Int) (p4 p5 : Int) (p6 plies1 result1 : Int) (r2 : (List MvT)) : (Int × Int) → Option (St (Int × Int) Int) :=
 fun (x : (Int × Int)) => match x with | (n2, i1) => if (decide (i1 < (r2.length : Int))) then ((rf_RowsOf18_J4 rec_rf_RowsOf18 p1 p2 p3 p4 p5 p6 plies1 result1 r2 n2 i1)) else (some (.done n2))

def rf_RowsOf18_J1  (rec_rf_RowsOf18 : List Int → Int → Int → Int → Int → Int → Int → Int → Option Int) (p1 : List Int) (p2 p3 : Int) (p4 p5 : Int) (p6 plies1 result1 : Int) : Option Int :=
 (rf_MovesAll_m p1 p2 p3 p4 p5 p6).bind fun r2 => (loop (rf_RowsOf18_L1 rec_rf_RowsOf18 p1 p2 p3 p4 p5 p6 plies1 result1 r2) (0, 0)).bind rf_RowsOf18_K1

def rf_RowsOf18_B (rec_rf_RowsOf18 : List Int → Int → Int → Int → Int → Int → Int → Int → Option Int) (p1 : List Int) (p2 p3 : Int) (p4 p5 : Int) (p6 plies1 result1 : Int) : Option Int :=
 if (plies1 == 0) then ((rf_ResultOf_m p1 p2 p3 p4 p5 p6).bind fun r1 => if (r1 == result1) then (some 1) else (rf_RowsOf18_J2)) else ((rf_RowsOf18_J1 rec_rf_RowsOf18 p1 p2 p3 p4 p5 p6 plies1 result1))

def rf_RowsOf18_mF : Nat → List Int → Int → Int → Int → Int → Int → Int → Int → Option Int
 | 0 => fun _ _ _ _ _ _ _ _ => none
 | n + 1 => fun p1 p2 p3 p4 p5 p6 plies1 result1 => rf_RowsOf18_B (rf_RowsOf18_mF n) p1 p2 p3 p4 p5 p6 plies1 result1

def rf_RowsOf18_m (p1 : List Int) (p2 p3 : Int) (p4 p5 : Int) (p6 plies1 result1 : Int) : Option Int :=
 recM fun n => rf_RowsOf18_mF n p1 p2 p3 p4 p5 p6 plies1 result1

theorem rf_RowsOf18_wB {rec_rf_RowsOf18 : List Int → Int → Int → Int → Int → Int → Int → Int → Option Int} (ih_rf_RowsOf18 : ∀ {A1 : Option Addr} {c1 n1 : Nat} {p1 : List Int} {p2 p3 : Int} {p4 p5 : Int} {p6 plies1 : Int} {result1 r : Int} {w0 w : World} {B : Nat} {fs : List HP} (_ : rec_rf_RowsOf18 p1 p2 p3 p4 p5 p6 plies1 result1 = some r) (_ : Sep w0 B w (fs)) (hr_p1 : RdF w0 B fs A1 (vI p1)) (_hc_p1 : p1.length ≤ c1) (_hn_p1 : n1 = p1.length), Calls Try.prog 69 #[.agg (ca A1 n1 c1 p2 p3 p4 p5 p6), vi plies1, vi result1] w fun e w' => e = .returned (vi r) ∧ Sep w0 B w' (fs)) {A1 : Option Addr} {c1 n1 : Nat} {p1 : List Int} {p2 p3 : Int} {p4 p5 : Int} {p6 plies1 : Int} {result1 r : Int} {w0 w : World} {B : Nat} {fs : List HP} (hm : rf_RowsOf18_B rec_rf_RowsOf18 p1 p2 p3 p4 p5 p6 plies1 result1 = some r) (hS : Sep w0 B w (fs)) (hr_p1 : RdF w0 B fs A1 (vI p1)) (_hc_p1 : p1.length ≤ c1) (_hn_p1 : n1 = p1.length) :
  Calls Try.prog 69 #[.agg (ca A1 n1 c1 p2 p3 p4 p5 p6), vi plies1, vi result1] w fun e w' => e = .returned (vi r) ∧ Sep w0 B w' (fs) := by
 obtain ⟨i3, hi3, hz3, hs3, hb3⟩ := info_parts Info3
 obtain ⟨i88, hi88, hz88, hs88, hb88⟩ := info_parts Info88
 obtain rfl := _hn_p1
 unfold rf_RowsOf18_B at hm
 replace hm := start_b hm
 refine enter (l := [.agg (ca A1 p1.length c1 p2 p3 p4 p5 p6), vi plies1, vi result1]) (n := 37) Try.func69 rfl rfl (by simp) (fun a hF => ?_)
 refine seqR ?_
 refine at_do (d := 3) (s := vS (Instr.box 75 (.agg (ca A1 p1.length c1 p2 p3 p4 p5 p6)))) (v := pa w.heap.size 0) (w' := w.alloc (.cells (ca A1 p1.length c1 p2 p3 p4 p5 p6) 75)) hF (by kernel_rfl) (by kernel_rfl) (by kernel_rfl) (fun a hF => ?_)
 have hS : Sep w0 B (w.alloc (.cells (ca A1 p1.length c1 p2 p3 p4 p5 p6) 75)) (blk w.heap.size 75 (ca A1 p1.length c1 p2 p3 p4 p5 p6) :: (fs)) := hS.box 75 (ca A1 p1.length c1 p2 p3 p4 p5 p6)
 generalize w.heap.size = g1 at hF hS
 generalize w.alloc (.cells (ca A1 p1.length c1 p2 p3 p4 p5 p6) 75) = w at hS ⊢
 refine ar 1 [] [] [1, 2, 3] [pl 1 (vi plies1), pl 2 (vi result1), pl 3 (pa g1 0)] hF hS obs_nil (fun a w hF hS => ?_)
 refine ae [1, 2, 3] [pl 1 (vi plies1), pl 2 (vi result1), pl 3 (pa g1 0)] hF rfl (fun hF => ?_)
 refine then_n ?_
 refine seq_cut (fun a w => Fr 37 [pl 1 (vi plies1), pl 2 (vi result1), pl 3 (pa g1 0)] a ∧ Sep w0 B w (blk g1 75 (ca A1 p1.length c1 p2 p3 p4 p5 p6) :: fs) ∧ ((rf_RowsOf18_J1 rec_rf_RowsOf18 p1 p2 p3 p4 p5 p6 plies1 result1)).bind some = some r) ?_ ?_
 ·rintro a w ⟨hF, hS, hm⟩
  unfold rf_RowsOf18_J1 at hm
  refine seqR ?_
  obtain ⟨r2, hr2, hm⟩ := call_b hm
  refine ar 1 [⟨false, [], vS (Instr.loadAt 75 (pa g1 0)), .agg (ca A1 p1.length c1 p2 p3 p4 p5 p6)⟩] [some (.agg (ca A1 p1.length c1 p2 p3 p4 p5 p6))] [1, 2, 3, 16] [pl 1 (vi plies1), pl 2 (vi result1), pl 3 (pa g1 0), pl 16 (.agg (ca A1 p1.length c1 p2 p3 p4 p5 p6))] hF hS ?_ (fun a w hF hS => ?_)
  ·exact obs_cons (oA (cs := (ca A1 p1.length c1 p2 p3 p4 p5 p6)) (fun _ _ hS => (hS.at_ 0 rfl).cellsAt 0 (by rfl))) <| obs_nil
  refine at_call (f := 58) (args := #[.agg (ca A1 p1.length c1 p2 p3 p4 p5 p6)]) (d := 17) hF (by kernel_rfl) (by kernel_rfl) Try.func58 (by kernel_rfl) rfl (rf_MovesAll_w hr2 hS (fun _ hS => (hr_p1 _ (hS.dropN 1))) _hc_p1 rfl) (fun v a w hR hF => ?_)
  clear hS
  obtain ⟨A2, c2, rfl, hS⟩ := hR
  have hS : Sep w0 B w (ownK 88 3 A2 r2.length c2 (List.flatMap enc88 r2) :: blk g1 75 (ca A1 p1.length c1 p2 p3 p4 p5 p6) :: fs) := hS
  refine ar 1 [] [] [1, 2, 3, 7] [pl 1 (vi plies1), pl 2 (vi result1), pl 3 (pa g1 0), pl 7 (.slice A2 r2.length c2)] hF hS obs_nil (fun a w hF hS => ?_)
  refine ae [1, 2, 3, 7] [pl 1 (vi plies1), pl 2 (vi result1), pl 3 (pa g1 0), pl 7 (.slice A2 r2.length c2)] hF rfl (fun hF => ?_)
  refine then_n ?_
  refine rg [] [] [1, 2, 3, 7, 8] [pl 1 (vi plies1), pl 2 (vi result1), pl 3 (pa g1 0), pl 7 (.slice A2 r2.length c2), pl 8 (vi 0)] hF hS obs_nil (fun a w hF hS => ?_)
  refine seq_cut (fun a w => ∃ (n3 : Int), Fr 37 [pl 8 (vi n3)] a ∧ Sep w0 B w (fs) ∧ (rf_RowsOf18_J3 n3).bind some = some r) ?_ ?_
  ·rintro a w ⟨n3, hF, hS, hm⟩
   unfold rf_RowsOf18_J3 at hm
   refine rg [] [] [6] [pl 6 (vi n3)] hF hS obs_nil (fun a w hF hS => ?_)
   refine wpIn_ret ?_
   have hm : some n3 = some r := hm
   obtain rfl := Option.some.inj hm
   exact retV (rs := [.tmp 6]) (vs := [vi n3]) hF rfl rv1 rfl ⟨rfl, hS⟩
  ·refine rg [] [] [1, 2, 3, 7, 8, 9] [pl 1 (vi plies1), pl 2 (vi result1), pl 3 (pa g1 0), pl 7 (.slice A2 r2.length c2), pl 8 (vi 0), pl 9 (vi 0)] hF hS obs_nil (fun a w hF hS => ?_)
   refine wpIn_block ?_
   have hS := hS.pickN 2 [1, 0] (by decide)
   refine wp_loop_model (S := (Int × Int)) (R := Int) (rf_RowsOf18_L1 rec_rf_RowsOf18 p1 p2 p3 p4 p5 p6 plies1 result1 r2) (fun x => (rf_RowsOf18_K1 x).bind some) r (fun (x : (Int × Int)) a w => Fr 37 [pl 1 (vi plies1), pl 2 (vi result1), pl 3 (pa g1 0), pl 7 (.slice A2 r2.length c2), pl 8 (vi x.1), pl 9 (vi x.2)] a ∧ Sep w0 B w (blk g1 75 (ca A1 p1.length c1 p2 p3 p4 p5 p6) :: ownK 88 3 A2 r2.length c2 (List.flatMap enc88 r2) :: fs)) (assoc_b hm) ⟨hF.wk [1, 2, 3, 7, 8, 9], hS⟩ ?_
   clear hF hS hm
   rintro nn1 ⟨n2, i1⟩ a w ⟨hF, hS⟩ hm
   generalize hφ1 : stK (rf_RowsOf18_L1 rec_rf_RowsOf18 p1 p2 p3 p4 p5 p6 plies1 result1 r2) nn1 (fun x => (rf_RowsOf18_K1 x).bind some) = φ1 at hm
   unfold rf_RowsOf18_L1 at hm
   dsimp only at hF hS hm
   refine seq_cut (fun a w => Fr 37 [pl 1 (vi plies1), pl 2 (vi result1), pl 3 (pa g1 0), pl 7 (.slice A2 r2.length c2), pl 8 (vi n2), pl 9 (vi i1)] a ∧ Sep w0 B w (blk g1 75 (ca A1 p1.length c1 p2 p3 p4 p5 p6) :: ownK 88 3 A2 r2.length c2 (List.flatMap enc88 r2) :: fs) ∧ ((rf_RowsOf18_J4 rec_rf_RowsOf18 p1 p2 p3 p4 p5 p6 plies1 result1 r2 n2 i1)).bind φ1 = some r) ?_ ?_
   ·rintro a w ⟨hF, hS, hm⟩
    unfold rf_RowsOf18_J4 at hm
    refine seq_cut (fun a w => ∃ (n4 : Int), Fr 37 [pl 1 (vi plies1), pl 2 (vi result1), pl 3 (pa g1 0), pl 7 (.slice A2 r2.length c2), pl 8 (vi n4), pl 9 (vi i1)] a ∧ Sep w0 B w (blk g1 75 (ca A1 p1.length c1 p2 p3 p4 p5 p6) :: ownK 88 3 A2 r2.length c2 (List.flatMap enc88 r2) :: fs) ∧ ((rf_RowsOf18_J5 i1) n4).bind φ1 = some r) ?_ ?_
    ·rintro a w ⟨n4, hF, hS, hm⟩
     unfold rf_RowsOf18_J5 at hm
     refine rg1 [] [] [1, 2, 3, 7, 8, 9] [pl 1 (vi plies1), pl 2 (vi result1), pl 3 (pa g1 0), pl 7 (.slice A2 r2.length c2), pl 8 (vi n4), pl 9 (vi (w64 (i1 + 1)))] hF hS obs_nil (fun a w hF hS => ?_)
     refine then_n ?_
     rw [← hφ1] at hm
     exact ⟨(n4, (w64 (i1 + 1))), ⟨hF.wk [1, 2, 3, 7, 8, 9], hS⟩, hm⟩
    ·refine wpIn_block ?_
     obtain ⟨hp1, hm⟩ := asrt_b hm
     obtain ⟨r3, hr3, hm⟩ := call_b hm
     obtain ⟨r4, hr4, hm⟩ := call_b hm
     refine regMix4 [0, 1, 2, 3, 4, 5, 7, 8, 9] [6, 10, 11, 12] [⟨false, [], vS (Instr.loadAt 75 (pa g1 0)), .agg (ca A1 p1.length c1 p2 p3 p4 p5 p6)⟩, ⟨true, [], vS (Instr.indexAt 81 (.slice A2 r2.length c2) (vi i1)), .pointer (some (sAddrK A2 3 i1))⟩, ⟨false, [], vS (Instr.loadAt 88 (.pointer (some (sAddrK A2 3 i1)))), .agg #[vi ((getd ((0, 0, 0) : MvT) r2 i1).1), vi ((getd ((0, 0, 0) : MvT) r2 i1).2.1), vi ((getd ((0, 0, 0) : MvT) r2 i1).2.2)]⟩] [none, some (.agg (ca A1 p1.length c1 p2 p3 p4 p5 p6)), none, none, some (.pointer (some (sAddrK A2 3 i1))), some (.agg #[vi ((getd ((0, 0, 0) : MvT) r2 i1).1), vi ((getd ((0, 0, 0) : MvT) r2 i1).2.1), vi ((getd ((0, 0, 0) : MvT) r2 i1).2.2)]), none, none, none] [1, 2, 3, 7, 9, 24, 25, 29, 32, 33] [pl 1 (vi plies1), pl 2 (vi result1), pl 3 (pa g1 0), pl 7 (.slice A2 r2.length c2), pl 9 (vi i1), pl 24 (vi n2), pl 25 (.agg (ca A1 p1.length c1 p2 p3 p4 p5 p6)), pl 29 (.agg #[vi ((getd ((0, 0, 0) : MvT) r2 i1).1), vi ((getd ((0, 0, 0) : MvT) r2 i1).2.1), vi ((getd ((0, 0, 0) : MvT) r2 i1).2.2)]), pl 32 (vi (w64 (plies1 - 1))), pl 33 (vi result1)] hF hS Fol (by kernel_rfl) (by kernel_rfl) (by kernel_rfl) (by kernel_rfl) (by kernel_rfl) ?_ (fun a w hF hS => ?_)
     ·exact obs_cons (oA (cs := (ca A1 p1.length c1 p2 p3 p4 p5 p6)) (fun _ _ hS => (hS.at_ 0 rfl).cellsAt 0 (by rfl))) <| obs_cons (ob_ixK (m := r2) encK88 Und81 hi88 hs88 (hS.at_ 1 rfl).rdK rfl (fun _ => hp1)) <| obs_cons (ob_getK (n := r2.length) (m := r2) encK88 ((0, 0, 0) : MvT) (by kernel_rfl) (by kernel_rfl) (fun _ hS => ⟨_, (hS.at_ 1 rfl).rdK⟩) (fun _ hS => rfl) (fun _ => hp1)) <| obs_nil
     refine at_call (f := 62) (args := #[.agg (ca A1 p1.length c1 p2 p3 p4 p5 p6), .agg #[vi ((getd ((0, 0, 0) : MvT) r2 i1).1), vi ((getd ((0, 0, 0) : MvT) r2 i1).2.1), vi ((getd ((0, 0, 0) : MvT) r2 i1).2.2)]]) (d := 30) hF (by kernel_rfl) (by kernel_rfl) Try.func62 (by kernel_rfl) rfl (rf_MoveDone_w hr3 hS (fun _ hS => (hr_p1 _ (hS.dropN 2))) _hc_p1 rfl) (fun v a w hR hF => ?_)
     clear hS
     obtain ⟨A3, c3, rfl, hS⟩ := hR
     have hS : Sep w0 B w (own 3 (.slice A3 r3.1.length c3) (vI r3.1) :: blk g1 75 (ca A1 p1.length c1 p2 p3 p4 p5 p6) :: ownK 88 3 A2 r2.length c2 (List.flatMap enc88 r2) :: fs) := hS
     refine ar 3 [⟨false, [], callFunc 69 #[.agg (ca A3 r3.1.length c3 r3.2.1 r3.2.2.1 r3.2.2.2.1 r3.2.2.2.2.1 r3.2.2.2.2.2), vi (w64 (plies1 - 1)), vi result1], vi r4⟩] [some (vi r4), none, none] [1, 2, 3, 7, 8, 9] [pl 1 (vi plies1), pl 2 (vi result1), pl 3 (pa g1 0), pl 7 (.slice A2 r2.length c2), pl 8 (vi (w64 (n2 + r4))), pl 9 (vi i1)] hF hS ?_ (fun a w hF hS => ?_)
     ·exact obs_cons (ob_call Try.func69 (by kernel_rfl) rfl (fun _ _ hS => ih_rf_RowsOf18 hr4 hS (fun _ hS => (hS.at_ 0 rfl).rd) ((hS.at_ 0 rfl).cap1) rfl)) <| obs_nil
     refine ae [1, 2, 3, 7, 8, 9] [pl 1 (vi plies1), pl 2 (vi result1), pl 3 (pa g1 0), pl 7 (.slice A2 r2.length c2), pl 8 (vi (w64 (n2 + r4))), pl 9 (vi i1)] hF rfl (fun hF => ?_)
     refine np_n ?_
     refine block_n ?_
     refine then_n ?_
     have hS := hS.pickN 3 [1, 2] (by decide)
     exact ⟨(w64 (n2 + r4)), hF.wk [1, 2, 3, 7, 8, 9], hS, hm⟩
   ·refine rg [] [] [1, 2, 3, 7, 8, 9, 21] [pl 1 (vi plies1), pl 2 (vi result1), pl 3 (pa g1 0), pl 7 (.slice A2 r2.length c2), pl 8 (vi n2), pl 9 (vi i1), pl 21 (.bool (decide (i1 < (r2.length : Int))))] hF hS obs_nil (fun a w hF hS => ?_)
    refine ce (t := 21) (b := decide (i1 < (r2.length : Int))) hF (fun hb => ?_) (fun hb => ?_)
    ·replace hm := if_t hm hb
     refine wpIn_skip ?_
     refine then_n ?_
     exact ⟨hF.wk [1, 2, 3, 7, 8, 9], hS, hm⟩
    ·replace hm := if_f hm hb
     refine wpIn_exit ?_
     refine then_e (then_e (block_e (then_n ?_)))
     have hS := hS.pickN 2 [] (by decide)
     rw [← hφ1] at hm
     replace hm := done_b hm
     unfold rf_RowsOf18_K1 at hm
     try dsimp only at hm
     have hm : (rf_RowsOf18_J3 n2).bind some = some r := hm
     exact ⟨n2, hF.wk [8], hS, hm⟩
 ·refine rg [] [] [1, 2, 3, 11] [pl 1 (vi plies1), pl 2 (vi result1), pl 3 (pa g1 0), pl 11 (.bool (plies1 == 0))] hF hS obs_nil (fun a w hF hS => ?_)
  refine ce (t := 11) (b := (plies1 == 0)) hF (fun hb => ?_) (fun hb => ?_)
  ·replace hm := if_t hm hb
   refine seq_cut (fun a w => Fr 37 [] a ∧ Sep w0 B w (fs) ∧ (rf_RowsOf18_J2).bind some = some r) ?_ ?_
   ·rintro a w ⟨hF, hS, hm⟩
    unfold rf_RowsOf18_J2 at hm
    refine rg [] [] [6] [pl 6 (vi 0)] hF hS obs_nil (fun a w hF hS => ?_)
    refine wpIn_ret ?_
    refine then_r ?_
    have hm : some 0 = some r := hm
    obtain rfl := Option.some.inj hm
    exact retV (rs := [.tmp 6]) (vs := [vi 0]) hF rfl rv1 rfl ⟨rfl, hS⟩
   ·obtain ⟨r1, hr1, hm⟩ := call_b hm
    refine rg [⟨false, [], vS (Instr.loadAt 75 (pa g1 0)), .agg (ca A1 p1.length c1 p2 p3 p4 p5 p6)⟩, ⟨false, [], callFunc 60 #[.agg (ca A1 p1.length c1 p2 p3 p4 p5 p6)], vi r1⟩] [some (.agg (ca A1 p1.length c1 p2 p3 p4 p5 p6)), some (vi r1), none, none] [15] [pl 15 (.bool (r1 == result1))] hF hS ?_ (fun a w hF hS => ?_)
    ·exact obs_cons (oA (cs := (ca A1 p1.length c1 p2 p3 p4 p5 p6)) (fun _ _ hS => (hS.at_ 0 rfl).cellsAt 0 (by rfl))) <| obs_cons (ob_call Try.func60 (by kernel_rfl) rfl (fun _ _ hS => rf_ResultOf_w hr1 hS (fun _ hS => (hr_p1 _ (hS.dropN 1))) _hc_p1 rfl)) <| obs_nil
    refine ce (t := 15) (b := (r1 == result1)) hF (fun hb => ?_) (fun hb => ?_)
    ·replace hm := if_t hm hb
     refine rg [] [] [6] [pl 6 (vi 1)] hF hS obs_nil (fun a w hF hS => ?_)
     refine wpIn_ret ?_
     refine then_r (then_r ?_)
     have hS := hS.pickN 1 [] (by decide)
     have hm : some 1 = some r := hm
     obtain rfl := Option.some.inj hm
     exact retV (rs := [.tmp 6]) (vs := [vi 1]) hF rfl rv1 rfl ⟨rfl, hS⟩
    ·replace hm := if_f hm hb
     refine wpIn_skip ?_
     refine then_n ?_
     have hS := hS.pickN 1 [] (by decide)
     exact ⟨hF.wk [], hS, hm⟩
  ·replace hm := if_f hm hb
   refine wpIn_skip ?_
   refine then_n ?_
   exact ⟨hF.wk [1, 2, 3], hS, hm⟩

theorem rf_RowsOf18_w {A1 : Option Addr} {c1 n1 : Nat} {p1 : List Int} {p2 p3 : Int} {p4 p5 : Int} {p6 plies1 : Int} {result1 r : Int} {w0 w : World} {B : Nat} {fs : List HP} (hm : rf_RowsOf18_m p1 p2 p3 p4 p5 p6 plies1 result1 = some r) (hS : Sep w0 B w (fs)) (hr_p1 : RdF w0 B fs A1 (vI p1)) (_hc_p1 : p1.length ≤ c1) (_hn_p1 : n1 = p1.length) :
  Calls Try.prog 69 #[.agg (ca A1 n1 c1 p2 p3 p4 p5 p6), vi plies1, vi result1] w fun e w' => e = .returned (vi r) ∧ Sep w0 B w' (fs) := by
 have key : ∀ (n : Nat) {A1 : Option Addr} {c1 n1 : Nat} {p1 : List Int} {p2 p3 : Int} {p4 p5 : Int} {p6 plies1 : Int} {result1 r : Int} {w0 w : World} {B : Nat} {fs : List HP} (_ : rf_RowsOf18_mF n p1 p2 p3 p4 p5 p6 plies1 result1 = some r) (_ : Sep w0 B w (fs)) (hr_p1 : RdF w0 B fs A1 (vI p1)) (_hc_p1 : p1.length ≤ c1) (_hn_p1 : n1 = p1.length), Calls Try.prog 69 #[.agg (ca A1 n1 c1 p2 p3 p4 p5 p6), vi plies1, vi result1] w fun e w' => e = .returned (vi r) ∧ Sep w0 B w' (fs) := by
  intro n
  induction n with
  | zero => intros; rename_i hm0 _ _ _ _; cases hm0
  | succ n ih => intros; rename_i hm0 hS0 h0 h1 h2; exact rf_RowsOf18_wB (rec_rf_RowsOf18 := rf_RowsOf18_mF n) (fun hm hS h0 h1 h2 => ih hm hS h0 h1 h2) hm0 hS0 h0 h1 h2
 obtain ⟨n, hn⟩ := recM_some hm
 exact key n hn hS hr_p1 _hc_p1 _hn_p1

set_option maxRecDepth 100000 in
theorem rf_RowsOf18_J4_le_rf_RowsOf18 {rec_rf_RowsOf181 rec_rf_RowsOf182 : List Int → Int → Int → Int → Int → Int → Int → Int → Option Int} (h_rec_rf_RowsOf18 : ∀ a0 a1 a2 a3 a4 a5 a6 a7, Le (rec_rf_RowsOf181 a0 a1 a2 a3 a4 a5 a6 a7) (rec_rf_RowsOf182 a0 a1 a2 a3 a4 a5 a6 a7)) (p1 : List Int) (p2 p3 : Int) (p4 p5 : Int) (p6 plies1 result1 : Int) (r2 : (List MvT)) (n2 i1 : Int) : Le (rf_RowsOf18_J4 rec_rf_RowsOf181 p1 p2 p3 p4 p5 p6 plies1 result1 r2 n2 i1) (rf_RowsOf18_J4 rec_rf_RowsOf182 p1 p2 p3 p4 p5 p6 plies1 result1 r2 n2 i1) := by
 unfold rf_RowsOf18_J4
 repeat' (first | with_reducible exact Le.refl _ | with_reducible exact h_rec_rf_RowsOf18 _ _ _ _ _ _ _ _ | with_reducible refine Le.asrt ?_ | with_reducible refine Le.ite ?_ ?_ | refine Le.bind ?_ (fun _ => ?_) | refine Le.loop2 (fun _ => ?_) | refine Le.elim2 (fun _ => ?_) (fun _ => ?_))

set_option maxRecDepth 100000 in
theorem rf_RowsOf18_L1_le_rf_RowsOf18 {rec_rf_RowsOf181 rec_rf_RowsOf182 : List Int → Int → Int → Int → Int → Int → Int → Int → Option Int} (h_rec_rf_RowsOf18 : ∀ a0 a1 a2 a3 a4 a5 a6 a7, Le (rec_rf_RowsOf181 a0 a1 a2 a3 a4 a5 a6 a7) (rec_rf_RowsOf182 a0 a1 a2 a3 a4 a5 a6 a7)) (p1 : List Int) (p2 p3 : Int) (p4 p5 : Int) (p6 plies1 result1 : Int) (r2 : (List MvT)) (x : (Int × Int)) : Le (rf_RowsOf18_L1 rec_rf_RowsOf181 p1 p2 p3 p4 p5 p6 plies1 result1 r2 x) (rf_RowsOf18_L1 rec_rf_RowsOf182 p1 p2 p3 p4 p5 p6 plies1 result1 r2 x) := by
 rcases x with ⟨n2, i1⟩
 all_goals
  unfold rf_RowsOf18_L1
  try dsimp only
  repeat' (first | with_reducible exact Le.refl _ | with_reducible exact h_rec_rf_RowsOf18 _ _ _ _ _ _ _ _ | with_reducible exact rf_RowsOf18_J4_le_rf_RowsOf18 h_rec_rf_RowsOf18 _ _ _ _ _ _ _ _ _ _ _ | with_reducible refine Le.asrt ?_ | with_reducible refine Le.ite ?_ ?_ | refine Le.bind ?_ (fun _ => ?_) | refine Le.loop2 (fun _ => ?_) | refine Le.elim2 (fun _ => ?_) (fun _ => ?_))

set_option maxRecDepth 100000 in
theorem rf_RowsOf18_J1_le_rf_RowsOf18 {rec_rf_RowsOf181 rec_rf_RowsOf182 : List Int → Int → Int → Int → Int → Int → Int → Int → Option Int} (h_rec_rf_RowsOf18 : ∀ a0 a1 a2 a3 a4 a5 a6 a7, Le (rec_rf_RowsOf181 a0 a1 a2 a3 a4 a5 a6 a7) (rec_rf_RowsOf182 a0 a1 a2 a3 a4 a5 a6 a7)) (p1 : List Int) (p2 p3 : Int) (p4 p5 : Int) (p6 plies1 result1 : Int) : Le (rf_RowsOf18_J1 rec_rf_RowsOf181 p1 p2 p3 p4 p5 p6 plies1 result1) (rf_RowsOf18_J1 rec_rf_RowsOf182 p1 p2 p3 p4 p5 p6 plies1 result1) := by
 unfold rf_RowsOf18_J1
 repeat' (first | with_reducible exact Le.refl _ | with_reducible exact h_rec_rf_RowsOf18 _ _ _ _ _ _ _ _ | with_reducible exact rf_RowsOf18_L1_le_rf_RowsOf18 h_rec_rf_RowsOf18 _ _ _ _ _ _ _ _ _ _ | with_reducible refine Le.asrt ?_ | with_reducible refine Le.ite ?_ ?_ | refine Le.bind ?_ (fun _ => ?_) | refine Le.loop2 (fun _ => ?_) | refine Le.elim2 (fun _ => ?_) (fun _ => ?_))

set_option maxRecDepth 100000 in
theorem rf_RowsOf18_B_le {rec_rf_RowsOf181 rec_rf_RowsOf182 : List Int → Int → Int → Int → Int → Int → Int → Int → Option Int} (h_rec_rf_RowsOf18 : ∀ a0 a1 a2 a3 a4 a5 a6 a7, Le (rec_rf_RowsOf181 a0 a1 a2 a3 a4 a5 a6 a7) (rec_rf_RowsOf182 a0 a1 a2 a3 a4 a5 a6 a7)) (p1 : List Int) (p2 p3 : Int) (p4 p5 : Int) (p6 plies1 result1 : Int) : Le (rf_RowsOf18_B rec_rf_RowsOf181 p1 p2 p3 p4 p5 p6 plies1 result1) (rf_RowsOf18_B rec_rf_RowsOf182 p1 p2 p3 p4 p5 p6 plies1 result1) := by
 unfold rf_RowsOf18_B
 repeat' (first | with_reducible exact Le.refl _ | with_reducible exact h_rec_rf_RowsOf18 _ _ _ _ _ _ _ _ | with_reducible exact rf_RowsOf18_J1_le_rf_RowsOf18 h_rec_rf_RowsOf18 _ _ _ _ _ _ _ _ | with_reducible refine Le.asrt ?_ | with_reducible refine Le.ite ?_ ?_ | refine Le.bind ?_ (fun _ => ?_) | refine Le.loop2 (fun _ => ?_) | refine Le.elim2 (fun _ => ?_) (fun _ => ?_))

set_option maxRecDepth 100000 in
theorem rf_RowsOf18_mF_le : ∀ (n : Nat) (p1 : List Int) (p2 p3 : Int) (p4 p5 : Int) (p6 plies1 result1 : Int), Le (rf_RowsOf18_mF n p1 p2 p3 p4 p5 p6 plies1 result1) (rf_RowsOf18_mF (n + 1) p1 p2 p3 p4 p5 p6 plies1 result1)
 | 0, _, _, _, _, _, _, _, _ => fun _ h => by cases h
 | n + 1, _, _, _, _, _, _, _, _ => rf_RowsOf18_B_le (fun a0 a1 a2 a3 a4 a5 a6 a7 => rf_RowsOf18_mF_le n a0 a1 a2 a3 a4 a5 a6 a7) _ _ _ _ _ _ _ _

set_option maxRecDepth 100000 in
theorem rf_RowsOf18_m_of (N : Nat) (p1 : List Int) (p2 p3 : Int) (p4 p5 : Int) (p6 plies1 result1 : Int) {r : Int} (h : rf_RowsOf18_mF N p1 p2 p3 p4 p5 p6 plies1 result1 = some r) : rf_RowsOf18_m p1 p2 p3 p4 p5 p6 plies1 result1 = some r :=
 recM_mono (fun n => rf_RowsOf18_mF_le n _ _ _ _ _ _ _ _) h

def lw_ProblemsBests_J4  (p1 : List Int) (p2 p3 : Int) (p4 p5 : Int) (p6 deep1 : Int) (r4 : (Int × Int × Int × Int × Int)) : Option Bool :=
 (rf_BestOf18_m p1 p2 p3 p4 p5 p6 deep1 0).bind fun r7 => some (((r4.2.2.2.2 == 0) && (r4.1 == r7.1)) && ((r4.2.1 == r7.2.1) && ((r4.2.2.1 == r7.2.2.1) && (r4.2.2.2.1 == r7.2.2.2))))

def lw_ProblemsBests_J3  (p1 : List Int) (p2 p3 : Int) (p4 p5 : Int) (p6 deep1 : Int) (r4 : (Int × Int × Int × Int × Int)) : Option Bool :=
 if ((decide (deep1 < 0)) || (decide ((2 : Int) < deep1))) then (some (((r4.2.2.2.2 == 3) && (r4.1 == 0)) && ((r4.2.1 == 0) && ((r4.2.2.1 == 0) && (r4.2.2.2.1 == 0))))) else ((lw_ProblemsBests_J4 p1 p2 p3 p4 p5 p6 deep1 r4))

def lw_ProblemsBests_J2  (p1 : List Int) (p2 p3 : Int) (p4 p5 : Int) (p6 plies1 : Int) (result1 deep1 : Int) (r2 : (Int × Int)) (r4 : (Int × Int × Int × Int × Int)) (no1 : Int) : Option Bool :=
 if (no1 != 0) then (if ((r2.2 != no1) || (r2.1 != 0)) then (some false) else ((lw_ProblemsBests_J3 p1 p2 p3 p4 p5 p6 deep1 r4))) else (((if (!(r2.2 != 0)) then rf_RowsOf18_m p1 p2 p3 p4 p5 p6 plies1 result1 else some 0)).bind fun r6 => if ((r2.2 != 0) || (r2.1 != r6)) then (some false) else ((lw_ProblemsBests_J3 p1 p2 p3 p4 p5 p6 deep1 r4)))

def lw_ProblemsBests_J1  (p1 : List Int) (p2 p3 : Int) (p4 p5 : Int) (p6 plies1 : Int) (result1 deep1 : Int) (r2 : (Int × Int)) (r4 : (Int × Int × Int × Int × Int)) : Option Bool :=
 if ((decide (plies1 < 0)) || (decide ((3 : Int) < plies1))) then ((lw_ProblemsBests_J2 p1 p2 p3 p4 p5 p6 plies1 result1 deep1 r2 r4) 3) else (if ((result1 != 1) && (result1 != 2)) then ((lw_ProblemsBests_J2 p1 p2 p3 p4 p5 p6 plies1 result1 deep1 r2 r4) 4) else ((lw_ProblemsBests_J2 p1 p2 p3 p4 p5 p6 plies1 result1 deep1 r2 r4) 0))

def lw_ProblemsBests_m  (p1 : List Int) (p2 p3 : Int) (p4 p5 : Int) (p6 plies1 : Int) (result1 deep1 : Int) : Option Bool :=
 (rf_ChessOf_m p1 p2 p3 p4 p5 p6).bind fun r1 => (problems_Rows_m r1.1 r1.2.1 r1.2.2.1 r1.2.2.2.1 r1.2.2.2.2.1 r1.2.2.2.2.2 plies1 result1).bind fun r2 => (rf_ChessOf_m p1 p2 p3 p4 p5 p6).bind fun r3 => (problems_Best_m r3.1 r3.2.1 r3.2.2.1 r3.2.2.2.1 r3.2.2.2.2.1 r3.2.2.2.2.2 deep1).bind fun r4 => (rf_ChessMay_m p1 p2 p3 p4 p5 p6).bind fun r5 => if (!r5) then (some (((((r2.2 == 12) && (r4.2.2.2.2 == 12)) && (r2.1 == 0)) && (r4.1 == 0)) && ((r4.2.1 == 0) && ((r4.2.2.1 == 0) && (r4.2.2.2.1 == 0))))) else ((lw_ProblemsBests_J1 p1 p2 p3 p4 p5 p6 plies1 result1 deep1 r2 r4))

theorem lw_ProblemsBests_w {A1 : Option Addr} {c1 n1 : Nat} {p1 : List Int} {p2 p3 : Int} {p4 p5 : Int} {p6 plies1 : Int} {result1 deep1 : Int} {r : Bool} {w0 w : World} {B : Nat} {fs : List HP} (hm : lw_ProblemsBests_m p1 p2 p3 p4 p5 p6 plies1 result1 deep1 = some r) (hS : Sep w0 B w (fs)) (hr_p1 : RdF w0 B fs A1 (vI p1)) (_hc_p1 : p1.length ≤ c1) (_hn_p1 : n1 = p1.length) :
  Calls Try.prog 12 #[.agg (ca A1 n1 c1 p2 p3 p4 p5 p6), vi plies1, vi result1, vi deep1] w fun e w' => e = .returned (.bool r) ∧ Sep w0 B w' (fs) := by
 obtain ⟨i3, hi3, hz3, hs3, hb3⟩ := info_parts Info3
 obtain rfl := _hn_p1
 unfold lw_ProblemsBests_m at hm
 replace hm := start_b hm
 refine enter (l := [.agg (ca A1 p1.length c1 p2 p3 p4 p5 p6), vi plies1, vi result1, vi deep1]) (n := 122) Try.func12 rfl rfl (by simp) (fun a hF => ?_)
 refine seqR ?_
 refine at_do (d := 4) (s := vS (Instr.box 75 (.agg (ca A1 p1.length c1 p2 p3 p4 p5 p6)))) (v := pa w.heap.size 0) (w' := w.alloc (.cells (ca A1 p1.length c1 p2 p3 p4 p5 p6) 75)) hF (by kernel_rfl) (by kernel_rfl) (by kernel_rfl) (fun a hF => ?_)
 have hS : Sep w0 B (w.alloc (.cells (ca A1 p1.length c1 p2 p3 p4 p5 p6) 75)) (blk w.heap.size 75 (ca A1 p1.length c1 p2 p3 p4 p5 p6) :: (fs)) := hS.box 75 (ca A1 p1.length c1 p2 p3 p4 p5 p6)
 generalize w.heap.size = g1 at hF hS
 generalize w.alloc (.cells (ca A1 p1.length c1 p2 p3 p4 p5 p6) 75) = w at hS ⊢
 refine ar 1 [] [] [1, 2, 3, 4] [pl 1 (vi plies1), pl 2 (vi result1), pl 3 (vi deep1), pl 4 (pa g1 0)] hF hS obs_nil (fun a w hF hS => ?_)
 refine ae [1, 2, 3, 4] [pl 1 (vi plies1), pl 2 (vi result1), pl 3 (vi deep1), pl 4 (pa g1 0)] hF rfl (fun hF => ?_)
 refine then_n (seqR ?_)
 obtain ⟨r1, hr1, hm⟩ := call_b hm
 obtain ⟨r2, hr2, hm⟩ := call_b hm
 refine ar 1 [⟨false, [], vS (Instr.loadAt 75 (pa g1 0)), .agg (ca A1 p1.length c1 p2 p3 p4 p5 p6)⟩] [some (.agg (ca A1 p1.length c1 p2 p3 p4 p5 p6))] [1, 2, 3, 4, 19] [pl 1 (vi plies1), pl 2 (vi result1), pl 3 (vi deep1), pl 4 (pa g1 0), pl 19 (.agg (ca A1 p1.length c1 p2 p3 p4 p5 p6))] hF hS ?_ (fun a w hF hS => ?_)
 ·exact obs_cons (oA (cs := (ca A1 p1.length c1 p2 p3 p4 p5 p6)) (fun _ _ hS => (hS.at_ 0 rfl).cellsAt 0 (by rfl))) <| obs_nil
 refine at_call (f := 47) (args := #[.agg (ca A1 p1.length c1 p2 p3 p4 p5 p6)]) (d := 20) hF (by kernel_rfl) (by kernel_rfl) Try.func47 (by kernel_rfl) rfl (rf_ChessOf_w hr1 hS (fun _ hS => (hr_p1 _ (hS.dropN 1))) _hc_p1 rfl) (fun v a w hR hF => ?_)
 clear hS
 obtain ⟨A2, c2, rfl, hS⟩ := hR
 have hS : Sep w0 B w (own 3 (.slice A2 r1.1.length c2) (vI r1.1) :: blk g1 75 (ca A1 p1.length c1 p2 p3 p4 p5 p6) :: fs) := hS
 refine ar 8 [⟨false, [], callFunc 67 #[.agg (ca A2 r1.1.length c2 r1.2.1 r1.2.2.1 r1.2.2.2.1 r1.2.2.2.2.1 r1.2.2.2.2.2), vi plies1, vi result1], .tuple #[vi r2.1, vi r2.2]⟩] [none, none, some (.tuple #[vi r2.1, vi r2.2]), none, none, none, none, none] [1, 2, 3, 4, 9, 10] [pl 1 (vi plies1), pl 2 (vi result1), pl 3 (vi deep1), pl 4 (pa g1 0), pl 9 (vi r2.1), pl 10 (vi r2.2)] hF hS ?_ (fun a w hF hS => ?_)
 ·exact obs_cons (ob_call Try.func67 (by kernel_rfl) rfl (fun _ _ hS => problems_Rows_w hr2 hS (fun _ hS => (hS.at_ 0 rfl).rd) ((hS.at_ 0 rfl).cap1) rfl)) <| obs_nil
 refine ae [1, 2, 3, 4, 9, 10] [pl 1 (vi plies1), pl 2 (vi result1), pl 3 (vi deep1), pl 4 (pa g1 0), pl 9 (vi r2.1), pl 10 (vi r2.2)] hF rfl (fun hF => ?_)
 refine then_n (seqR ?_)
 obtain ⟨r3, hr3, hm⟩ := call_b hm
 obtain ⟨r4, hr4, hm⟩ := call_b hm
 refine ar 1 [⟨false, [], vS (Instr.loadAt 75 (pa g1 0)), .agg (ca A1 p1.length c1 p2 p3 p4 p5 p6)⟩] [some (.agg (ca A1 p1.length c1 p2 p3 p4 p5 p6))] [1, 2, 3, 4, 9, 10, 27] [pl 1 (vi plies1), pl 2 (vi result1), pl 3 (vi deep1), pl 4 (pa g1 0), pl 9 (vi r2.1), pl 10 (vi r2.2), pl 27 (.agg (ca A1 p1.length c1 p2 p3 p4 p5 p6))] hF hS ?_ (fun a w hF hS => ?_)
 ·exact obs_cons (oA (cs := (ca A1 p1.length c1 p2 p3 p4 p5 p6)) (fun _ _ hS => (hS.at_ 1 rfl).cellsAt 0 (by rfl))) <| obs_nil
 refine at_call (f := 47) (args := #[.agg (ca A1 p1.length c1 p2 p3 p4 p5 p6)]) (d := 28) hF (by kernel_rfl) (by kernel_rfl) Try.func47 (by kernel_rfl) rfl (rf_ChessOf_w hr3 hS (fun _ hS => (hr_p1 _ (hS.dropN 2))) _hc_p1 rfl) (fun v a w hR hF => ?_)
 clear hS
 obtain ⟨A3, c3, rfl, hS⟩ := hR
 have hS : Sep w0 B w (own 3 (.slice A3 r3.1.length c3) (vI r3.1) :: own 3 (.slice A2 r1.1.length c2) (vI r1.1) :: blk g1 75 (ca A1 p1.length c1 p2 p3 p4 p5 p6) :: fs) := hS
 refine ar 6 [⟨false, [], callFunc 68 #[.agg (ca A3 r3.1.length c3 r3.2.1 r3.2.2.1 r3.2.2.2.1 r3.2.2.2.2.1 r3.2.2.2.2.2), vi deep1], .tuple #[vi r4.1, .agg #[vi r4.2.1, vi r4.2.2.1, vi r4.2.2.2.1], vi r4.2.2.2.2]⟩] [none, some (.tuple #[vi r4.1, .agg #[vi r4.2.1, vi r4.2.2.1, vi r4.2.2.2.1], vi r4.2.2.2.2]), none, none, none, none] [1, 2, 3, 4, 9, 10, 31, 32, 33] [pl 1 (vi plies1), pl 2 (vi result1), pl 3 (vi deep1), pl 4 (pa g1 0), pl 9 (vi r2.1), pl 10 (vi r2.2), pl 31 (vi r4.1), pl 32 (.agg #[vi r4.2.1, vi r4.2.2.1, vi r4.2.2.2.1]), pl 33 (vi r4.2.2.2.2)] hF hS ?_ (fun a w hF hS => ?_)
 ·exact obs_cons (ob_call Try.func68 (by kernel_rfl) rfl (fun _ _ hS => problems_Best_w hr4 hS (fun _ hS => (hS.at_ 0 rfl).rd) ((hS.at_ 0 rfl).cap1) rfl)) <| obs_nil
 refine at_do (d := 12) (s := vS (Instr.alloc 88 true (.tuple #[]))) (v := pa w.heap.size 0) (w' := w.alloc (.cells #[vi 0, vi 0, vi 0] 88)) hF (by kernel_rfl) (by kernel_rfl) (by kernel_rfl) (fun a hF => ?_)
 have hS : Sep w0 B (w.alloc (.cells #[vi 0, vi 0, vi 0] 88)) (blk w.heap.size 88 #[vi 0, vi 0, vi 0] :: (own 3 (.slice A3 r3.1.length c3) (vI r3.1) :: own 3 (.slice A2 r1.1.length c2) (vI r1.1) :: blk g1 75 (ca A1 p1.length c1 p2 p3 p4 p5 p6) :: fs)) := hS.box 88 #[vi 0, vi 0, vi 0]
 generalize w.heap.size = g2 at hF hS
 generalize w.alloc (.cells #[vi 0, vi 0, vi 0] 88) = w at hS ⊢
 refine ar 1 [] [] [1, 2, 3, 4, 9, 10, 11, 12, 32, 33] [pl 1 (vi plies1), pl 2 (vi result1), pl 3 (vi deep1), pl 4 (pa g1 0), pl 9 (vi r2.1), pl 10 (vi r2.2), pl 11 (vi r4.1), pl 12 (pa g2 0), pl 32 (.agg #[vi r4.2.1, vi r4.2.2.1, vi r4.2.2.2.1]), pl 33 (vi r4.2.2.2.2)] hF hS obs_nil (fun a w hF hS => ?_)
 obtain ⟨w, hrun, hS⟩ := run_putA (P := Try.prog) (t := 88) (us := #[vi r4.2.1, vi r4.2.2.1, vi r4.2.2.2.1]) (o := 0) (hS.at_ 0 rfl) (by kernel_rfl) (all_one (by kernel_rfl)) (Nat.le_of_ble_eq_true (by kernel_rfl))
 refine at_s hF hrun ?_
 have hS : Sep w0 B w (blk g2 88 #[vi r4.2.1, vi r4.2.2.1, vi r4.2.2.2.1] :: own 3 (.slice A3 r3.1.length c3) (vI r3.1) :: own 3 (.slice A2 r1.1.length c2) (vI r1.1) :: blk g1 75 (ca A1 p1.length c1 p2 p3 p4 p5 p6) :: fs) := hS
 refine ar 1 [] [] [1, 2, 3, 4, 9, 10, 11, 12, 13] [pl 1 (vi plies1), pl 2 (vi result1), pl 3 (vi deep1), pl 4 (pa g1 0), pl 9 (vi r2.1), pl 10 (vi r2.2), pl 11 (vi r4.1), pl 12 (pa g2 0), pl 13 (vi r4.2.2.2.2)] hF hS obs_nil (fun a w hF hS => ?_)
 refine ae [1, 2, 3, 4, 9, 10, 11, 12, 13] [pl 1 (vi plies1), pl 2 (vi result1), pl 3 (vi deep1), pl 4 (pa g1 0), pl 9 (vi r2.1), pl 10 (vi r2.2), pl 11 (vi r4.1), pl 12 (pa g2 0), pl 13 (vi r4.2.2.2.2)] hF rfl (fun hF => ?_)
 refine then_n (seqR ?_)
 refine at_do (d := 14) (s := vS (Instr.alloc 88 true (.tuple #[]))) (v := pa w.heap.size 0) (w' := w.alloc (.cells #[vi 0, vi 0, vi 0] 88)) hF (by kernel_rfl) (by kernel_rfl) (by kernel_rfl) (fun a hF => ?_)
 have hS : Sep w0 B (w.alloc (.cells #[vi 0, vi 0, vi 0] 88)) (blk w.heap.size 88 #[vi 0, vi 0, vi 0] :: (blk g2 88 #[vi r4.2.1, vi r4.2.2.1, vi r4.2.2.2.1] :: own 3 (.slice A3 r3.1.length c3) (vI r3.1) :: own 3 (.slice A2 r1.1.length c2) (vI r1.1) :: blk g1 75 (ca A1 p1.length c1 p2 p3 p4 p5 p6) :: fs)) := hS.box 88 #[vi 0, vi 0, vi 0]
 generalize w.heap.size = g3 at hF hS
 generalize w.alloc (.cells #[vi 0, vi 0, vi 0] 88) = w at hS ⊢
 refine ae [1, 2, 3, 4, 9, 10, 11, 12, 13, 14] [pl 1 (vi plies1), pl 2 (vi result1), pl 3 (vi deep1), pl 4 (pa g1 0), pl 9 (vi r2.1), pl 10 (vi r2.2), pl 11 (vi r4.1), pl 12 (pa g2 0), pl 13 (vi r4.2.2.2.2), pl 14 (pa g3 0)] hF rfl (fun hF => ?_)
 refine then_n ?_
 refine seq_cut (fun a w => Fr 122 [pl 1 (vi plies1), pl 2 (vi result1), pl 3 (vi deep1), pl 4 (pa g1 0), pl 9 (vi r2.1), pl 10 (vi r2.2), pl 11 (vi r4.1), pl 12 (pa g2 0), pl 13 (vi r4.2.2.2.2), pl 14 (pa g3 0)] a ∧ Sep w0 B w (blk g1 75 (ca A1 p1.length c1 p2 p3 p4 p5 p6) :: blk g2 88 #[vi r4.2.1, vi r4.2.2.1, vi r4.2.2.2.1] :: blk g3 88 #[vi 0, vi 0, vi 0] :: fs) ∧ ((lw_ProblemsBests_J1 p1 p2 p3 p4 p5 p6 plies1 result1 deep1 r2 r4)).bind some = some r) ?_ ?_
 ·rintro a w ⟨hF, hS, hm⟩
  unfold lw_ProblemsBests_J1 at hm
  refine rg [] [] [1, 2, 3, 4, 9, 10, 11, 12, 13, 14, 15] [pl 1 (vi plies1), pl 2 (vi result1), pl 3 (vi deep1), pl 4 (pa g1 0), pl 9 (vi r2.1), pl 10 (vi r2.2), pl 11 (vi r4.1), pl 12 (pa g2 0), pl 13 (vi r4.2.2.2.2), pl 14 (pa g3 0), pl 15 (vi 0)] hF hS obs_nil (fun a w hF hS => ?_)
  refine seq_cut (fun a w => ∃ (no1 : Int), Fr 122 [pl 1 (vi plies1), pl 2 (vi result1), pl 3 (vi deep1), pl 4 (pa g1 0), pl 9 (vi r2.1), pl 10 (vi r2.2), pl 11 (vi r4.1), pl 12 (pa g2 0), pl 13 (vi r4.2.2.2.2), pl 14 (pa g3 0), pl 15 (vi no1)] a ∧ Sep w0 B w (blk g1 75 (ca A1 p1.length c1 p2 p3 p4 p5 p6) :: blk g2 88 #[vi r4.2.1, vi r4.2.2.1, vi r4.2.2.2.1] :: blk g3 88 #[vi 0, vi 0, vi 0] :: fs) ∧ ((lw_ProblemsBests_J2 p1 p2 p3 p4 p5 p6 plies1 result1 deep1 r2 r4) no1).bind some = some r) ?_ ?_
  ·rintro a w ⟨no1, hF, hS, hm⟩
   unfold lw_ProblemsBests_J2 at hm
   refine seq_cut (fun a w => Fr 122 [pl 3 (vi deep1), pl 4 (pa g1 0), pl 11 (vi r4.1), pl 12 (pa g2 0), pl 13 (vi r4.2.2.2.2), pl 14 (pa g3 0)] a ∧ Sep w0 B w (blk g1 75 (ca A1 p1.length c1 p2 p3 p4 p5 p6) :: blk g2 88 #[vi r4.2.1, vi r4.2.2.1, vi r4.2.2.2.1] :: blk g3 88 #[vi 0, vi 0, vi 0] :: fs) ∧ ((lw_ProblemsBests_J3 p1 p2 p3 p4 p5 p6 deep1 r4)).bind some = some r) ?_ ?_
   ·rintro a w ⟨hF, hS, hm⟩
    unfold lw_ProblemsBests_J3 at hm
    refine seq_cut (fun a w => Fr 122 [pl 3 (vi deep1), pl 4 (pa g1 0), pl 11 (vi r4.1), pl 12 (pa g2 0), pl 13 (vi r4.2.2.2.2)] a ∧ Sep w0 B w (blk g1 75 (ca A1 p1.length c1 p2 p3 p4 p5 p6) :: blk g2 88 #[vi r4.2.1, vi r4.2.2.1, vi r4.2.2.2.1] :: fs) ∧ ((lw_ProblemsBests_J4 p1 p2 p3 p4 p5 p6 deep1 r4)).bind some = some r) ?_ ?_
    ·rintro a w ⟨hF, hS, hm⟩
     unfold lw_ProblemsBests_J4 at hm
     refine seqR ?_
     obtain ⟨r7, hr7, hm⟩ := call_b hm
     refine ar 6 [⟨false, [], vS (Instr.loadAt 75 (pa g1 0)), .agg (ca A1 p1.length c1 p2 p3 p4 p5 p6)⟩, ⟨false, [], callFunc 70 #[.agg (ca A1 p1.length c1 p2 p3 p4 p5 p6), vi deep1, vi 0], .tuple #[vi r7.1, .agg #[vi r7.2.1, vi r7.2.2.1, vi r7.2.2.2]]⟩] [some (.agg (ca A1 p1.length c1 p2 p3 p4 p5 p6)), none, some (.tuple #[vi r7.1, .agg #[vi r7.2.1, vi r7.2.2.1, vi r7.2.2.2]]), none, none, none] [11, 12, 13, 108, 109] [pl 11 (vi r4.1), pl 12 (pa g2 0), pl 13 (vi r4.2.2.2.2), pl 108 (vi r7.1), pl 109 (.agg #[vi r7.2.1, vi r7.2.2.1, vi r7.2.2.2])] hF hS ?_ (fun a w hF hS => ?_)
     ·exact obs_cons (oA (cs := (ca A1 p1.length c1 p2 p3 p4 p5 p6)) (fun _ _ hS => (hS.at_ 0 rfl).cellsAt 0 (by rfl))) <| obs_cons (ob_call Try.func70 (by kernel_rfl) rfl (fun _ _ hS => rf_BestOf18_w hr7 hS (fun _ hS => (hr_p1 _ (hS.dropN 2))) _hc_p1 rfl)) <| obs_nil
     refine at_do (d := 17) (s := vS (Instr.alloc 88 true (.tuple #[]))) (v := pa w.heap.size 0) (w' := w.alloc (.cells #[vi 0, vi 0, vi 0] 88)) hF (by kernel_rfl) (by kernel_rfl) (by kernel_rfl) (fun a hF => ?_)
     have hS : Sep w0 B (w.alloc (.cells #[vi 0, vi 0, vi 0] 88)) (blk w.heap.size 88 #[vi 0, vi 0, vi 0] :: (blk g1 75 (ca A1 p1.length c1 p2 p3 p4 p5 p6) :: blk g2 88 #[vi r4.2.1, vi r4.2.2.1, vi r4.2.2.2.1] :: fs)) := hS.box 88 #[vi 0, vi 0, vi 0]
     generalize w.heap.size = g4 at hF hS
     generalize w.alloc (.cells #[vi 0, vi 0, vi 0] 88) = w at hS ⊢
     refine ar 1 [] [] [11, 12, 13, 16, 17, 109] [pl 11 (vi r4.1), pl 12 (pa g2 0), pl 13 (vi r4.2.2.2.2), pl 16 (vi r7.1), pl 17 (pa g4 0), pl 109 (.agg #[vi r7.2.1, vi r7.2.2.1, vi r7.2.2.2])] hF hS obs_nil (fun a w hF hS => ?_)
     obtain ⟨w, hrun, hS⟩ := run_putA (P := Try.prog) (t := 88) (us := #[vi r7.2.1, vi r7.2.2.1, vi r7.2.2.2]) (o := 0) (hS.at_ 0 rfl) (by kernel_rfl) (all_one (by kernel_rfl)) (Nat.le_of_ble_eq_true (by kernel_rfl))
     refine at_s hF hrun ?_
     have hS : Sep w0 B w (blk g4 88 #[vi r7.2.1, vi r7.2.2.1, vi r7.2.2.2] :: blk g1 75 (ca A1 p1.length c1 p2 p3 p4 p5 p6) :: blk g2 88 #[vi r4.2.1, vi r4.2.2.1, vi r4.2.2.2.1] :: fs) := hS
     refine ae [11, 12, 13, 16, 17] [pl 11 (vi r4.1), pl 12 (pa g2 0), pl 13 (vi r4.2.2.2.2), pl 16 (vi r7.1), pl 17 (pa g4 0)] hF rfl (fun hF => ?_)
     refine then_n ?_
     refine rg [⟨false, [((r4.2.2.2.2 == 0) && (r4.1 == r7.1), true)], vS (Instr.loadAt 88 (pa g2 0)), .agg #[vi r4.2.1, vi r4.2.2.1, vi r4.2.2.2.1]⟩, ⟨false, [((r4.2.2.2.2 == 0) && (r4.1 == r7.1), true)], vS (Instr.loadAt 88 (pa g4 0)), .agg #[vi r7.2.1, vi r7.2.2.1, vi r7.2.2.2]⟩, ⟨true, [((r4.2.2.2.2 == 0) && (r4.1 == r7.1), true)], vS (do eqGuard .eql 88 (.tmp 118) (.tmp 119) (.agg #[vi r4.2.1, vi r4.2.2.1, vi r4.2.2.2.1]) (.agg #[vi r7.2.1, vi r7.2.2.1, vi r7.2.2.2]); binOp .eql 88 (.agg #[vi r4.2.1, vi r4.2.2.1, vi r4.2.2.2.1]) (.agg #[vi r7.2.1, vi r7.2.2.1, vi r7.2.2.2])), .bool (((r4.2.1 == r7.2.1) && ((r4.2.2.1 == r7.2.2.1) && (r4.2.2.2.1 == r7.2.2.2))))⟩] [none, none, none, none, none, none, none, none, some (.agg #[vi r4.2.1, vi r4.2.2.1, vi r4.2.2.2.1]), some (.agg #[vi r7.2.1, vi r7.2.2.1, vi r7.2.2.2]), some (.bool (((r4.2.1 == r7.2.1) && ((r4.2.2.1 == r7.2.2.1) && (r4.2.2.2.1 == r7.2.2.2))))), none, none] [8] [pl 8 (.bool (((r4.2.2.2.2 == 0) && (r4.1 == r7.1)) && ((r4.2.1 == r7.2.1) && ((r4.2.2.1 == r7.2.2.1) && (r4.2.2.2.1 == r7.2.2.2)))))] hF hS ?_ (fun a w hF hS => ?_)
     ·exact obs_cons (oA (cs := #[vi r4.2.1, vi r4.2.2.1, vi r4.2.2.2.1]) (fun _ _ hS => (hS.at_ 2 rfl).cellsAt 0 (by rfl))) <| obs_cons (oA (cs := #[vi r7.2.1, vi r7.2.2.1, vi r7.2.2.2]) (fun _ _ hS => (hS.at_ 0 rfl).cellsAt 0 (by rfl))) <| obs_cons (ob_eql rfl (by kernel_rfl) (fun w => Eql88 w)) <| obs_nil
     refine wpIn_ret ?_
     have hS := hS.pickN 3 [] (by decide)
     have hm : some (((r4.2.2.2.2 == 0) && (r4.1 == r7.1)) && ((r4.2.1 == r7.2.1) && ((r4.2.2.1 == r7.2.2.1) && (r4.2.2.2.1 == r7.2.2.2)))) = some r := hm
     obtain rfl := Option.some.inj hm
     exact retV (rs := [.tmp 8]) (vs := [.bool (((r4.2.2.2.2 == 0) && (r4.1 == r7.1)) && ((r4.2.1 == r7.2.1) && ((r4.2.2.1 == r7.2.2.1) && (r4.2.2.2.1 == r7.2.2.2))))]) hF rfl rv1 rfl ⟨rfl, hS⟩
    ·refine rg [] [] [3, 4, 11, 12, 13, 14, 92] [pl 3 (vi deep1), pl 4 (pa g1 0), pl 11 (vi r4.1), pl 12 (pa g2 0), pl 13 (vi r4.2.2.2.2), pl 14 (pa g3 0), pl 92 (.bool ((decide (deep1 < 0)) || (decide ((2 : Int) < deep1))))] hF hS obs_nil (fun a w hF hS => ?_)
     refine ce (t := 92) (b := (decide (deep1 < 0)) || (decide ((2 : Int) < deep1))) hF (fun hb => ?_) (fun hb => ?_)
     ·replace hm := if_t hm hb
      refine rg [⟨false, [((r4.2.2.2.2 == 3) && (r4.1 == 0), true)], vS (Instr.loadAt 88 (pa g2 0)), .agg #[vi r4.2.1, vi r4.2.2.1, vi r4.2.2.2.1]⟩, ⟨false, [((r4.2.2.2.2 == 3) && (r4.1 == 0), true)], vS (Instr.loadAt 88 (pa g3 0)), .agg #[vi 0, vi 0, vi 0]⟩, ⟨true, [((r4.2.2.2.2 == 3) && (r4.1 == 0), true)], vS (do eqGuard .eql 88 (.tmp 100) (.tmp 101) (.agg #[vi r4.2.1, vi r4.2.2.1, vi r4.2.2.2.1]) (.agg #[vi 0, vi 0, vi 0]); binOp .eql 88 (.agg #[vi r4.2.1, vi r4.2.2.1, vi r4.2.2.2.1]) (.agg #[vi 0, vi 0, vi 0])), .bool (((r4.2.1 == 0) && ((r4.2.2.1 == 0) && (r4.2.2.2.1 == 0))))⟩] [none, none, none, none, none, none, none, some (.agg #[vi r4.2.1, vi r4.2.2.1, vi r4.2.2.2.1]), some (.agg #[vi 0, vi 0, vi 0]), some (.bool (((r4.2.1 == 0) && ((r4.2.2.1 == 0) && (r4.2.2.2.1 == 0))))), none, none] [8] [pl 8 (.bool (((r4.2.2.2.2 == 3) && (r4.1 == 0)) && ((r4.2.1 == 0) && ((r4.2.2.1 == 0) && (r4.2.2.2.1 == 0)))))] hF hS ?_ (fun a w hF hS => ?_)
      ·exact obs_cons (oA (cs := #[vi r4.2.1, vi r4.2.2.1, vi r4.2.2.2.1]) (fun _ _ hS => (hS.at_ 1 rfl).cellsAt 0 (by rfl))) <| obs_cons (oA (cs := #[vi 0, vi 0, vi 0]) (fun _ _ hS => (hS.at_ 2 rfl).cellsAt 0 (by rfl))) <| obs_cons (ob_eql rfl (by kernel_rfl) (fun w => Eql88 w)) <| obs_nil
      refine wpIn_ret ?_
      refine then_r ?_
      have hS := hS.pickN 3 [] (by decide)
      have hm : some (((r4.2.2.2.2 == 3) && (r4.1 == 0)) && ((r4.2.1 == 0) && ((r4.2.2.1 == 0) && (r4.2.2.2.1 == 0)))) = some r := hm
      obtain rfl := Option.some.inj hm
      exact retV (rs := [.tmp 8]) (vs := [.bool (((r4.2.2.2.2 == 3) && (r4.1 == 0)) && ((r4.2.1 == 0) && ((r4.2.2.1 == 0) && (r4.2.2.2.1 == 0))))]) hF rfl rv1 rfl ⟨rfl, hS⟩
     ·replace hm := if_f hm hb
      refine wpIn_skip ?_
      refine then_n ?_
      have hS := hS.pickN 3 [0, 1] (by decide)
      exact ⟨hF.wk [3, 4, 11, 12, 13], hS, hm⟩
   ·refine rg [] [] [1, 2, 3, 4, 9, 10, 11, 12, 13, 14, 15, 69] [pl 1 (vi plies1), pl 2 (vi result1), pl 3 (vi deep1), pl 4 (pa g1 0), pl 9 (vi r2.1), pl 10 (vi r2.2), pl 11 (vi r4.1), pl 12 (pa g2 0), pl 13 (vi r4.2.2.2.2), pl 14 (pa g3 0), pl 15 (vi no1), pl 69 (.bool (no1 != 0))] hF hS obs_nil (fun a w hF hS => ?_)
    refine ce (t := 69) (b := (no1 != 0)) hF (fun hb => ?_) (fun hb => ?_)
    ·replace hm := if_t hm hb
     refine rg [] [] [3, 4, 11, 12, 13, 14, 76] [pl 3 (vi deep1), pl 4 (pa g1 0), pl 11 (vi r4.1), pl 12 (pa g2 0), pl 13 (vi r4.2.2.2.2), pl 14 (pa g3 0), pl 76 (.bool ((r2.2 != no1) || (r2.1 != 0)))] hF hS obs_nil (fun a w hF hS => ?_)
     refine ce (t := 76) (b := (r2.2 != no1) || (r2.1 != 0)) hF (fun hb => ?_) (fun hb => ?_)
     ·replace hm := if_t hm hb
      refine rg [] [] [8] [pl 8 (.bool false)] hF hS obs_nil (fun a w hF hS => ?_)
      refine wpIn_ret ?_
      refine then_r ?_
      have hS := hS.pickN 3 [] (by decide)
      have hm : some false = some r := hm
      obtain rfl := Option.some.inj hm
      exact retV (rs := [.tmp 8]) (vs := [.bool false]) hF rfl rv1 rfl ⟨rfl, hS⟩
     ·replace hm := if_f hm hb
      refine wpIn_skip ?_
      refine then_n ?_
      exact ⟨hF.wk [3, 4, 11, 12, 13, 14], hS, hm⟩
    ·replace hm := if_f hm hb
     obtain ⟨r6, hr6, hm⟩ := call_b hm
     refine rg [⟨false, [((r2.2 != 0), false)], vS (Instr.loadAt 75 (pa g1 0)), .agg (ca A1 p1.length c1 p2 p3 p4 p5 p6)⟩, ⟨false, [((r2.2 != 0), false)], callFunc 69 #[.agg (ca A1 p1.length c1 p2 p3 p4 p5 p6), vi plies1, vi result1], vi r6⟩] [none, none, none, none, some (.agg (ca A1 p1.length c1 p2 p3 p4 p5 p6)), none, none, some (vi r6), none, none] [3, 4, 11, 12, 13, 14, 86] [pl 3 (vi deep1), pl 4 (pa g1 0), pl 11 (vi r4.1), pl 12 (pa g2 0), pl 13 (vi r4.2.2.2.2), pl 14 (pa g3 0), pl 86 (.bool ((r2.2 != 0) || (r2.1 != r6)))] hF hS ?_ (fun a w hF hS => ?_)
     ·exact obs_cons (oA (cs := (ca A1 p1.length c1 p2 p3 p4 p5 p6)) (fun _ _ hS => (hS.at_ 0 rfl).cellsAt 0 (by rfl))) <| obs_cons (ob_call Try.func69 (by kernel_rfl) rfl (fun hy _ hS => rf_RowsOf18_w (ite_some hr6 (by rw [show (r2.2 != 0) = false from hy ((r2.2 != 0), false) (by simp)]; try rfl)) hS (fun _ hS => (hr_p1 _ (hS.dropN 3))) _hc_p1 rfl)) <| obs_nil
     refine ce (t := 86) (b := (r2.2 != 0) || (r2.1 != r6)) hF (fun hb => ?_) (fun hb => ?_)
     ·replace hm := if_t hm hb
      refine rg [] [] [8] [pl 8 (.bool false)] hF hS obs_nil (fun a w hF hS => ?_)
      refine wpIn_ret ?_
      refine then_r ?_
      have hS := hS.pickN 3 [] (by decide)
      have hm : some false = some r := hm
      obtain rfl := Option.some.inj hm
      exact retV (rs := [.tmp 8]) (vs := [.bool false]) hF rfl rv1 rfl ⟨rfl, hS⟩
     ·replace hm := if_f hm hb
      refine wpIn_skip ?_
      refine then_n ?_
      exact ⟨hF.wk [3, 4, 11, 12, 13, 14], hS, hm⟩
  ·refine rg [] [] [1, 2, 3, 4, 9, 10, 11, 12, 13, 14, 15, 61] [pl 1 (vi plies1), pl 2 (vi result1), pl 3 (vi deep1), pl 4 (pa g1 0), pl 9 (vi r2.1), pl 10 (vi r2.2), pl 11 (vi r4.1), pl 12 (pa g2 0), pl 13 (vi r4.2.2.2.2), pl 14 (pa g3 0), pl 15 (vi 0), pl 61 (.bool ((decide (plies1 < 0)) || (decide ((3 : Int) < plies1))))] hF hS obs_nil (fun a w hF hS => ?_)
   refine ce (t := 61) (b := (decide (plies1 < 0)) || (decide ((3 : Int) < plies1))) hF (fun hb => ?_) (fun hb => ?_)
   ·replace hm := if_t hm hb
    refine rg1 [] [] [1, 2, 3, 4, 9, 10, 11, 12, 13, 14, 15] [pl 1 (vi plies1), pl 2 (vi result1), pl 3 (vi deep1), pl 4 (pa g1 0), pl 9 (vi r2.1), pl 10 (vi r2.2), pl 11 (vi r4.1), pl 12 (pa g2 0), pl 13 (vi r4.2.2.2.2), pl 14 (pa g3 0), pl 15 (vi 3)] hF hS obs_nil (fun a w hF hS => ?_)
    refine then_n ?_
    exact ⟨3, hF.wk [1, 2, 3, 4, 9, 10, 11, 12, 13, 14, 15], hS, hm⟩
   ·replace hm := if_f hm hb
    refine rg [] [] [1, 2, 3, 4, 9, 10, 11, 12, 13, 14, 15, 67] [pl 1 (vi plies1), pl 2 (vi result1), pl 3 (vi deep1), pl 4 (pa g1 0), pl 9 (vi r2.1), pl 10 (vi r2.2), pl 11 (vi r4.1), pl 12 (pa g2 0), pl 13 (vi r4.2.2.2.2), pl 14 (pa g3 0), pl 15 (vi 0), pl 67 (.bool ((result1 != 1) && (result1 != 2)))] hF hS obs_nil (fun a w hF hS => ?_)
    refine ce (t := 67) (b := (result1 != 1) && (result1 != 2)) hF (fun hb => ?_) (fun hb => ?_)
    ·replace hm := if_t hm hb
     refine rg1 [] [] [1, 2, 3, 4, 9, 10, 11, 12, 13, 14, 15] [pl 1 (vi plies1), pl 2 (vi result1), pl 3 (vi deep1), pl 4 (pa g1 0), pl 9 (vi r2.1), pl 10 (vi r2.2), pl 11 (vi r4.1), pl 12 (pa g2 0), pl 13 (vi r4.2.2.2.2), pl 14 (pa g3 0), pl 15 (vi 4)] hF hS obs_nil (fun a w hF hS => ?_)
     refine then_n ?_
     exact ⟨4, hF.wk [1, 2, 3, 4, 9, 10, 11, 12, 13, 14, 15], hS, hm⟩
    ·replace hm := if_f hm hb
     refine wpIn_skip ?_
     refine then_n ?_
     exact ⟨0, hF.wk [1, 2, 3, 4, 9, 10, 11, 12, 13, 14, 15], hS, hm⟩
 ·obtain ⟨r5, hr5, hm⟩ := call_b hm
  refine rg [⟨false, [], vS (Instr.loadAt 75 (pa g1 0)), .agg (ca A1 p1.length c1 p2 p3 p4 p5 p6)⟩, ⟨false, [], callFunc 48 #[.agg (ca A1 p1.length c1 p2 p3 p4 p5 p6)], .bool r5⟩] [some (.agg (ca A1 p1.length c1 p2 p3 p4 p5 p6)), some (.bool r5), none] [1, 2, 3, 4, 9, 10, 11, 12, 13, 14, 36] [pl 1 (vi plies1), pl 2 (vi result1), pl 3 (vi deep1), pl 4 (pa g1 0), pl 9 (vi r2.1), pl 10 (vi r2.2), pl 11 (vi r4.1), pl 12 (pa g2 0), pl 13 (vi r4.2.2.2.2), pl 14 (pa g3 0), pl 36 (.bool (!r5))] hF hS ?_ (fun a w hF hS => ?_)
  ·exact obs_cons (oA (cs := (ca A1 p1.length c1 p2 p3 p4 p5 p6)) (fun _ _ hS => (hS.at_ 4 rfl).cellsAt 0 (by rfl))) <| obs_cons (ob_call Try.func48 (by kernel_rfl) rfl (fun _ _ hS => rf_ChessMay_w hr5 hS (fun _ hS => (hr_p1 _ (hS.dropN 5))) _hc_p1 rfl)) <| obs_nil
  refine ce (t := 36) (b := !r5) hF (fun hb => ?_) (fun hb => ?_)
  ·replace hm := if_t hm hb
   refine rg [⟨false, [((((r2.2 == 12) && (r4.2.2.2.2 == 12)) && (r2.1 == 0)) && (r4.1 == 0), true)], vS (Instr.loadAt 88 (pa g2 0)), .agg #[vi r4.2.1, vi r4.2.2.1, vi r4.2.2.2.1]⟩, ⟨false, [((((r2.2 == 12) && (r4.2.2.2.2 == 12)) && (r2.1 == 0)) && (r4.1 == 0), true)], vS (Instr.loadAt 88 (pa g3 0)), .agg #[vi 0, vi 0, vi 0]⟩, ⟨true, [((((r2.2 == 12) && (r4.2.2.2.2 == 12)) && (r2.1 == 0)) && (r4.1 == 0), true)], vS (do eqGuard .eql 88 (.tmp 52) (.tmp 53) (.agg #[vi r4.2.1, vi r4.2.2.1, vi r4.2.2.2.1]) (.agg #[vi 0, vi 0, vi 0]); binOp .eql 88 (.agg #[vi r4.2.1, vi r4.2.2.1, vi r4.2.2.2.1]) (.agg #[vi 0, vi 0, vi 0])), .bool (((r4.2.1 == 0) && ((r4.2.2.1 == 0) && (r4.2.2.2.1 == 0))))⟩] [none, none, none, none, none, none, none, none, none, none, none, none, none, none, none, some (.agg #[vi r4.2.1, vi r4.2.2.1, vi r4.2.2.2.1]), some (.agg #[vi 0, vi 0, vi 0]), some (.bool (((r4.2.1 == 0) && ((r4.2.2.1 == 0) && (r4.2.2.2.1 == 0))))), none, none] [8] [pl 8 (.bool (((((r2.2 == 12) && (r4.2.2.2.2 == 12)) && (r2.1 == 0)) && (r4.1 == 0)) && ((r4.2.1 == 0) && ((r4.2.2.1 == 0) && (r4.2.2.2.1 == 0)))))] hF hS ?_ (fun a w hF hS => ?_)
   ·exact obs_cons (oA (cs := #[vi r4.2.1, vi r4.2.2.1, vi r4.2.2.2.1]) (fun _ _ hS => (hS.at_ 1 rfl).cellsAt 0 (by rfl))) <| obs_cons (oA (cs := #[vi 0, vi 0, vi 0]) (fun _ _ hS => (hS.at_ 0 rfl).cellsAt 0 (by rfl))) <| obs_cons (ob_eql rfl (by kernel_rfl) (fun w => Eql88 w)) <| obs_nil
   refine wpIn_ret ?_
   refine then_r ?_
   have hS := hS.pickN 5 [] (by decide)
   have hm : some (((((r2.2 == 12) && (r4.2.2.2.2 == 12)) && (r2.1 == 0)) && (r4.1 == 0)) && ((r4.2.1 == 0) && ((r4.2.2.1 == 0) && (r4.2.2.2.1 == 0)))) = some r := hm
   obtain rfl := Option.some.inj hm
   exact retV (rs := [.tmp 8]) (vs := [.bool (((((r2.2 == 12) && (r4.2.2.2.2 == 12)) && (r2.1 == 0)) && (r4.1 == 0)) && ((r4.2.1 == 0) && ((r4.2.2.1 == 0) && (r4.2.2.2.1 == 0))))]) hF rfl rv1 rfl ⟨rfl, hS⟩
  ·replace hm := if_f hm hb
   refine wpIn_skip ?_
   refine then_n ?_
   have hS := hS.pickN 5 [4, 1, 0] (by decide)
   exact ⟨hF.wk [1, 2, 3, 4, 9, 10, 11, 12, 13, 14], hS, hm⟩

end Go.Proofs.Ytfmmlmiakkjaiaa
