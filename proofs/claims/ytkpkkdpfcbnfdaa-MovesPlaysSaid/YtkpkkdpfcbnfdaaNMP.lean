import Derived.Test.YtkpkkdpfcbnfdaaVI
import Derived.Test.YtkpkkdpfcbnfdaaFB
import Derived.Test.YtkpkkdpfcbnfdaaLibJ
import Derived.Test.YtkpkkdpfcbnfdaaLibD
import Derived.Test.YtkpkkdpfcbnfdaaLibMV
import Derived.Test.YtkpkkdpfcbnfdaaLibAP
import Derived.Test.YtkpkkdpfcbnfdaaFE
import Derived.Test.YtkpkkdpfcbnfdaaLibPl
import Derived.Test.YtkpkkdpfcbnfdaaLibAR
import Derived.Test.YtkpkkdpfcbnfdaaLibRF
import Derived.Test.YtkpkkdpfcbnfdaaFM
import Derived.Test.YtkpkkdpfcbnfdaaLibG
import Derived.Test.YtkpkkdpfcbnfdaaSF
import Derived.Test.YtkpkkdpfcbnfdaaNMPc
noncomputable section
namespace Go.Proofs.Ytkpkkdpfcbnfdaa
open Go Go.GL Go.RowKit
set_option maxRecDepth 100000
set_option maxHeartbeats 4000000

def rf_MovesAll_m  (p1 : List Int) (p2 p3 : Int) (p4 p5 p6 : Int) : Option (List MvT) :=
 (loop (rf_MovesAll_L1 p1 p2 p3 p4 p5 p6) (([] : List MvT), 0)).bind rf_MovesAll_K1

theorem rf_MovesAll_w  {A1 : Option Addr} {c1 n1 : Nat} {p1 : List Int} {p2 p3 : Int} {p4 p5 p6 : Int} {r : (List MvT)} {w0 w : World} {B : Nat} {fs : List HP} (hm : rf_MovesAll_m p1 p2 p3 p4 p5 p6 = some r) (hS : Sep w0 B w (fs)) (hr_p1 : RdF w0 B fs A1 (vI p1)) (_hc_p1 : p1.length ≤ c1) (_hn_p1 : n1 = p1.length) :
  Calls Try.prog 84 #[.agg (ca A1 n1 c1 p2 p3 p4 p5 p6)] w fun e w' => ∃ v, e = .returned v ∧ ∃ (A13 : Option Addr) (c13 : Nat), v = .slice A13 r.length c13 ∧ Sep w0 B w' (ownK 126 3 A13 r.length c13 (List.flatMap enc126 r) :: fs) := by
 obtain ⟨i3, hi3, hz3, hs3, hb3⟩ := info_parts Info3
 obtain ⟨i126, hi126, hz126, hs126, hb126⟩ := info_parts Info126
 obtain rfl := _hn_p1
 unfold rf_MovesAll_m at hm
 replace hm := start_b hm
 refine enter (l := [.agg (ca A1 p1.length c1 p2 p3 p4 p5 p6)]) (n := 97) Try.func84 rfl rfl (by simp) (fun a hF => ?_)
 refine seqR ?_
 refine at_do (d := 1) (s := vS (Instr.box 65 (.agg (ca A1 p1.length c1 p2 p3 p4 p5 p6)))) (v := pa w.heap.size 0) (w' := w.alloc (.cells (ca A1 p1.length c1 p2 p3 p4 p5 p6) 65)) hF (by kernel_rfl) (by kernel_rfl) (by kernel_rfl) (fun a hF => ?_)
 have hS : Sep w0 B (w.alloc (.cells (ca A1 p1.length c1 p2 p3 p4 p5 p6) 65)) (blk w.heap.size 65 (ca A1 p1.length c1 p2 p3 p4 p5 p6) :: (fs)) := hS.box 65 (ca A1 p1.length c1 p2 p3 p4 p5 p6)
 generalize w.heap.size = g1 at hF hS
 generalize w.alloc (.cells (ca A1 p1.length c1 p2 p3 p4 p5 p6) 65) = w at hS ⊢
 refine ar 1 [] [] [1] [pl 1 (pa g1 0)] hF hS obs_nil (fun a w hF hS => ?_)
 refine ae [1] [pl 1 (pa g1 0)] hF rfl (fun hF => ?_)
 refine then_n ?_
 refine rg [] [] [1, 3] [pl 1 (pa g1 0), pl 3 (.slice none 0 0)] hF hS obs_nil (fun a w hF hS => ?_)
 refine seq_cut (fun a w => ∃ (l2 : List MvT) (A3 : Option Addr) (c3 : Nat), Fr 97 [pl 3 (.slice A3 l2.length c3)] a ∧ Sep w0 B w (ownK 126 3 A3 l2.length c3 (List.flatMap enc126 l2) :: fs) ∧ (rf_MovesAll_J1 l2).bind some = some r) ?_ ?_
 ·rintro a w ⟨l2, A3, c3, hF, hS, hm⟩
  unfold rf_MovesAll_J1 at hm
  refine rg [] [] [2] [pl 2 (.slice A3 l2.length c3)] hF hS obs_nil (fun a w hF hS => ?_)
  refine wpIn_ret ?_
  have hm : some l2 = some r := hm
  obtain rfl := Option.some.inj hm
  exact retV (rs := [.tmp 2]) (vs := [.slice A3 l2.length c3]) hF rfl rv1 rfl ⟨_, rfl, A3, c3, rfl, hS⟩
 ·refine rg [] [] [1, 3, 4] [pl 1 (pa g1 0), pl 3 (.slice none 0 0), pl 4 (vi 0)] hF hS obs_nil (fun a w hF hS => ?_)
  refine wpIn_block ?_
  have hS : Sep w0 B w (ownK 126 3 none 0 0 (List.flatMap enc126 ([] : List MvT)) :: blk g1 65 (ca A1 p1.length c1 p2 p3 p4 p5 p6) :: fs) := hS.nilK 126 3 enc126
  have hl1 := (hS.at_ 0 rfl).lenK encK126
  have hS := (hS.at_ 0 rfl).reNK hl1
  have hS : Sep w0 B w (ownK 126 3 none (([] : List MvT).length) 0 (List.flatMap enc126 ([] : List MvT)) :: blk g1 65 (ca A1 p1.length c1 p2 p3 p4 p5 p6) :: fs) := hS
  have hF := hF.cast (t := 3) (v := .slice none 0 0) (v' := .slice none (([] : List MvT).length) 0) rfl rfl (congrArg (fun k => Value.slice none k 0) hl1)
  have hS := hS.pickN 2 [1, 0] (by decide)
  refine wp_loop_model (S := (List MvT × Int)) (R := (List MvT)) (rf_MovesAll_L1 p1 p2 p3 p4 p5 p6) (fun x => (rf_MovesAll_K1 x).bind some) r (fun (x : (List MvT × Int)) a w => ∃ (A2 : Option Addr) (c2 : Nat), Fr 97 [pl 1 (pa g1 0), pl 3 (.slice A2 x.1.length c2), pl 4 (vi x.2)] a ∧ Sep w0 B w (blk g1 65 (ca A1 p1.length c1 p2 p3 p4 p5 p6) :: ownK 126 3 A2 x.1.length c2 (List.flatMap enc126 x.1) :: fs)) (assoc_b hm) ⟨none, 0, hF.wk [1, 3, 4], hS⟩ ?_
  clear hF hS hm
  rintro nn1 ⟨l1, from1⟩ a w ⟨A2, c2, hF, hS⟩ hm
  generalize hφ1 : stK (rf_MovesAll_L1 p1 p2 p3 p4 p5 p6) nn1 (fun x => (rf_MovesAll_K1 x).bind some) = φ1 at hm
  unfold rf_MovesAll_L1 at hm
  dsimp only at hF hS hm
  refine seq_cut (fun a w => Fr 97 [pl 1 (pa g1 0), pl 3 (.slice A2 l1.length c2), pl 4 (vi from1)] a ∧ Sep w0 B w (blk g1 65 (ca A1 p1.length c1 p2 p3 p4 p5 p6) :: ownK 126 3 A2 l1.length c2 (List.flatMap enc126 l1) :: fs) ∧ ((rf_MovesAll_J2 p1 p2 p3 p4 p5 p6 l1 from1)).bind φ1 = some r) ?_ ?_
  ·rintro a w ⟨hF, hS, hm⟩
   unfold rf_MovesAll_J2 at hm
   refine seq_cut (fun a w => ∃ (l3 : List MvT) (A4 : Option Addr) (c4 : Nat), Fr 97 [pl 1 (pa g1 0), pl 3 (.slice A4 l3.length c4), pl 4 (vi from1)] a ∧ Sep w0 B w (blk g1 65 (ca A1 p1.length c1 p2 p3 p4 p5 p6) :: ownK 126 3 A4 l3.length c4 (List.flatMap enc126 l3) :: fs) ∧ ((rf_MovesAll_J3 from1) l3).bind φ1 = some r) ?_ ?_
   ·rintro a w ⟨l3, A4, c4, hF, hS, hm⟩
    unfold rf_MovesAll_J3 at hm
    refine rg1 [] [] [1, 3, 4] [pl 1 (pa g1 0), pl 3 (.slice A4 l3.length c4), pl 4 (vi (w64 (from1 + 1)))] hF hS obs_nil (fun a w hF hS => ?_)
    refine then_n ?_
    rw [← hφ1] at hm
    exact ⟨(l3, (w64 (from1 + 1))), ⟨A4, c4, hF.wk [1, 3, 4], hS⟩, hm⟩
   ·refine wpIn_block ?_
    refine seq_cut (fun a w => Fr 97 [pl 1 (pa g1 0), pl 3 (.slice A2 l1.length c2), pl 4 (vi from1)] a ∧ Sep w0 B w (blk g1 65 (ca A1 p1.length c1 p2 p3 p4 p5 p6) :: ownK 126 3 A2 l1.length c2 (List.flatMap enc126 l1) :: fs) ∧ ((rf_MovesAll_J4 p1 p2 p3 p4 p5 p6 l1 from1)).bind φ1 = some r) ?_ ?_
    ·rintro a w ⟨hF, hS, hm⟩
     unfold rf_MovesAll_J4 at hm
     refine rg [] [] [1, 3, 4, 5] [pl 1 (pa g1 0), pl 3 (.slice A2 l1.length c2), pl 4 (vi from1), pl 5 (vi 0)] hF hS obs_nil (fun a w hF hS => ?_)
     refine wpIn_block ?_
     refine wp_loop_model (S := (List MvT × Int)) (R := (List MvT)) (rf_MovesAll_L2 p1 p2 p3 p4 p5 p6 from1) (fun x => ((rf_MovesAll_K2 from1) x).bind φ1) r (fun (x : (List MvT × Int)) a w => ∃ (A5 : Option Addr) (c5 : Nat), Fr 97 [pl 1 (pa g1 0), pl 3 (.slice A5 x.1.length c5), pl 4 (vi from1), pl 5 (vi x.2)] a ∧ Sep w0 B w (blk g1 65 (ca A1 p1.length c1 p2 p3 p4 p5 p6) :: ownK 126 3 A5 x.1.length c5 (List.flatMap enc126 x.1) :: fs)) (assoc_b hm) ⟨A2, c2, hF.wk [1, 3, 4, 5], hS⟩ ?_
     clear hF hS hm
     rintro nn2 ⟨l4, to1⟩ a w ⟨A5, c5, hF, hS⟩ hm
     generalize hφ2 : stK (rf_MovesAll_L2 p1 p2 p3 p4 p5 p6 from1) nn2 (fun x => ((rf_MovesAll_K2 from1) x).bind φ1) = φ2 at hm
     unfold rf_MovesAll_L2 at hm
     dsimp only at hF hS hm
     refine seq_cut (fun a w => Fr 97 [pl 1 (pa g1 0), pl 3 (.slice A5 l4.length c5), pl 4 (vi from1), pl 5 (vi to1)] a ∧ Sep w0 B w (blk g1 65 (ca A1 p1.length c1 p2 p3 p4 p5 p6) :: ownK 126 3 A5 l4.length c5 (List.flatMap enc126 l4) :: fs) ∧ ((rf_MovesAll_J5 p1 p2 p3 p4 p5 p6 from1 l4 to1)).bind φ2 = some r) ?_ ?_
     ·rintro a w ⟨hF, hS, hm⟩
      unfold rf_MovesAll_J5 at hm
      refine seq_cut (fun a w => ∃ (l5 : List MvT) (A8 : Option Addr) (c8 : Nat), Fr 97 [pl 1 (pa g1 0), pl 3 (.slice A8 l5.length c8), pl 4 (vi from1), pl 5 (vi to1)] a ∧ Sep w0 B w (blk g1 65 (ca A1 p1.length c1 p2 p3 p4 p5 p6) :: ownK 126 3 A8 l5.length c8 (List.flatMap enc126 l5) :: fs) ∧ ((rf_MovesAll_J6 to1) l5).bind φ2 = some r) ?_ ?_
      ·rintro a w ⟨l5, A8, c8, hF, hS, hm⟩
       unfold rf_MovesAll_J6 at hm
       refine rg1 [] [] [1, 3, 4, 5] [pl 1 (pa g1 0), pl 3 (.slice A8 l5.length c8), pl 4 (vi from1), pl 5 (vi (w64 (to1 + 1)))] hF hS obs_nil (fun a w hF hS => ?_)
       refine then_n ?_
       rw [← hφ2] at hm
       exact ⟨(l5, (w64 (to1 + 1))), ⟨A8, c8, hF.wk [1, 3, 4, 5], hS⟩, hm⟩
      ·refine wpIn_block ?_
       obtain ⟨r2, hr2, hm⟩ := call_b hm
       refine rg [⟨false, [], vS (Instr.loadAt 65 (pa g1 0)), .agg (ca A1 p1.length c1 p2 p3 p4 p5 p6)⟩, ⟨false, [], callFunc 118 #[.agg (ca A1 p1.length c1 p2 p3 p4 p5 p6), vi from1, vi to1], .bool r2⟩] [some (.agg (ca A1 p1.length c1 p2 p3 p4 p5 p6)), none, none, some (.bool r2), none] [1, 3, 4, 5, 6] [pl 1 (pa g1 0), pl 3 (.slice A5 l4.length c5), pl 4 (vi from1), pl 5 (vi to1), pl 6 (.bool r2)] hF hS ?_ (fun a w hF hS => ?_)
       ·exact obs_cons (oA (cs := (ca A1 p1.length c1 p2 p3 p4 p5 p6)) (fun _ _ hS => (hS.at_ 0 rfl).cellsAt 0 (by rfl))) <| obs_cons (ob_call Try.func118 (by kernel_rfl) rfl (fun _ _ hS => rf_mayGo_w hr2 hS (fun _ hS => (hr_p1 _ (hS.dropN 2))) _hc_p1 rfl)) <| obs_nil
       refine seq_cut (fun a w => ∃ (ok2 : Bool), Fr 97 [pl 1 (pa g1 0), pl 3 (.slice A5 l4.length c5), pl 4 (vi from1), pl 5 (vi to1), pl 6 (.bool ok2)] a ∧ Sep w0 B w (blk g1 65 (ca A1 p1.length c1 p2 p3 p4 p5 p6) :: ownK 126 3 A5 l4.length c5 (List.flatMap enc126 l4) :: fs) ∧ ((rf_MovesAll_J7 p1 p2 p3 p4 p5 p6 from1 l4 to1) ok2).bind φ2 = some r) ?_ ?_
       ·rintro a w ⟨ok2, hF, hS, hm⟩
        unfold rf_MovesAll_J7 at hm
        refine seq_cut (fun a w => Fr 97 [pl 1 (pa g1 0), pl 3 (.slice A5 l4.length c5), pl 4 (vi from1), pl 5 (vi to1)] a ∧ Sep w0 B w (blk g1 65 (ca A1 p1.length c1 p2 p3 p4 p5 p6) :: ownK 126 3 A5 l4.length c5 (List.flatMap enc126 l4) :: fs) ∧ ((rf_MovesAll_J10 p1 from1 l4 to1)).bind φ2 = some r) ?_ ?_
        ·rintro a w ⟨hF, hS, hm⟩
         unfold rf_MovesAll_J10 at hm
         obtain ⟨hp3, hm⟩ := asrt_b hm
         obtain ⟨r7, hr7, hm⟩ := call_b hm
         refine rg [⟨false, [], vS (Instr.loadAt 22 (pa g1 0)), .slice A1 p1.length c1⟩, ⟨true, [], vS (Instr.indexAt 22 (.slice A1 p1.length c1) (vi from1)), .pointer (some (sAddr A1 from1))⟩, ⟨false, [], vS (Instr.loadAt 3 (.pointer (some (sAddr A1 from1)))), vi (geti p1 from1)⟩, ⟨false, [], callFunc 81 #[vi (geti p1 from1)], vi r7⟩] [none, some (.slice A1 p1.length c1), none, some (.pointer (some (sAddr A1 from1))), some (vi (geti p1 from1)), some (vi r7), none, none, none, none, none, none, none, none, none] [1, 3, 4, 5, 78] [pl 1 (pa g1 0), pl 3 (.slice A5 l4.length c5), pl 4 (vi from1), pl 5 (vi to1), pl 78 (.bool ((r7 == 1) && ((decide (to1 < 8)) || (decide ((55 : Int) < to1)))))] hF hS ?_ (fun a w hF hS => ?_)
         ·exact obs_cons (ob_load Agg22 (fun _ _ hS => (hS.at_ 0 rfl).cell rfl)) <| obs_cons (ob_ix1 (f := (Value.int .i64)) (m := p1) Und22 hi3 hs3 (hr_p1 _ (hS.dropN 2)) rfl (fun _ => hp3)) <| obs_cons (ob_get1 (n := p1.length) (m := p1) (Value.int .i64) (0 : Int) Agg3 (fun _ hS => ⟨_, (hr_p1 _ (hS.dropN 2))⟩) (fun _ hS => rfl) (fun _ => hp3)) <| obs_cons (ob_call Try.func81 (by kernel_rfl) rfl (fun _ _ hS => rf_size_w hr7 hS )) <| obs_nil
         refine ce (t := 78) (b := (r7 == 1) && ((decide (to1 < 8)) || (decide ((55 : Int) < to1)))) hF (fun hb => ?_) (fun hb => ?_)
         ·replace hm := if_t hm hb
          refine rg [] [] [1, 3, 4, 5, 8] [pl 1 (pa g1 0), pl 3 (.slice A5 l4.length c5), pl 4 (vi from1), pl 5 (vi to1), pl 8 (vi 2)] hF hS obs_nil (fun a w hF hS => ?_)
          refine wpIn_block ?_
          refine wp_loop_model (S := (List MvT × Int)) (R := (List MvT)) (rf_MovesAll_L4 from1 to1) (fun x => ((rf_MovesAll_K4 to1) x).bind φ2) r (fun (x : (List MvT × Int)) a w => ∃ (A9 : Option Addr) (c9 : Nat), Fr 97 [pl 1 (pa g1 0), pl 3 (.slice A9 x.1.length c9), pl 4 (vi from1), pl 5 (vi to1), pl 8 (vi x.2)] a ∧ Sep w0 B w (blk g1 65 (ca A1 p1.length c1 p2 p3 p4 p5 p6) :: ownK 126 3 A9 x.1.length c9 (List.flatMap enc126 x.1) :: fs)) (assoc_b hm) ⟨A5, c5, hF.wk [1, 3, 4, 5, 8], hS⟩ ?_
          clear hF hS hm
          rintro nn4 ⟨l6, into1⟩ a w ⟨A9, c9, hF, hS⟩ hm
          generalize hφ4 : stK (rf_MovesAll_L4 from1 to1) nn4 (fun x => ((rf_MovesAll_K4 to1) x).bind φ2) = φ4 at hm
          unfold rf_MovesAll_L4 at hm
          dsimp only at hF hS hm
          refine seq_cut (fun a w => Fr 97 [pl 1 (pa g1 0), pl 3 (.slice A9 l6.length c9), pl 4 (vi from1), pl 5 (vi to1), pl 8 (vi into1)] a ∧ Sep w0 B w (blk g1 65 (ca A1 p1.length c1 p2 p3 p4 p5 p6) :: ownK 126 3 A9 l6.length c9 (List.flatMap enc126 l6) :: fs) ∧ ((rf_MovesAll_J12 from1 to1 l6 into1)).bind φ4 = some r) ?_ ?_
          ·rintro a w ⟨hF, hS, hm⟩
           unfold rf_MovesAll_J12 at hm
           refine seq_cut (fun a w => ∃ (l7 : List MvT) (A11 : Option Addr) (c11 : Nat), Fr 97 [pl 1 (pa g1 0), pl 3 (.slice A11 l7.length c11), pl 4 (vi from1), pl 5 (vi to1), pl 8 (vi into1)] a ∧ Sep w0 B w (blk g1 65 (ca A1 p1.length c1 p2 p3 p4 p5 p6) :: ownK 126 3 A11 l7.length c11 (List.flatMap enc126 l7) :: fs) ∧ ((rf_MovesAll_J13 into1) l7).bind φ4 = some r) ?_ ?_
           ·rintro a w ⟨l7, A11, c11, hF, hS, hm⟩
            unfold rf_MovesAll_J13 at hm
            refine rg1 [] [] [1, 3, 4, 5, 8] [pl 1 (pa g1 0), pl 3 (.slice A11 l7.length c11), pl 4 (vi from1), pl 5 (vi to1), pl 8 (vi (w64 (into1 + 1)))] hF hS obs_nil (fun a w hF hS => ?_)
            refine then_n ?_
            rw [← hφ4] at hm
            exact ⟨(l7, (w64 (into1 + 1))), ⟨A11, c11, hF.wk [1, 3, 4, 5, 8], hS⟩, hm⟩
           ·refine wpIn_block ?_
            refine oneR ?_
            obtain ⟨hp4, hm⟩ := asrt_b hm
            refine ar 5 [] [] [1, 4, 5, 8, 83, 87] [pl 1 (pa g1 0), pl 4 (vi from1), pl 5 (vi to1), pl 8 (vi into1), pl 83 (.slice A9 l6.length c9), pl 87 (.agg #[vi from1, vi to1, vi into1])] hF hS obs_nil (fun a w hF hS => ?_)
            refine at_do (d := 88) (s := vS (Instr.buildSlice 66 1 #[(0, .agg #[vi from1, vi to1, vi into1])])) (v := .slice (some ⟨w.heap.size, 0, none⟩) 1 1) (w' := w.alloc (.cells #[vi from1, vi to1, vi into1] 126)) hF (by kernel_rfl) (by kernel_rfl) (by kernel_rfl) (fun a hF => ?_)
            have hS : Sep w0 B (w.alloc (.cells #[vi from1, vi to1, vi into1] 126)) (ownK 126 3 (some (⟨w.heap.size, 0, none⟩ : Addr)) 1 1 (List.flatMap enc126 ([(from1, to1, into1)] : List MvT)) :: (blk g1 65 (ca A1 p1.length c1 p2 p3 p4 p5 p6) :: ownK 126 3 A9 l6.length c9 (List.flatMap enc126 l6) :: fs)) := hS.litK 126 3 #[vi from1, vi to1, vi into1] 1 rfl (by omega)
            generalize (some (⟨w.heap.size, 0, none⟩ : Addr)) = g2 at hF hS
            generalize w.alloc (.cells #[vi from1, vi to1, vi into1] 126) = w at hS ⊢
            obtain ⟨A10, c10, w, hrun, hS⟩ := run_appK3 (P := Try.prog) (t := 66) (m := l6) (ys := ([(from1, to1, into1)] : List MvT)) (A2 := g2) (m2 := 1) (c2 := 1) encK126 (hS.at_ 2 rfl) (hS.at_ 0 rfl).rdK ((hS.at_ 0 rfl).lenK encK126) 66 Und66 hi126 hz126 hs126 rfl (by omega) hp4
            have hS : Sep w0 B w (ownK 126 3 g2 1 1 (List.flatMap enc126 ([(from1, to1, into1)] : List MvT)) :: blk g1 65 (ca A1 p1.length c1 p2 p3 p4 p5 p6) :: ownK 126 3 A10 ((l6 ++ ([(from1, to1, into1)] : List MvT)).length) c10 (List.flatMap enc126 (l6 ++ ([(from1, to1, into1)] : List MvT))) :: fs) := hS
            refine ad (d := 89) hF hrun (fun a hF => ?_)
            refine ar 1 [] [] [1, 3, 4, 5, 8] [pl 1 (pa g1 0), pl 3 (.slice A10 ((l6 ++ ([(from1, to1, into1)] : List MvT)).length) c10), pl 4 (vi from1), pl 5 (vi to1), pl 8 (vi into1)] hF hS obs_nil (fun a w hF hS => ?_)
            refine ae [1, 3, 4, 5, 8] [pl 1 (pa g1 0), pl 3 (.slice A10 ((l6 ++ ([(from1, to1, into1)] : List MvT)).length) c10), pl 4 (vi from1), pl 5 (vi to1), pl 8 (vi into1)] hF rfl (fun hF => ?_)
            refine block_n ?_
            refine then_n ?_
            have hS := hS.pickN 3 [1, 2] (by decide)
            exact ⟨(l6 ++ ([(from1, to1, into1)] : List MvT)), A10, c10, hF.wk [1, 3, 4, 5, 8], hS, hm⟩
          ·refine rg [] [] [1, 3, 4, 5, 8, 80] [pl 1 (pa g1 0), pl 3 (.slice A9 l6.length c9), pl 4 (vi from1), pl 5 (vi to1), pl 8 (vi into1), pl 80 (.bool (decide (into1 ≤ 5)))] hF hS obs_nil (fun a w hF hS => ?_)
           refine ce (t := 80) (b := decide (into1 ≤ 5)) hF (fun hb => ?_) (fun hb => ?_)
           ·replace hm := if_t hm hb
            refine wpIn_skip ?_
            refine then_n ?_
            exact ⟨hF.wk [1, 3, 4, 5, 8], hS, hm⟩
           ·replace hm := if_f hm hb
            refine wpIn_exit ?_
            refine then_e (then_e (block_e (block_n (then_n ?_))))
            rw [← hφ4] at hm
            replace hm := done_b hm
            unfold rf_MovesAll_K4 at hm
            try dsimp only at hm
            have hm : ((rf_MovesAll_J6 to1) l6).bind φ2 = some r := hm
            exact ⟨l6, A9, c9, hF.wk [1, 3, 4, 5], hS, hm⟩
         ·replace hm := if_f hm hb
          refine oneR ?_
          obtain ⟨hp5, hm⟩ := asrt_b hm
          refine ar 4 [] [] [1, 4, 5, 90, 93] [pl 1 (pa g1 0), pl 4 (vi from1), pl 5 (vi to1), pl 90 (.slice A5 l4.length c5), pl 93 (.agg #[vi from1, vi to1, vi 0])] hF hS obs_nil (fun a w hF hS => ?_)
          refine at_do (d := 94) (s := vS (Instr.buildSlice 66 1 #[(0, .agg #[vi from1, vi to1, vi 0])])) (v := .slice (some ⟨w.heap.size, 0, none⟩) 1 1) (w' := w.alloc (.cells #[vi from1, vi to1, vi 0] 126)) hF (by kernel_rfl) (by kernel_rfl) (by kernel_rfl) (fun a hF => ?_)
          have hS : Sep w0 B (w.alloc (.cells #[vi from1, vi to1, vi 0] 126)) (ownK 126 3 (some (⟨w.heap.size, 0, none⟩ : Addr)) 1 1 (List.flatMap enc126 ([(from1, to1, 0)] : List MvT)) :: (blk g1 65 (ca A1 p1.length c1 p2 p3 p4 p5 p6) :: ownK 126 3 A5 l4.length c5 (List.flatMap enc126 l4) :: fs)) := hS.litK 126 3 #[vi from1, vi to1, vi 0] 1 rfl (by omega)
          generalize (some (⟨w.heap.size, 0, none⟩ : Addr)) = g3 at hF hS
          generalize w.alloc (.cells #[vi from1, vi to1, vi 0] 126) = w at hS ⊢
          obtain ⟨A12, c12, w, hrun, hS⟩ := run_appK3 (P := Try.prog) (t := 66) (m := l4) (ys := ([(from1, to1, 0)] : List MvT)) (A2 := g3) (m2 := 1) (c2 := 1) encK126 (hS.at_ 2 rfl) (hS.at_ 0 rfl).rdK ((hS.at_ 0 rfl).lenK encK126) 66 Und66 hi126 hz126 hs126 rfl (by omega) hp5
          have hS : Sep w0 B w (ownK 126 3 g3 1 1 (List.flatMap enc126 ([(from1, to1, 0)] : List MvT)) :: blk g1 65 (ca A1 p1.length c1 p2 p3 p4 p5 p6) :: ownK 126 3 A12 ((l4 ++ ([(from1, to1, 0)] : List MvT)).length) c12 (List.flatMap enc126 (l4 ++ ([(from1, to1, 0)] : List MvT))) :: fs) := hS
          refine ad (d := 95) hF hrun (fun a hF => ?_)
          refine ar 1 [] [] [1, 3, 4, 5] [pl 1 (pa g1 0), pl 3 (.slice A12 ((l4 ++ ([(from1, to1, 0)] : List MvT)).length) c12), pl 4 (vi from1), pl 5 (vi to1)] hF hS obs_nil (fun a w hF hS => ?_)
          refine ae [1, 3, 4, 5] [pl 1 (pa g1 0), pl 3 (.slice A12 ((l4 ++ ([(from1, to1, 0)] : List MvT)).length) c12), pl 4 (vi from1), pl 5 (vi to1)] hF rfl (fun hF => ?_)
          refine block_n ?_
          refine then_n ?_
          have hS := hS.pickN 3 [1, 2] (by decide)
          exact ⟨(l4 ++ ([(from1, to1, 0)] : List MvT)), A12, c12, hF.wk [1, 3, 4, 5], hS, hm⟩
        ·refine seq_cut (fun a w => ∃ (z1 : Bool), Fr 97 [pl 1 (pa g1 0), pl 3 (.slice A5 l4.length c5), pl 4 (vi from1), pl 5 (vi to1), pl 63 (.bool z1)] a ∧ Sep w0 B w (blk g1 65 (ca A1 p1.length c1 p2 p3 p4 p5 p6) :: ownK 126 3 A5 l4.length c5 (List.flatMap enc126 l4) :: fs) ∧ ((rf_MovesAll_J11 p1 from1 l4 to1) z1).bind φ2 = some r) ?_ ?_
         ·rintro a w ⟨z1, hF, hS, hm⟩
          unfold rf_MovesAll_J11 at hm
          refine ce (t := 63) (b := z1) hF (fun hb => ?_) (fun hb => ?_)
          ·replace hm := if_t hm hb
           refine wpIn_exit ?_
           refine then_e (block_e (then_n ?_))
           exact ⟨l4, A5, c5, hF.wk [1, 3, 4, 5], hS, hm⟩
          ·replace hm := if_f hm hb
           refine wpIn_skip ?_
           refine then_n ?_
           exact ⟨hF.wk [1, 3, 4, 5], hS, hm⟩
         ·refine regMix5 [0, 1, 2, 3, 4, 5, 6, 9, 10] [] 4 #[true, true, true, true, true, true, true, false, false, true, true, false, false] [⟨false, [(!ok2, false)], vS (Instr.loadAt 65 (pa g1 0)), .agg (ca A1 p1.length c1 p2 p3 p4 p5 p6)⟩, ⟨false, [(!ok2, false)], vS (Instr.loadAt 3 (pa g1 1)), vi p2⟩] [none, none, none, some (.agg (ca A1 p1.length c1 p2 p3 p4 p5 p6)), none, none, none, none, some (vi p2)] [1, 3, 4, 5, 53, 54, 57, 61] [pl 1 (pa g1 0), pl 3 (.slice A5 l4.length c5), pl 4 (vi from1), pl 5 (vi to1), pl 53 (.bool (!ok2)), ⟨54, [(53, false)], .agg (ca A1 p1.length c1 p2 p3 p4 p5 p6)⟩, ⟨57, [(53, false)], .agg #[vi from1, vi to1, vi 0]⟩, ⟨61, [(53, false)], vi p2⟩] hF hS Fol (by kernel_rfl) (by kernel_rfl) (by kernel_rfl) (by kernel_rfl) ?_ (fun a w hF hS => ?_)
          ·exact obs_cons (oA (cs := (ca A1 p1.length c1 p2 p3 p4 p5 p6)) (fun _ _ hS => (hS.at_ 0 rfl).cellsAt 0 (by rfl))) <| obs_cons (ob_load Agg3 (fun _ _ hS => (hS.at_ 0 rfl).cell rfl)) <| obs_nil
          rcases Bool.eq_false_or_eq_true (!ok2) with hg1 | hg1
          ·replace hm := if_t hm hg1
           refine any_rest [7, 8, 11, 12] [⟨false, [(!ok2, false)], callFunc 85 #[.agg (ca A1 p1.length c1 p2 p3 p4 p5 p6), .agg #[vi from1, vi to1, vi 0]], .agg (ca none 0 0 0 0 0 0 0)⟩, ⟨false, [(!ok2, false)], callFunc 82 #[.slice none 0 0, vi p2], .bool false⟩] [some (.agg (ca none 0 0 0 0 0 0 0)), none, some (.bool false), none] [1, 3, 4, 5, 63] [pl 1 (pa g1 0), pl 3 (.slice A5 l4.length c5), pl 4 (vi from1), pl 5 (vi to1), pl 63 (.bool ((!ok2) || false))] hF hS (by kernel_rfl) (by kernel_rfl) (by kernel_rfl) (by kernel_rfl) ?_ (fun a hF => ?_)
           ·exact obs_cons (Ob.vac (fun h => absurd (h (!ok2, false) (by simp)) (by simp [hg1]))) <| obs_cons (Ob.vac (fun h => absurd (h (!ok2, false) (by simp)) (by simp [hg1]))) <| obs_nil
           refine np_n ?_
           refine then_n ?_
           exact ⟨((!ok2) || false), hF.wk [1, 3, 4, 5, 63], hS, hm⟩
          ·replace hm := if_f hm hg1
           obtain ⟨r5, hr5, hm⟩ := call_b hm
           obtain ⟨r6, hr6, hm⟩ := call_b hm
           refine aq [7] (all_cons ?_ all_nil)
           refine ao (listed' := #[true, true, true, true, true, true, true, true, false, true, true, false, false]) ?_
           refine at_gcall (hs := [(!ok2, false)]) (fun y hy => by simp only [List.mem_cons, List.not_mem_nil, or_false] at hy; subst hy; first | exact hg1) (f := 85) (args := #[.agg (ca A1 p1.length c1 p2 p3 p4 p5 p6), .agg #[vi from1, vi to1, vi 0]]) (d := 58) hF (by kernel_rfl) (by kernel_rfl) Try.func85 (by kernel_rfl) rfl (rf_MoveDone_w hr5 hS (fun _ hS => (hr_p1 _ (hS.dropN 2))) _hc_p1 rfl) (fun v a w hR hF => ?_)
           clear hS
           obtain ⟨A7, c7, rfl, hS⟩ := hR
           have hS : Sep w0 B w (own 3 (.slice A7 r5.1.length c7) (vI r5.1) :: blk g1 65 (ca A1 p1.length c1 p2 p3 p4 p5 p6) :: ownK 126 3 A5 l4.length c5 (List.flatMap enc126 l4) :: fs) := hS
           refine any_fin rfl (hS.pickN 3 [1, 2] (by decide)) ?_
           refine aq [8] (all_cons ?_ all_nil)
           refine ao (listed' := #[true, true, true, true, true, true, true, true, true, true, true, false, false]) ?_
           refine aw 1 [] [] [1, 3, 4, 5, 53, 59, 61] [pl 1 (pa g1 0), pl 3 (.slice A5 l4.length c5), pl 4 (vi from1), pl 5 (vi to1), pl 53 (.bool (!ok2)), ⟨59, [(53, false)], .slice A7 r5.1.length c7⟩, ⟨61, [(53, false)], vi p2⟩] hF hS obs_nil (fun a hF => ?_)
           refine any_finI rfl (fun h => h) ?_
           refine aq [11] (all_cons ?_ all_nil)
           refine ao (listed' := #[true, true, true, true, true, true, true, true, true, true, true, true, false]) ?_
           refine ar 1 [⟨false, [(!ok2, false)], callFunc 82 #[.slice A7 r5.1.length c7, vi p2], .bool r6⟩] [some (.bool r6)] [1, 3, 4, 5, 53, 62] [pl 1 (pa g1 0), pl 3 (.slice A5 l4.length c5), pl 4 (vi from1), pl 5 (vi to1), pl 53 (.bool (!ok2)), ⟨62, [(53, false)], .bool r6⟩] hF hS ?_ (fun a w hF hS => ?_)
           ·exact obs_cons (ob_call Try.func82 (by kernel_rfl) rfl (fun hy _ hS => rf_InCheck_w (ite_some hr6 (by rw [show (!ok2) = false from hy (!ok2, false) (by simp)]; try rfl)) hS (fun _ hS => (hS.at_ 0 rfl).rd) ((hS.at_ 0 rfl).cap1) rfl)) <| obs_nil
           refine any_fin rfl (hS.pickN 3 [1, 2] (by decide)) ?_
           refine aq [12] (all_cons ?_ all_nil)
           refine ao (listed' := #[true, true, true, true, true, true, true, true, true, true, true, true, true]) ?_
           refine aw 1 [] [] [1, 3, 4, 5, 63] [pl 1 (pa g1 0), pl 3 (.slice A5 l4.length c5), pl 4 (vi from1), pl 5 (vi to1), pl 63 (.bool ((!ok2) || r6))] hF hS obs_nil (fun a hF => ?_)
           refine any_finI rfl (fun h => h) ?_
           refine any_end (by kernel_rfl) (np_n (then_n ?_))
           have hS := hS.pickN 3 [1, 2] (by decide)
           exact ⟨((!ok2) || r6), hF.wk [1, 3, 4, 5, 63], hS, hm⟩
       ·refine rg [] [] [1, 3, 4, 5, 6, 7] [pl 1 (pa g1 0), pl 3 (.slice A5 l4.length c5), pl 4 (vi from1), pl 5 (vi to1), pl 6 (.bool r2), pl 7 (vi 0)] hF hS obs_nil (fun a w hF hS => ?_)
        refine wpIn_block ?_
        refine wp_loop_model (S := (Bool × Int)) (R := Bool) (rf_MovesAll_L3 p1 p2 p3 p4 p5 p6 from1 to1) (fun x => ((rf_MovesAll_K3 p1 p2 p3 p4 p5 p6 from1 l4 to1) x).bind φ2) r (fun (x : (Bool × Int)) a w => Fr 97 [pl 1 (pa g1 0), pl 3 (.slice A5 l4.length c5), pl 4 (vi from1), pl 5 (vi to1), pl 6 (.bool x.1), pl 7 (vi x.2)] a ∧ Sep w0 B w (blk g1 65 (ca A1 p1.length c1 p2 p3 p4 p5 p6) :: ownK 126 3 A5 l4.length c5 (List.flatMap enc126 l4) :: fs)) (assoc_b hm) ⟨hF.wk [1, 3, 4, 5, 6, 7], hS⟩ ?_
        clear hF hS hm
        rintro nn3 ⟨ok1, n2⟩ a w ⟨hF, hS⟩ hm
        generalize hφ3 : stK (rf_MovesAll_L3 p1 p2 p3 p4 p5 p6 from1 to1) nn3 (fun x => ((rf_MovesAll_K3 p1 p2 p3 p4 p5 p6 from1 l4 to1) x).bind φ2) = φ3 at hm
        unfold rf_MovesAll_L3 at hm
        dsimp only at hF hS hm
        refine seq_cut (fun a w => Fr 97 [pl 1 (pa g1 0), pl 3 (.slice A5 l4.length c5), pl 4 (vi from1), pl 5 (vi to1), pl 6 (.bool ok1), pl 7 (vi n2)] a ∧ Sep w0 B w (blk g1 65 (ca A1 p1.length c1 p2 p3 p4 p5 p6) :: ownK 126 3 A5 l4.length c5 (List.flatMap enc126 l4) :: fs) ∧ ((rf_MovesAll_J8 p1 p2 p3 p4 p5 p6 to1 ok1 n2)).bind φ3 = some r) ?_ ?_
        ·rintro a w ⟨hF, hS, hm⟩
         unfold rf_MovesAll_J8 at hm
         refine seq_cut (fun a w => ∃ (ok3 : Bool), Fr 97 [pl 1 (pa g1 0), pl 3 (.slice A5 l4.length c5), pl 4 (vi from1), pl 5 (vi to1), pl 6 (.bool ok3), pl 7 (vi n2)] a ∧ Sep w0 B w (blk g1 65 (ca A1 p1.length c1 p2 p3 p4 p5 p6) :: ownK 126 3 A5 l4.length c5 (List.flatMap enc126 l4) :: fs) ∧ ((rf_MovesAll_J9 n2) ok3).bind φ3 = some r) ?_ ?_
         ·rintro a w ⟨ok3, hF, hS, hm⟩
          unfold rf_MovesAll_J9 at hm
          refine rg1 [] [] [1, 3, 4, 5, 6, 7] [pl 1 (pa g1 0), pl 3 (.slice A5 l4.length c5), pl 4 (vi from1), pl 5 (vi to1), pl 6 (.bool ok3), pl 7 (vi (w64 (n2 + 1)))] hF hS obs_nil (fun a w hF hS => ?_)
          refine then_n ?_
          rw [← hφ3] at hm
          exact ⟨(ok3, (w64 (n2 + 1))), ⟨hF.wk [1, 3, 4, 5, 6, 7], hS⟩, hm⟩
         ·refine wpIn_block ?_
          obtain ⟨r4, hr4, hm⟩ := call_b hm
          refine rg1 [⟨false, [(ok1, false)], vS (Instr.loadAt 65 (pa g1 0)), .agg (ca A1 p1.length c1 p2 p3 p4 p5 p6)⟩, ⟨false, [(ok1, false)], callFunc 119 #[.agg (ca A1 p1.length c1 p2 p3 p4 p5 p6), vi n2], vi r4⟩] [none, none, some (.agg (ca A1 p1.length c1 p2 p3 p4 p5 p6)), none, some (vi r4), none, none, none, none] [1, 3, 4, 5, 6, 7] [pl 1 (pa g1 0), pl 3 (.slice A5 l4.length c5), pl 4 (vi from1), pl 5 (vi to1), pl 6 (.bool (ok1 || (r4 == to1))), pl 7 (vi n2)] hF hS ?_ (fun a w hF hS => ?_)
          ·exact obs_cons (oA (cs := (ca A1 p1.length c1 p2 p3 p4 p5 p6)) (fun _ _ hS => (hS.at_ 0 rfl).cellsAt 0 (by rfl))) <| obs_cons (ob_call Try.func119 (by kernel_rfl) rfl (fun hy _ hS => rf_castleTo_w (ite_some hr4 (by rw [show ok1 = false from hy (ok1, false) (by simp)]; try rfl)) hS (fun _ hS => (hr_p1 _ (hS.dropN 2))) _hc_p1 rfl)) <| obs_nil
          refine block_n ?_
          refine then_n ?_
          exact ⟨(ok1 || (r4 == to1)), hF.wk [1, 3, 4, 5, 6, 7], hS, hm⟩
        ·obtain ⟨hp2, hm⟩ := asrt_b hm
         obtain ⟨r3, hr3, hm⟩ := call_b hm
         refine rg [⟨false, [(decide (n2 < 4), true)], vS (Instr.loadAt 22 (pa g1 0)), .slice A1 p1.length c1⟩, ⟨true, [(decide (n2 < 4), true)], vS (Instr.indexAt 22 (.slice A1 p1.length c1) (vi from1)), .pointer (some (sAddr A1 from1))⟩, ⟨false, [(decide (n2 < 4), true)], vS (Instr.loadAt 3 (.pointer (some (sAddr A1 from1)))), vi (geti p1 from1)⟩, ⟨false, [(decide (n2 < 4), true)], callFunc 81 #[vi (geti p1 from1)], vi r3⟩] [none, none, none, none, some (.slice A1 p1.length c1), none, some (.pointer (some (sAddr A1 from1))), some (vi (geti p1 from1)), some (vi r3), none, none] [1, 3, 4, 5, 6, 7, 40] [pl 1 (pa g1 0), pl 3 (.slice A5 l4.length c5), pl 4 (vi from1), pl 5 (vi to1), pl 6 (.bool ok1), pl 7 (vi n2), pl 40 (.bool ((decide (n2 < 4)) && (r3 == 6)))] hF hS ?_ (fun a w hF hS => ?_)
         ·exact obs_cons (ob_load Agg22 (fun _ _ hS => (hS.at_ 0 rfl).cell rfl)) <| obs_cons (ob_ix1 (f := (Value.int .i64)) (m := p1) Und22 hi3 hs3 (hr_p1 _ (hS.dropN 2)) rfl (fun hy => hp2 (hy (decide (n2 < 4), true) (by simp)))) <| obs_cons (ob_get1 (n := p1.length) (m := p1) (Value.int .i64) (0 : Int) Agg3 (fun _ hS => ⟨_, (hr_p1 _ (hS.dropN 2))⟩) (fun _ hS => rfl) (fun hy => hp2 (hy (decide (n2 < 4), true) (by simp)))) <| obs_cons (ob_call Try.func81 (by kernel_rfl) rfl (fun hy _ hS => rf_size_w (ite_some hr3 (by rw [show (decide (n2 < 4)) = true from hy (decide (n2 < 4), true) (by simp)]; try rfl)) hS )) <| obs_nil
         refine ce (t := 40) (b := (decide (n2 < 4)) && (r3 == 6)) hF (fun hb => ?_) (fun hb => ?_)
         ·replace hm := if_t hm hb
          refine wpIn_skip ?_
          refine then_n ?_
          exact ⟨hF.wk [1, 3, 4, 5, 6, 7], hS, hm⟩
         ·replace hm := if_f hm hb
          refine wpIn_exit ?_
          refine then_e (then_e (block_e (then_n ?_)))
          rw [← hφ3] at hm
          replace hm := done_b hm
          unfold rf_MovesAll_K3 at hm
          try dsimp only at hm
          have hm : ((rf_MovesAll_J7 p1 p2 p3 p4 p5 p6 from1 l4 to1) ok1).bind φ2 = some r := hm
          exact ⟨ok1, hF.wk [1, 3, 4, 5, 6], hS, hm⟩
     ·refine rg [] [] [1, 3, 4, 5, 23] [pl 1 (pa g1 0), pl 3 (.slice A5 l4.length c5), pl 4 (vi from1), pl 5 (vi to1), pl 23 (.bool (decide (to1 < 64)))] hF hS obs_nil (fun a w hF hS => ?_)
      refine ce (t := 23) (b := decide (to1 < 64)) hF (fun hb => ?_) (fun hb => ?_)
      ·replace hm := if_t hm hb
       refine wpIn_skip ?_
       refine then_n ?_
       exact ⟨hF.wk [1, 3, 4, 5], hS, hm⟩
      ·replace hm := if_f hm hb
       refine wpIn_exit ?_
       refine then_e (then_e (block_e (block_n (then_n ?_))))
       rw [← hφ2] at hm
       replace hm := done_b hm
       unfold rf_MovesAll_K2 at hm
       try dsimp only at hm
       have hm : ((rf_MovesAll_J3 from1) l4).bind φ1 = some r := hm
       exact ⟨l4, A5, c5, hF.wk [1, 3, 4], hS, hm⟩
    ·obtain ⟨hp1, hm⟩ := asrt_b hm
     obtain ⟨r1, hr1, hm⟩ := call_b hm
     refine rg [⟨false, [], vS (Instr.loadAt 22 (pa g1 0)), .slice A1 p1.length c1⟩, ⟨true, [], vS (Instr.indexAt 22 (.slice A1 p1.length c1) (vi from1)), .pointer (some (sAddr A1 from1))⟩, ⟨false, [], vS (Instr.loadAt 3 (.pointer (some (sAddr A1 from1)))), vi (geti p1 from1)⟩, ⟨false, [], callFunc 117 #[vi (geti p1 from1)], vi r1⟩, ⟨false, [], vS (Instr.loadAt 3 (pa g1 1)), vi p2⟩] [none, some (.slice A1 p1.length c1), none, some (.pointer (some (sAddr A1 from1))), some (vi (geti p1 from1)), some (vi r1), none, some (vi p2), none] [1, 3, 4, 21] [pl 1 (pa g1 0), pl 3 (.slice A2 l1.length c2), pl 4 (vi from1), pl 21 (.bool (r1 != p2))] hF hS ?_ (fun a w hF hS => ?_)
     ·exact obs_cons (ob_load Agg22 (fun _ _ hS => (hS.at_ 0 rfl).cell rfl)) <| obs_cons (ob_ix1 (f := (Value.int .i64)) (m := p1) Und22 hi3 hs3 (hr_p1 _ (hS.dropN 2)) rfl (fun _ => hp1)) <| obs_cons (ob_get1 (n := p1.length) (m := p1) (Value.int .i64) (0 : Int) Agg3 (fun _ hS => ⟨_, (hr_p1 _ (hS.dropN 2))⟩) (fun _ hS => rfl) (fun _ => hp1)) <| obs_cons (ob_call Try.func117 (by kernel_rfl) rfl (fun _ _ hS => rf_pieceSide_w hr1 hS )) <| obs_cons (ob_load Agg3 (fun _ _ hS => (hS.at_ 0 rfl).cell rfl)) <| obs_nil
     refine ce (t := 21) (b := (r1 != p2)) hF (fun hb => ?_) (fun hb => ?_)
     ·replace hm := if_t hm hb
      refine wpIn_exit ?_
      refine then_e (block_e (then_n ?_))
      exact ⟨l1, A2, c2, hF.wk [1, 3, 4], hS, hm⟩
     ·replace hm := if_f hm hb
      refine wpIn_skip ?_
      refine then_n ?_
      exact ⟨hF.wk [1, 3, 4], hS, hm⟩
  ·refine rg [] [] [1, 3, 4, 10] [pl 1 (pa g1 0), pl 3 (.slice A2 l1.length c2), pl 4 (vi from1), pl 10 (.bool (decide (from1 < 64)))] hF hS obs_nil (fun a w hF hS => ?_)
   refine ce (t := 10) (b := decide (from1 < 64)) hF (fun hb => ?_) (fun hb => ?_)
   ·replace hm := if_t hm hb
    refine wpIn_skip ?_
    refine then_n ?_
    exact ⟨hF.wk [1, 3, 4], hS, hm⟩
   ·replace hm := if_f hm hb
    refine wpIn_exit ?_
    refine then_e (then_e (block_e (then_n ?_)))
    have hS := hS.pickN 2 [1] (by decide)
    rw [← hφ1] at hm
    replace hm := done_b hm
    unfold rf_MovesAll_K1 at hm
    try dsimp only at hm
    have hm : (rf_MovesAll_J1 l1).bind some = some r := hm
    exact ⟨l1, A2, c2, hF.wk [3], hS, hm⟩

def rf_MoveAt_J3  (i1 : Int) : Option (St Int (Fl Unit Int)) :=
 some (.next (w64 (i1 + 1)))

def rf_MoveAt_J2  (l1 : List MvT) (m1 m2 : Int) (m3 i1 : Int) : Option (St Int (Fl Unit Int)) :=
 asrt (0 ≤ i1 ∧ i1 < (l1.length : Int)) <| if ((((getd ((0, 0, 0) : MvT) l1 i1).1) == m1) && ((((getd ((0, 0, 0) : MvT) l1 i1).2.1) == m2) && (((getd ((0, 0, 0) : MvT) l1 i1).2.2) == m3))) then (some (.done (.ret i1))) else ((rf_MoveAt_J3 i1))

def rf_MoveAt_J1  : Option Int :=
 some (-1)

def rf_MoveAt_K1  : (Fl Unit Int) → Option Int :=
 fun (x : (Fl Unit Int)) => match x with | .go _ => rf_MoveAt_J1 | .ret x => some x

def rf_MoveAt_L1  (l1 : List MvT) (m1 m2 m3 : Int) : Int → Option (St Int (Fl Unit Int)) :=
 fun (x : Int) => match x with | i1 => if (decide (i1 < (l1.length : Int))) then ((rf_MoveAt_J2 l1 m1 m2 m3 i1)) else (some (.done (.go ())))

def rf_MoveAt_m  (l1 : List MvT) (m1 m2 m3 : Int) : Option Int :=
 (loop (rf_MoveAt_L1 l1 m1 m2 m3) 0).bind rf_MoveAt_K1

theorem rf_MoveAt_w  {A1 : Option Addr} {c1 n1 : Nat} {l1 : List MvT} {m1 m2 : Int} {m3 r : Int} {w0 w : World} {B : Nat} {fs : List HP} (hm : rf_MoveAt_m l1 m1 m2 m3 = some r) (hS : Sep w0 B w (fs)) (hr_l1 : RdF w0 B fs A1 ((List.flatMap enc126 l1))) (_hc_l1 : l1.length ≤ c1) (_hn_l1 : n1 = l1.length) :
  Calls Try.prog 83 #[.slice A1 n1 c1, .agg #[vi m1, vi m2, vi m3]] w fun e w' => e = .returned (vi r) ∧ Sep w0 B w' (fs) := by
 obtain ⟨i126, hi126, hz126, hs126, hb126⟩ := info_parts Info126
 obtain rfl := _hn_l1
 unfold rf_MoveAt_m at hm
 replace hm := start_b hm
 refine enter (l := [.slice A1 l1.length c1, .agg #[vi m1, vi m2, vi m3]]) (n := 19) Try.func83 rfl rfl (by simp) (fun a hF => ?_)
 refine seqR ?_
 refine at_do (d := 3) (s := vS (Instr.box 126 (.agg #[vi m1, vi m2, vi m3]))) (v := pa w.heap.size 0) (w' := w.alloc (.cells #[vi m1, vi m2, vi m3] 126)) hF (by kernel_rfl) (by kernel_rfl) (by kernel_rfl) (fun a hF => ?_)
 have hS : Sep w0 B (w.alloc (.cells #[vi m1, vi m2, vi m3] 126)) (blk w.heap.size 126 #[vi m1, vi m2, vi m3] :: (fs)) := hS.box 126 #[vi m1, vi m2, vi m3]
 generalize w.heap.size = g1 at hF hS
 generalize w.alloc (.cells #[vi m1, vi m2, vi m3] 126) = w at hS ⊢
 refine ar 1 [] [] [0, 3] [pl 0 (.slice A1 l1.length c1), pl 3 (pa g1 0)] hF hS obs_nil (fun a w hF hS => ?_)
 refine ae [0, 3] [pl 0 (.slice A1 l1.length c1), pl 3 (pa g1 0)] hF rfl (fun hF => ?_)
 refine then_n ?_
 refine seq_cut (fun a w => Fr 19 [] a ∧ Sep w0 B w (fs) ∧ (rf_MoveAt_J1).bind some = some r) ?_ ?_
 ·rintro a w ⟨hF, hS, hm⟩
  unfold rf_MoveAt_J1 at hm
  refine rg [] [] [4] [pl 4 (vi (-1))] hF hS obs_nil (fun a w hF hS => ?_)
  refine wpIn_ret ?_
  have hm : some (-1) = some r := hm
  obtain rfl := Option.some.inj hm
  exact retV (rs := [.tmp 4]) (vs := [vi (-1)]) hF rfl rv1 rfl ⟨rfl, hS⟩
 ·refine rg [] [] [0, 3, 5] [pl 0 (.slice A1 l1.length c1), pl 3 (pa g1 0), pl 5 (vi 0)] hF hS obs_nil (fun a w hF hS => ?_)
  refine wpIn_block ?_
  refine wp_loop_model (S := Int) (R := (Fl Unit Int)) (rf_MoveAt_L1 l1 m1 m2 m3) (fun x => (rf_MoveAt_K1 x).bind some) r (fun (x : Int) a w => Fr 19 [pl 0 (.slice A1 l1.length c1), pl 3 (pa g1 0), pl 5 (vi x)] a ∧ Sep w0 B w (blk g1 126 #[vi m1, vi m2, vi m3] :: fs)) (assoc_b hm) ⟨hF.wk [0, 3, 5], hS⟩ ?_
  clear hF hS hm
  rintro nn1 i1 a w ⟨hF, hS⟩ hm
  generalize hφ1 : stK (rf_MoveAt_L1 l1 m1 m2 m3) nn1 (fun x => (rf_MoveAt_K1 x).bind some) = φ1 at hm
  unfold rf_MoveAt_L1 at hm
  dsimp only at hm
  refine seq_cut (fun a w => Fr 19 [pl 0 (.slice A1 l1.length c1), pl 3 (pa g1 0), pl 5 (vi i1)] a ∧ Sep w0 B w (blk g1 126 #[vi m1, vi m2, vi m3] :: fs) ∧ ((rf_MoveAt_J2 l1 m1 m2 m3 i1)).bind φ1 = some r) ?_ ?_
  ·rintro a w ⟨hF, hS, hm⟩
   unfold rf_MoveAt_J2 at hm
   refine seq_cut (fun a w => Fr 19 [pl 0 (.slice A1 l1.length c1), pl 3 (pa g1 0), pl 5 (vi i1)] a ∧ Sep w0 B w (blk g1 126 #[vi m1, vi m2, vi m3] :: fs) ∧ ((rf_MoveAt_J3 i1)).bind φ1 = some r) ?_ ?_
   ·rintro a w ⟨hF, hS, hm⟩
    unfold rf_MoveAt_J3 at hm
    refine rg1 [] [] [0, 3, 5] [pl 0 (.slice A1 l1.length c1), pl 3 (pa g1 0), pl 5 (vi (w64 (i1 + 1)))] hF hS obs_nil (fun a w hF hS => ?_)
    refine then_n ?_
    rw [← hφ1] at hm
    exact ⟨(w64 (i1 + 1)), ⟨hF.wk [0, 3, 5], hS⟩, hm⟩
   ·refine wpIn_block ?_
    obtain ⟨hp1, hm⟩ := asrt_b hm
    refine rg [⟨true, [], vS (Instr.indexAt 66 (.slice A1 l1.length c1) (vi i1)), .pointer (some (sAddrK A1 3 i1))⟩, ⟨false, [], vS (Instr.loadAt 126 (.pointer (some (sAddrK A1 3 i1)))), .agg #[vi ((getd ((0, 0, 0) : MvT) l1 i1).1), vi ((getd ((0, 0, 0) : MvT) l1 i1).2.1), vi ((getd ((0, 0, 0) : MvT) l1 i1).2.2)]⟩, ⟨false, [], vS (Instr.loadAt 126 (pa g1 0)), .agg #[vi m1, vi m2, vi m3]⟩, ⟨true, [], vS (do eqGuard .eql 126 (.tmp 15) (.tmp 16) (.agg #[vi ((getd ((0, 0, 0) : MvT) l1 i1).1), vi ((getd ((0, 0, 0) : MvT) l1 i1).2.1), vi ((getd ((0, 0, 0) : MvT) l1 i1).2.2)]) (.agg #[vi m1, vi m2, vi m3]); binOp .eql 126 (.agg #[vi ((getd ((0, 0, 0) : MvT) l1 i1).1), vi ((getd ((0, 0, 0) : MvT) l1 i1).2.1), vi ((getd ((0, 0, 0) : MvT) l1 i1).2.2)]) (.agg #[vi m1, vi m2, vi m3])), .bool (((((getd ((0, 0, 0) : MvT) l1 i1).1) == m1) && ((((getd ((0, 0, 0) : MvT) l1 i1).2.1) == m2) && (((getd ((0, 0, 0) : MvT) l1 i1).2.2) == m3))))⟩] [none, none, some (.pointer (some (sAddrK A1 3 i1))), some (.agg #[vi ((getd ((0, 0, 0) : MvT) l1 i1).1), vi ((getd ((0, 0, 0) : MvT) l1 i1).2.1), vi ((getd ((0, 0, 0) : MvT) l1 i1).2.2)]), some (.agg #[vi m1, vi m2, vi m3]), some (.bool (((((getd ((0, 0, 0) : MvT) l1 i1).1) == m1) && ((((getd ((0, 0, 0) : MvT) l1 i1).2.1) == m2) && (((getd ((0, 0, 0) : MvT) l1 i1).2.2) == m3)))))] [0, 3, 5, 17] [pl 0 (.slice A1 l1.length c1), pl 3 (pa g1 0), pl 5 (vi i1), pl 17 (.bool ((((getd ((0, 0, 0) : MvT) l1 i1).1) == m1) && ((((getd ((0, 0, 0) : MvT) l1 i1).2.1) == m2) && (((getd ((0, 0, 0) : MvT) l1 i1).2.2) == m3))))] hF hS ?_ (fun a w hF hS => ?_)
    ·exact obs_cons (ob_ixK (m := l1) encK126 Und66 hi126 hs126 (hr_l1 _ (hS.dropN 1)) rfl (fun _ => hp1)) <| obs_cons (ob_getK (n := l1.length) (m := l1) encK126 ((0, 0, 0) : MvT) (by kernel_rfl) (by kernel_rfl) (fun _ hS => ⟨_, (hr_l1 _ (hS.dropN 1))⟩) (fun _ hS => rfl) (fun _ => hp1)) <| obs_cons (oA (cs := #[vi m1, vi m2, vi m3]) (fun _ _ hS => (hS.at_ 0 rfl).cellsAt 0 (by rfl))) <| obs_cons (ob_eql rfl (by kernel_rfl) (fun w => Eql126 w)) <| obs_nil
    refine ce (t := 17) (b := ((((getd ((0, 0, 0) : MvT) l1 i1).1) == m1) && ((((getd ((0, 0, 0) : MvT) l1 i1).2.1) == m2) && (((getd ((0, 0, 0) : MvT) l1 i1).2.2) == m3)))) hF (fun hb => ?_) (fun hb => ?_)
    ·replace hm := if_t hm hb
     refine rg [] [] [4] [pl 4 (vi i1)] hF hS obs_nil (fun a w hF hS => ?_)
     refine wpIn_ret ?_
     refine block_r (then_r (then_r (block_r (then_r ?_))))
     rw [← hφ1] at hm
     replace hm := done_b hm
     unfold rf_MoveAt_K1 at hm
     try dsimp only at hm
     have hS := hS.pickN 1 [] (by decide)
     have hm : some i1 = some r := hm
     obtain rfl := Option.some.inj hm
     exact retV (rs := [.tmp 4]) (vs := [vi i1]) hF rfl rv1 rfl ⟨rfl, hS⟩
    ·replace hm := if_f hm hb
     refine wpIn_skip ?_
     refine block_n ?_
     refine then_n ?_
     exact ⟨hF.wk [0, 3, 5], hS, hm⟩
  ·refine rg [] [] [0, 3, 5, 9] [pl 0 (.slice A1 l1.length c1), pl 3 (pa g1 0), pl 5 (vi i1), pl 9 (.bool (decide (i1 < (l1.length : Int))))] hF hS obs_nil (fun a w hF hS => ?_)
   refine ce (t := 9) (b := decide (i1 < (l1.length : Int))) hF (fun hb => ?_) (fun hb => ?_)
   ·replace hm := if_t hm hb
    refine wpIn_skip ?_
    refine then_n ?_
    exact ⟨hF.wk [0, 3, 5], hS, hm⟩
   ·replace hm := if_f hm hb
    refine wpIn_exit ?_
    refine then_e (then_e (block_e (then_n ?_)))
    have hS := hS.pickN 1 [] (by decide)
    rw [← hφ1] at hm
    replace hm := done_b hm
    unfold rf_MoveAt_K1 at hm
    try dsimp only at hm
    have hm : (rf_MoveAt_J1).bind some = some r := hm
    exact ⟨hF.wk [], hS, hm⟩

def rf_sameInts_J4  (i1 : Int) : Option (St Int (Fl Unit Bool)) :=
 some (.next (w64 (i1 + 1)))

def rf_sameInts_J3  (a1 b1 : List Int) (i1 : Int) : Option (St Int (Fl Unit Bool)) :=
 asrt (0 ≤ i1 ∧ i1 < (a1.length : Int)) <| asrt (0 ≤ i1 ∧ i1 < (b1.length : Int)) <| if ((geti a1 i1) != (geti b1 i1)) then (some (.done (.ret false))) else ((rf_sameInts_J4 i1))

def rf_sameInts_J2  : Option Bool :=
 some true

def rf_sameInts_K1  : (Fl Unit Bool) → Option Bool :=
 fun (x : (Fl Unit Bool)) => match x with | .go _ => rf_sameInts_J2 | .ret x => some x

def rf_sameInts_L1  (a1 b1 : List Int) : Int → Option (St Int (Fl Unit Bool)) :=
 fun (x : Int) => match x with | i1 => if (decide (i1 < (a1.length : Int))) then ((rf_sameInts_J3 a1 b1 i1)) else (some (.done (.go ())))

def rf_sameInts_J1  (a1 b1 : List Int) : Option Bool :=
 (loop (rf_sameInts_L1 a1 b1) 0).bind rf_sameInts_K1

def rf_sameInts_m  (a1 b1 : List Int) : Option Bool :=
 if ((a1.length : Int) != (b1.length : Int)) then (some false) else ((rf_sameInts_J1 a1 b1))

theorem rf_sameInts_w  {A1 : Option Addr} {c1 n1 : Nat} {a1 : List Int} {A2 : Option Addr} {c2 n2 : Nat} {b1 : List Int} {r : Bool} {w0 w : World} {B : Nat} {fs : List HP} (hm : rf_sameInts_m a1 b1 = some r) (hS : Sep w0 B w (fs)) (hr_a1 : RdF w0 B fs A1 (vI a1)) (_hc_a1 : a1.length ≤ c1) (_hn_a1 : n1 = a1.length) (hr_b1 : RdF w0 B fs A2 (vI b1)) (_hc_b1 : b1.length ≤ c2) (_hn_b1 : n2 = b1.length) :
  Calls Try.prog 64 #[.slice A1 n1 c1, .slice A2 n2 c2] w fun e w' => e = .returned (.bool r) ∧ Sep w0 B w' (fs) := by
 obtain ⟨i3, hi3, hz3, hs3, hb3⟩ := info_parts Info3
 obtain rfl := _hn_a1
 obtain rfl := _hn_b1
 unfold rf_sameInts_m at hm
 replace hm := start_b hm
 refine enter (l := [.slice A1 a1.length c1, .slice A2 b1.length c2]) (n := 26) Try.func64 rfl rfl (by simp) (fun a hF => ?_)
 refine rg [] [] [0, 1] [pl 0 (.slice A1 a1.length c1), pl 1 (.slice A2 b1.length c2)] hF hS obs_nil (fun a w hF hS => ?_)
 refine seq_cut (fun a w => Fr 26 [pl 0 (.slice A1 a1.length c1), pl 1 (.slice A2 b1.length c2)] a ∧ Sep w0 B w (fs) ∧ ((rf_sameInts_J1 a1 b1)).bind some = some r) ?_ ?_
 ·rintro a w ⟨hF, hS, hm⟩
  unfold rf_sameInts_J1 at hm
  refine seq_cut (fun a w => Fr 26 [] a ∧ Sep w0 B w (fs) ∧ (rf_sameInts_J2).bind some = some r) ?_ ?_
  ·rintro a w ⟨hF, hS, hm⟩
   unfold rf_sameInts_J2 at hm
   refine rg [] [] [4] [pl 4 (.bool true)] hF hS obs_nil (fun a w hF hS => ?_)
   refine wpIn_ret ?_
   have hm : some true = some r := hm
   obtain rfl := Option.some.inj hm
   exact retV (rs := [.tmp 4]) (vs := [.bool true]) hF rfl rv1 rfl ⟨rfl, hS⟩
  ·refine rg [] [] [0, 1, 5] [pl 0 (.slice A1 a1.length c1), pl 1 (.slice A2 b1.length c2), pl 5 (vi 0)] hF hS obs_nil (fun a w hF hS => ?_)
   refine wpIn_block ?_
   refine wp_loop_model (S := Int) (R := (Fl Unit Bool)) (rf_sameInts_L1 a1 b1) (fun x => (rf_sameInts_K1 x).bind some) r (fun (x : Int) a w => Fr 26 [pl 0 (.slice A1 a1.length c1), pl 1 (.slice A2 b1.length c2), pl 5 (vi x)] a ∧ Sep w0 B w (fs)) (assoc_b hm) ⟨hF.wk [0, 1, 5], hS⟩ ?_
   clear hF hS hm
   rintro nn1 i1 a w ⟨hF, hS⟩ hm
   generalize hφ1 : stK (rf_sameInts_L1 a1 b1) nn1 (fun x => (rf_sameInts_K1 x).bind some) = φ1 at hm
   unfold rf_sameInts_L1 at hm
   dsimp only at hm
   refine seq_cut (fun a w => Fr 26 [pl 0 (.slice A1 a1.length c1), pl 1 (.slice A2 b1.length c2), pl 5 (vi i1)] a ∧ Sep w0 B w (fs) ∧ ((rf_sameInts_J3 a1 b1 i1)).bind φ1 = some r) ?_ ?_
   ·rintro a w ⟨hF, hS, hm⟩
    unfold rf_sameInts_J3 at hm
    refine seq_cut (fun a w => Fr 26 [pl 0 (.slice A1 a1.length c1), pl 1 (.slice A2 b1.length c2), pl 5 (vi i1)] a ∧ Sep w0 B w (fs) ∧ ((rf_sameInts_J4 i1)).bind φ1 = some r) ?_ ?_
    ·rintro a w ⟨hF, hS, hm⟩
     unfold rf_sameInts_J4 at hm
     refine rg1 [] [] [0, 1, 5] [pl 0 (.slice A1 a1.length c1), pl 1 (.slice A2 b1.length c2), pl 5 (vi (w64 (i1 + 1)))] hF hS obs_nil (fun a w hF hS => ?_)
     refine then_n ?_
     rw [← hφ1] at hm
     exact ⟨(w64 (i1 + 1)), ⟨hF.wk [0, 1, 5], hS⟩, hm⟩
    ·refine wpIn_block ?_
     obtain ⟨hp1, hm⟩ := asrt_b hm
     obtain ⟨hp2, hm⟩ := asrt_b hm
     refine rg [⟨true, [], vS (Instr.indexAt 22 (.slice A1 a1.length c1) (vi i1)), .pointer (some (sAddr A1 i1))⟩, ⟨false, [], vS (Instr.loadAt 3 (.pointer (some (sAddr A1 i1)))), vi (geti a1 i1)⟩, ⟨true, [], vS (Instr.indexAt 22 (.slice A2 b1.length c2) (vi i1)), .pointer (some (sAddr A2 i1))⟩, ⟨false, [], vS (Instr.loadAt 3 (.pointer (some (sAddr A2 i1)))), vi (geti b1 i1)⟩] [none, none, some (.pointer (some (sAddr A1 i1))), some (vi (geti a1 i1)), none, none, some (.pointer (some (sAddr A2 i1))), some (vi (geti b1 i1)), none] [0, 1, 5, 25] [pl 0 (.slice A1 a1.length c1), pl 1 (.slice A2 b1.length c2), pl 5 (vi i1), pl 25 (.bool ((geti a1 i1) != (geti b1 i1)))] hF hS ?_ (fun a w hF hS => ?_)
     ·exact obs_cons (ob_ix1 (f := (Value.int .i64)) (m := a1) Und22 hi3 hs3 (hr_a1 _ (hS.dropN 0)) rfl (fun _ => hp1)) <| obs_cons (ob_get1 (n := a1.length) (m := a1) (Value.int .i64) (0 : Int) Agg3 (fun _ hS => ⟨_, (hr_a1 _ (hS.dropN 0))⟩) (fun _ hS => rfl) (fun _ => hp1)) <| obs_cons (ob_ix1 (f := (Value.int .i64)) (m := b1) Und22 hi3 hs3 (hr_b1 _ (hS.dropN 0)) rfl (fun _ => hp2)) <| obs_cons (ob_get1 (n := b1.length) (m := b1) (Value.int .i64) (0 : Int) Agg3 (fun _ hS => ⟨_, (hr_b1 _ (hS.dropN 0))⟩) (fun _ hS => rfl) (fun _ => hp2)) <| obs_nil
     refine ce (t := 25) (b := ((geti a1 i1) != (geti b1 i1))) hF (fun hb => ?_) (fun hb => ?_)
     ·replace hm := if_t hm hb
      refine rg [] [] [4] [pl 4 (.bool false)] hF hS obs_nil (fun a w hF hS => ?_)
      refine wpIn_ret ?_
      refine block_r (then_r (then_r (block_r (then_r ?_))))
      rw [← hφ1] at hm
      replace hm := done_b hm
      unfold rf_sameInts_K1 at hm
      try dsimp only at hm
      have hm : some false = some r := hm
      obtain rfl := Option.some.inj hm
      exact retV (rs := [.tmp 4]) (vs := [.bool false]) hF rfl rv1 rfl ⟨rfl, hS⟩
     ·replace hm := if_f hm hb
      refine wpIn_skip ?_
      refine block_n ?_
      refine then_n ?_
      exact ⟨hF.wk [0, 1, 5], hS, hm⟩
   ·refine rg [] [] [0, 1, 5, 14] [pl 0 (.slice A1 a1.length c1), pl 1 (.slice A2 b1.length c2), pl 5 (vi i1), pl 14 (.bool (decide (i1 < (a1.length : Int))))] hF hS obs_nil (fun a w hF hS => ?_)
    refine ce (t := 14) (b := decide (i1 < (a1.length : Int))) hF (fun hb => ?_) (fun hb => ?_)
    ·replace hm := if_t hm hb
     refine wpIn_skip ?_
     refine then_n ?_
     exact ⟨hF.wk [0, 1, 5], hS, hm⟩
    ·replace hm := if_f hm hb
     refine wpIn_exit ?_
     refine then_e (then_e (block_e (then_n ?_)))
     rw [← hφ1] at hm
     replace hm := done_b hm
     unfold rf_sameInts_K1 at hm
     try dsimp only at hm
     have hm : (rf_sameInts_J2).bind some = some r := hm
     exact ⟨hF.wk [], hS, hm⟩
 ·refine rg [] [] [0, 1, 10] [pl 0 (.slice A1 a1.length c1), pl 1 (.slice A2 b1.length c2), pl 10 (.bool ((a1.length : Int) != (b1.length : Int)))] hF hS obs_nil (fun a w hF hS => ?_)
  refine ce (t := 10) (b := ((a1.length : Int) != (b1.length : Int))) hF (fun hb => ?_) (fun hb => ?_)
  ·replace hm := if_t hm hb
   refine rg [] [] [4] [pl 4 (.bool false)] hF hS obs_nil (fun a w hF hS => ?_)
   refine wpIn_ret ?_
   refine then_r ?_
   have hm : some false = some r := hm
   obtain rfl := Option.some.inj hm
   exact retV (rs := [.tmp 4]) (vs := [.bool false]) hF rfl rv1 rfl ⟨rfl, hS⟩
  ·replace hm := if_f hm hb
   refine wpIn_skip ?_
   refine then_n ?_
   exact ⟨hF.wk [0, 1], hS, hm⟩

def rf_overMay_J3  (i1 : Int) : Option (St Int (Fl Unit Bool)) :=
 some (.next (w64 (i1 + 1)))

def rf_overMay_J2  (p1 : List Int) (p4 : Int) (r1 : (List MvT)) (i1 : Int) : Option (St Int (Fl Unit Bool)) :=
 asrt ((decide ((0 : Int) ≤ p4)) = true → 0 ≤ i1 ∧ i1 < (r1.length : Int)) <| asrt (((decide ((0 : Int) ≤ p4)) && (((getd ((0, 0, 0) : MvT) r1 i1).2.1) == p4)) = true → 0 ≤ i1 ∧ i1 < (r1.length : Int)) <| asrt (((decide ((0 : Int) ≤ p4)) && (((getd ((0, 0, 0) : MvT) r1 i1).2.1) == p4)) = true → 0 ≤ ((getd ((0, 0, 0) : MvT) r1 i1).1) ∧ ((getd ((0, 0, 0) : MvT) r1 i1).1) < (p1.length : Int)) <| ((if ((decide ((0 : Int) ≤ p4)) && (((getd ((0, 0, 0) : MvT) r1 i1).2.1) == p4)) then rf_size_m (geti p1 ((getd ((0, 0, 0) : MvT) r1 i1).1)) else some 0)).bind fun r2 => if (((decide ((0 : Int) ≤ p4)) && (((getd ((0, 0, 0) : MvT) r1 i1).2.1) == p4)) && (r2 == 1)) then (some (.done (.ret true))) else ((rf_overMay_J3 i1))

def rf_overMay_J1  : Option Bool :=
 some false

def rf_overMay_K1  : (Fl Unit Bool) → Option Bool :=
 fun (x : (Fl Unit Bool)) => match x with | .go _ => rf_overMay_J1 | .ret x => some x

def rf_overMay_L1  (p1 : List Int) (p4 : Int) (r1 : (List MvT)) : Int → Option (St Int (Fl Unit Bool)) :=
 fun (x : Int) => match x with | i1 => if (decide (i1 < (r1.length : Int))) then ((rf_overMay_J2 p1 p4 r1 i1)) else (some (.done (.go ())))

def rf_overMay_m  (p1 : List Int) (p2 p3 : Int) (p4 p5 p6 : Int) : Option Bool :=
 (rf_MovesAll_m p1 p2 p3 p4 p5 p6).bind fun r1 => (loop (rf_overMay_L1 p1 p4 r1) 0).bind rf_overMay_K1

theorem rf_overMay_w  {A1 : Option Addr} {c1 n1 : Nat} {p1 : List Int} {p2 p3 : Int} {p4 p5 p6 : Int} {r : Bool} {w0 w : World} {B : Nat} {fs : List HP} (hm : rf_overMay_m p1 p2 p3 p4 p5 p6 = some r) (hS : Sep w0 B w (fs)) (hr_p1 : RdF w0 B fs A1 (vI p1)) (_hc_p1 : p1.length ≤ c1) (_hn_p1 : n1 = p1.length) :
  Calls Try.prog 121 #[.agg (ca A1 n1 c1 p2 p3 p4 p5 p6)] w fun e w' => e = .returned (.bool r) ∧ Sep w0 B w' (fs) := by
 obtain ⟨i3, hi3, hz3, hs3, hb3⟩ := info_parts Info3
 obtain ⟨i126, hi126, hz126, hs126, hb126⟩ := info_parts Info126
 obtain rfl := _hn_p1
 unfold rf_overMay_m at hm
 replace hm := start_b hm
 refine enter (l := [.agg (ca A1 p1.length c1 p2 p3 p4 p5 p6)]) (n := 39) Try.func121 rfl rfl (by simp) (fun a hF => ?_)
 refine seqR ?_
 refine at_do (d := 1) (s := vS (Instr.box 65 (.agg (ca A1 p1.length c1 p2 p3 p4 p5 p6)))) (v := pa w.heap.size 0) (w' := w.alloc (.cells (ca A1 p1.length c1 p2 p3 p4 p5 p6) 65)) hF (by kernel_rfl) (by kernel_rfl) (by kernel_rfl) (fun a hF => ?_)
 have hS : Sep w0 B (w.alloc (.cells (ca A1 p1.length c1 p2 p3 p4 p5 p6) 65)) (blk w.heap.size 65 (ca A1 p1.length c1 p2 p3 p4 p5 p6) :: (fs)) := hS.box 65 (ca A1 p1.length c1 p2 p3 p4 p5 p6)
 generalize w.heap.size = g1 at hF hS
 generalize w.alloc (.cells (ca A1 p1.length c1 p2 p3 p4 p5 p6) 65) = w at hS ⊢
 refine ar 1 [] [] [1] [pl 1 (pa g1 0)] hF hS obs_nil (fun a w hF hS => ?_)
 refine ae [1] [pl 1 (pa g1 0)] hF rfl (fun hF => ?_)
 refine then_n (seqR ?_)
 obtain ⟨r1, hr1, hm⟩ := call_b hm
 refine ar 1 [⟨false, [], vS (Instr.loadAt 65 (pa g1 0)), .agg (ca A1 p1.length c1 p2 p3 p4 p5 p6)⟩] [some (.agg (ca A1 p1.length c1 p2 p3 p4 p5 p6))] [1, 5] [pl 1 (pa g1 0), pl 5 (.agg (ca A1 p1.length c1 p2 p3 p4 p5 p6))] hF hS ?_ (fun a w hF hS => ?_)
 ·exact obs_cons (oA (cs := (ca A1 p1.length c1 p2 p3 p4 p5 p6)) (fun _ _ hS => (hS.at_ 0 rfl).cellsAt 0 (by rfl))) <| obs_nil
 refine at_call (f := 84) (args := #[.agg (ca A1 p1.length c1 p2 p3 p4 p5 p6)]) (d := 6) hF (by kernel_rfl) (by kernel_rfl) Try.func84 (by kernel_rfl) rfl (rf_MovesAll_w hr1 hS (fun _ hS => (hr_p1 _ (hS.dropN 1))) _hc_p1 rfl) (fun v a w hR hF => ?_)
 clear hS
 obtain ⟨A2, c2, rfl, hS⟩ := hR
 have hS : Sep w0 B w (ownK 126 3 A2 r1.length c2 (List.flatMap enc126 r1) :: blk g1 65 (ca A1 p1.length c1 p2 p3 p4 p5 p6) :: fs) := hS
 refine ar 1 [] [] [1, 3] [pl 1 (pa g1 0), pl 3 (.slice A2 r1.length c2)] hF hS obs_nil (fun a w hF hS => ?_)
 refine ae [1, 3] [pl 1 (pa g1 0), pl 3 (.slice A2 r1.length c2)] hF rfl (fun hF => ?_)
 refine then_n ?_
 refine seq_cut (fun a w => Fr 39 [] a ∧ Sep w0 B w (fs) ∧ (rf_overMay_J1).bind some = some r) ?_ ?_
 ·rintro a w ⟨hF, hS, hm⟩
  unfold rf_overMay_J1 at hm
  refine rg [] [] [2] [pl 2 (.bool false)] hF hS obs_nil (fun a w hF hS => ?_)
  refine wpIn_ret ?_
  have hm : some false = some r := hm
  obtain rfl := Option.some.inj hm
  exact retV (rs := [.tmp 2]) (vs := [.bool false]) hF rfl rv1 rfl ⟨rfl, hS⟩
 ·refine rg [] [] [1, 3, 4] [pl 1 (pa g1 0), pl 3 (.slice A2 r1.length c2), pl 4 (vi 0)] hF hS obs_nil (fun a w hF hS => ?_)
  refine wpIn_block ?_
  have hS := hS.pickN 2 [1, 0] (by decide)
  refine wp_loop_model (S := Int) (R := (Fl Unit Bool)) (rf_overMay_L1 p1 p4 r1) (fun x => (rf_overMay_K1 x).bind some) r (fun (x : Int) a w => Fr 39 [pl 1 (pa g1 0), pl 3 (.slice A2 r1.length c2), pl 4 (vi x)] a ∧ Sep w0 B w (blk g1 65 (ca A1 p1.length c1 p2 p3 p4 p5 p6) :: ownK 126 3 A2 r1.length c2 (List.flatMap enc126 r1) :: fs)) (assoc_b hm) ⟨hF.wk [1, 3, 4], hS⟩ ?_
  clear hF hS hm
  rintro nn1 i1 a w ⟨hF, hS⟩ hm
  generalize hφ1 : stK (rf_overMay_L1 p1 p4 r1) nn1 (fun x => (rf_overMay_K1 x).bind some) = φ1 at hm
  unfold rf_overMay_L1 at hm
  dsimp only at hm
  refine seq_cut (fun a w => Fr 39 [pl 1 (pa g1 0), pl 3 (.slice A2 r1.length c2), pl 4 (vi i1)] a ∧ Sep w0 B w (blk g1 65 (ca A1 p1.length c1 p2 p3 p4 p5 p6) :: ownK 126 3 A2 r1.length c2 (List.flatMap enc126 r1) :: fs) ∧ ((rf_overMay_J2 p1 p4 r1 i1)).bind φ1 = some r) ?_ ?_
  ·rintro a w ⟨hF, hS, hm⟩
   unfold rf_overMay_J2 at hm
   refine seq_cut (fun a w => Fr 39 [pl 1 (pa g1 0), pl 3 (.slice A2 r1.length c2), pl 4 (vi i1)] a ∧ Sep w0 B w (blk g1 65 (ca A1 p1.length c1 p2 p3 p4 p5 p6) :: ownK 126 3 A2 r1.length c2 (List.flatMap enc126 r1) :: fs) ∧ ((rf_overMay_J3 i1)).bind φ1 = some r) ?_ ?_
   ·rintro a w ⟨hF, hS, hm⟩
    unfold rf_overMay_J3 at hm
    refine rg1 [] [] [1, 3, 4] [pl 1 (pa g1 0), pl 3 (.slice A2 r1.length c2), pl 4 (vi (w64 (i1 + 1)))] hF hS obs_nil (fun a w hF hS => ?_)
    refine then_n ?_
    rw [← hφ1] at hm
    exact ⟨(w64 (i1 + 1)), ⟨hF.wk [1, 3, 4], hS⟩, hm⟩
   ·refine wpIn_block ?_
    obtain ⟨hp1, hm⟩ := asrt_b hm
    obtain ⟨hp2, hm⟩ := asrt_b hm
    obtain ⟨hp3, hm⟩ := asrt_b hm
    obtain ⟨r2, hr2, hm⟩ := call_b hm
    refine rg [⟨false, [], vS (Instr.loadAt 3 (pa g1 3)), vi p4⟩, ⟨true, [(decide ((0 : Int) ≤ p4), true)], vS (Instr.indexAt 66 (.slice A2 r1.length c2) (vi i1)), .pointer (some (sAddrK A2 3 i1))⟩, ⟨false, [(decide ((0 : Int) ≤ p4), true)], vS (Instr.loadAt 3 (.pointer (some (Addr.add (sAddrK A2 3 i1) 1)))), vi ((getd ((0, 0, 0) : MvT) r1 i1).2.1)⟩, ⟨false, [(decide ((0 : Int) ≤ p4), true)], vS (Instr.loadAt 3 (pa g1 3)), vi p4⟩, ⟨false, [((decide ((0 : Int) ≤ p4)) && (((getd ((0, 0, 0) : MvT) r1 i1).2.1) == p4), true)], vS (Instr.loadAt 22 (pa g1 0)), .slice A1 p1.length c1⟩, ⟨true, [((decide ((0 : Int) ≤ p4)) && (((getd ((0, 0, 0) : MvT) r1 i1).2.1) == p4), true)], vS (Instr.indexAt 66 (.slice A2 r1.length c2) (vi i1)), .pointer (some (sAddrK A2 3 i1))⟩, ⟨false, [((decide ((0 : Int) ≤ p4)) && (((getd ((0, 0, 0) : MvT) r1 i1).2.1) == p4), true)], vS (Instr.loadAt 3 (.pointer (some (Addr.add (sAddrK A2 3 i1) 0)))), vi ((getd ((0, 0, 0) : MvT) r1 i1).1)⟩, ⟨true, [((decide ((0 : Int) ≤ p4)) && (((getd ((0, 0, 0) : MvT) r1 i1).2.1) == p4), true)], vS (Instr.indexAt 22 (.slice A1 p1.length c1) (vi ((getd ((0, 0, 0) : MvT) r1 i1).1))), .pointer (some (sAddr A1 ((getd ((0, 0, 0) : MvT) r1 i1).1)))⟩, ⟨false, [((decide ((0 : Int) ≤ p4)) && (((getd ((0, 0, 0) : MvT) r1 i1).2.1) == p4), true)], vS (Instr.loadAt 3 (.pointer (some (sAddr A1 ((getd ((0, 0, 0) : MvT) r1 i1).1))))), vi (geti p1 ((getd ((0, 0, 0) : MvT) r1 i1).1))⟩, ⟨false, [((decide ((0 : Int) ≤ p4)) && (((getd ((0, 0, 0) : MvT) r1 i1).2.1) == p4), true)], callFunc 81 #[vi (geti p1 ((getd ((0, 0, 0) : MvT) r1 i1).1))], vi r2⟩] [none, some (vi p4), none, none, none, none, some (.pointer (some (sAddrK A2 3 i1))), none, some (vi ((getd ((0, 0, 0) : MvT) r1 i1).2.1)), none, some (vi p4), none, none, none, none, some (.slice A1 p1.length c1), none, none, some (.pointer (some (sAddrK A2 3 i1))), none, some (vi ((getd ((0, 0, 0) : MvT) r1 i1).1)), some (.pointer (some (sAddr A1 ((getd ((0, 0, 0) : MvT) r1 i1).1)))), some (vi (geti p1 ((getd ((0, 0, 0) : MvT) r1 i1).1))), some (vi r2), none, none] [1, 3, 4, 38] [pl 1 (pa g1 0), pl 3 (.slice A2 r1.length c2), pl 4 (vi i1), pl 38 (.bool (((decide ((0 : Int) ≤ p4)) && (((getd ((0, 0, 0) : MvT) r1 i1).2.1) == p4)) && (r2 == 1)))] hF hS ?_ (fun a w hF hS => ?_)
    ·exact obs_cons (ob_load Agg3 (fun _ _ hS => (hS.at_ 0 rfl).cell rfl)) <| obs_cons (ob_ixK (m := r1) encK126 Und66 hi126 hs126 (hS.at_ 1 rfl).rdK rfl (fun hy => hp1 (hy (decide ((0 : Int) ≤ p4), true) (by simp)))) <| obs_cons (ob_getF (n := r1.length) (m := r1) (j := 1) encK126 ((0, 0, 0) : MvT) Agg3 (fun _ hS => ⟨_, (hS.at_ 1 rfl).rdK⟩) (fun _ hS => rfl) (fun hy => hp1 (hy (decide ((0 : Int) ≤ p4), true) (by simp))) (by decide) rfl) <| obs_cons (ob_load Agg3 (fun _ _ hS => (hS.at_ 0 rfl).cell rfl)) <| obs_cons (ob_load Agg22 (fun _ _ hS => (hS.at_ 0 rfl).cell rfl)) <| obs_cons (ob_ixK (m := r1) encK126 Und66 hi126 hs126 (hS.at_ 1 rfl).rdK rfl (fun hy => hp2 (hy ((decide ((0 : Int) ≤ p4)) && (((getd ((0, 0, 0) : MvT) r1 i1).2.1) == p4), true) (by simp)))) <| obs_cons (ob_getF (n := r1.length) (m := r1) (j := 0) encK126 ((0, 0, 0) : MvT) Agg3 (fun _ hS => ⟨_, (hS.at_ 1 rfl).rdK⟩) (fun _ hS => rfl) (fun hy => hp2 (hy ((decide ((0 : Int) ≤ p4)) && (((getd ((0, 0, 0) : MvT) r1 i1).2.1) == p4), true) (by simp))) (by decide) rfl) <| obs_cons (ob_ix1 (f := (Value.int .i64)) (m := p1) Und22 hi3 hs3 (hr_p1 _ (hS.dropN 2)) rfl (fun hy => hp3 (hy ((decide ((0 : Int) ≤ p4)) && (((getd ((0, 0, 0) : MvT) r1 i1).2.1) == p4), true) (by simp)))) <| obs_cons (ob_get1 (n := p1.length) (m := p1) (Value.int .i64) (0 : Int) Agg3 (fun _ hS => ⟨_, (hr_p1 _ (hS.dropN 2))⟩) (fun _ hS => rfl) (fun hy => hp3 (hy ((decide ((0 : Int) ≤ p4)) && (((getd ((0, 0, 0) : MvT) r1 i1).2.1) == p4), true) (by simp)))) <| obs_cons (ob_call Try.func81 (by kernel_rfl) rfl (fun hy _ hS => rf_size_w (ite_some hr2 (by rw [show ((decide ((0 : Int) ≤ p4)) && (((getd ((0, 0, 0) : MvT) r1 i1).2.1) == p4)) = true from hy ((decide ((0 : Int) ≤ p4)) && (((getd ((0, 0, 0) : MvT) r1 i1).2.1) == p4), true) (by simp)]; try rfl)) hS )) <| obs_nil
    refine ce (t := 38) (b := ((decide ((0 : Int) ≤ p4)) && (((getd ((0, 0, 0) : MvT) r1 i1).2.1) == p4)) && (r2 == 1)) hF (fun hb => ?_) (fun hb => ?_)
    ·replace hm := if_t hm hb
     refine rg [] [] [2] [pl 2 (.bool true)] hF hS obs_nil (fun a w hF hS => ?_)
     refine wpIn_ret ?_
     refine block_r (then_r (then_r (block_r (then_r ?_))))
     rw [← hφ1] at hm
     replace hm := done_b hm
     unfold rf_overMay_K1 at hm
     try dsimp only at hm
     have hS := hS.pickN 2 [] (by decide)
     have hm : some true = some r := hm
     obtain rfl := Option.some.inj hm
     exact retV (rs := [.tmp 2]) (vs := [.bool true]) hF rfl rv1 rfl ⟨rfl, hS⟩
    ·replace hm := if_f hm hb
     refine wpIn_skip ?_
     refine block_n ?_
     refine then_n ?_
     exact ⟨hF.wk [1, 3, 4], hS, hm⟩
  ·refine rg [] [] [1, 3, 4, 10] [pl 1 (pa g1 0), pl 3 (.slice A2 r1.length c2), pl 4 (vi i1), pl 10 (.bool (decide (i1 < (r1.length : Int))))] hF hS obs_nil (fun a w hF hS => ?_)
   refine ce (t := 10) (b := decide (i1 < (r1.length : Int))) hF (fun hb => ?_) (fun hb => ?_)
   ·replace hm := if_t hm hb
    refine wpIn_skip ?_
    refine then_n ?_
    exact ⟨hF.wk [1, 3, 4], hS, hm⟩
   ·replace hm := if_f hm hb
    refine wpIn_exit ?_
    refine then_e (then_e (block_e (then_n ?_)))
    have hS := hS.pickN 2 [] (by decide)
    rw [← hφ1] at hm
    replace hm := done_b hm
    unfold rf_overMay_K1 at hm
    try dsimp only at hm
    have hm : (rf_overMay_J1).bind some = some r := hm
    exact ⟨hF.wk [], hS, hm⟩

def rf_sameStand_J1  (a1 : List Int) (a2 a3 : Int) (a4 a5 a6 : Int) (b1 : List Int) (b2 b3 : Int) (b4 b5 b6 : Int) : Option Bool :=
 (rf_overMay_m a1 a2 a3 a4 a5 a6).bind fun r2 => (rf_overMay_m b1 b2 b3 b4 b5 b6).bind fun r3 => some ((r2 == r3) && ((!r2) || (a4 == b4)))

def rf_sameStand_m  (a1 : List Int) (a2 a3 : Int) (a4 a5 a6 : Int) (b1 : List Int) (b2 b3 : Int) (b4 b5 b6 : Int) : Option Bool :=
 (rf_sameInts_m a1 b1).bind fun r1 => if (((!r1) || (a2 != b2)) || (a3 != b3)) then (some false) else ((rf_sameStand_J1 a1 a2 a3 a4 a5 a6 b1 b2 b3 b4 b5 b6))

theorem rf_sameStand_w  {A1 : Option Addr} {c1 n1 : Nat} {a1 : List Int} {a2 a3 : Int} {a4 a5 a6 : Int} {A2 : Option Addr} {c2 n2 : Nat} {b1 : List Int} {b2 b3 : Int} {b4 b5 b6 : Int} {r : Bool} {w0 w : World} {B : Nat} {fs : List HP} (hm : rf_sameStand_m a1 a2 a3 a4 a5 a6 b1 b2 b3 b4 b5 b6 = some r) (hS : Sep w0 B w (fs)) (hr_a1 : RdF w0 B fs A1 (vI a1)) (_hc_a1 : a1.length ≤ c1) (_hn_a1 : n1 = a1.length) (hr_b1 : RdF w0 B fs A2 (vI b1)) (_hc_b1 : b1.length ≤ c2) (_hn_b1 : n2 = b1.length) :
  Calls Try.prog 86 #[.agg (ca A1 n1 c1 a2 a3 a4 a5 a6), .agg (ca A2 n2 c2 b2 b3 b4 b5 b6)] w fun e w' => e = .returned (.bool r) ∧ Sep w0 B w' (fs) := by
 obtain ⟨i3, hi3, hz3, hs3, hb3⟩ := info_parts Info3
 obtain rfl := _hn_a1
 obtain rfl := _hn_b1
 unfold rf_sameStand_m at hm
 replace hm := start_b hm
 refine enter (l := [.agg (ca A1 a1.length c1 a2 a3 a4 a5 a6), .agg (ca A2 b1.length c2 b2 b3 b4 b5 b6)]) (n := 45) Try.func86 rfl rfl (by simp) (fun a hF => ?_)
 refine seqR ?_
 refine at_do (d := 2) (s := vS (Instr.box 65 (.agg (ca A1 a1.length c1 a2 a3 a4 a5 a6)))) (v := pa w.heap.size 0) (w' := w.alloc (.cells (ca A1 a1.length c1 a2 a3 a4 a5 a6) 65)) hF (by kernel_rfl) (by kernel_rfl) (by kernel_rfl) (fun a hF => ?_)
 have hS : Sep w0 B (w.alloc (.cells (ca A1 a1.length c1 a2 a3 a4 a5 a6) 65)) (blk w.heap.size 65 (ca A1 a1.length c1 a2 a3 a4 a5 a6) :: (fs)) := hS.box 65 (ca A1 a1.length c1 a2 a3 a4 a5 a6)
 generalize w.heap.size = g1 at hF hS
 generalize w.alloc (.cells (ca A1 a1.length c1 a2 a3 a4 a5 a6) 65) = w at hS ⊢
 refine at_do (d := 3) (s := vS (Instr.box 65 (.agg (ca A2 b1.length c2 b2 b3 b4 b5 b6)))) (v := pa w.heap.size 0) (w' := w.alloc (.cells (ca A2 b1.length c2 b2 b3 b4 b5 b6) 65)) hF (by kernel_rfl) (by kernel_rfl) (by kernel_rfl) (fun a hF => ?_)
 have hS : Sep w0 B (w.alloc (.cells (ca A2 b1.length c2 b2 b3 b4 b5 b6) 65)) (blk w.heap.size 65 (ca A2 b1.length c2 b2 b3 b4 b5 b6) :: (blk g1 65 (ca A1 a1.length c1 a2 a3 a4 a5 a6) :: fs)) := hS.box 65 (ca A2 b1.length c2 b2 b3 b4 b5 b6)
 generalize w.heap.size = g2 at hF hS
 generalize w.alloc (.cells (ca A2 b1.length c2 b2 b3 b4 b5 b6) 65) = w at hS ⊢
 refine ar 1 [] [] [2, 3] [pl 2 (pa g1 0), pl 3 (pa g2 0)] hF hS obs_nil (fun a w hF hS => ?_)
 refine ae [2, 3] [pl 2 (pa g1 0), pl 3 (pa g2 0)] hF rfl (fun hF => ?_)
 refine then_n ?_
 refine seq_cut (fun a w => Fr 45 [pl 2 (pa g1 0), pl 3 (pa g2 0)] a ∧ Sep w0 B w (blk g1 65 (ca A1 a1.length c1 a2 a3 a4 a5 a6) :: blk g2 65 (ca A2 b1.length c2 b2 b3 b4 b5 b6) :: fs) ∧ ((rf_sameStand_J1 a1 a2 a3 a4 a5 a6 b1 b2 b3 b4 b5 b6)).bind some = some r) ?_ ?_
 ·rintro a w ⟨hF, hS, hm⟩
  unfold rf_sameStand_J1 at hm
  obtain ⟨r2, hr2, hm⟩ := call_b hm
  obtain ⟨r3, hr3, hm⟩ := call_b hm
  refine rg [⟨false, [], vS (Instr.loadAt 65 (pa g1 0)), .agg (ca A1 a1.length c1 a2 a3 a4 a5 a6)⟩, ⟨false, [], callFunc 121 #[.agg (ca A1 a1.length c1 a2 a3 a4 a5 a6)], .bool r2⟩, ⟨false, [], vS (Instr.loadAt 65 (pa g2 0)), .agg (ca A2 b1.length c2 b2 b3 b4 b5 b6)⟩, ⟨false, [], callFunc 121 #[.agg (ca A2 b1.length c2 b2 b3 b4 b5 b6)], .bool r3⟩] [some (.agg (ca A1 a1.length c1 a2 a3 a4 a5 a6)), some (.bool r2), some (.agg (ca A2 b1.length c2 b2 b3 b4 b5 b6)), some (.bool r3), none, none] [2, 3, 5, 6] [pl 2 (pa g1 0), pl 3 (pa g2 0), pl 5 (.bool r2), pl 6 (.bool r3)] hF hS ?_ (fun a w hF hS => ?_)
  ·exact obs_cons (oA (cs := (ca A1 a1.length c1 a2 a3 a4 a5 a6)) (fun _ _ hS => (hS.at_ 0 rfl).cellsAt 0 (by rfl))) <| obs_cons (ob_call Try.func121 (by kernel_rfl) rfl (fun _ _ hS => rf_overMay_w hr2 hS (fun _ hS => (hr_a1 _ (hS.dropN 2))) _hc_a1 rfl)) <| obs_cons (oA (cs := (ca A2 b1.length c2 b2 b3 b4 b5 b6)) (fun _ _ hS => (hS.at_ 1 rfl).cellsAt 0 (by rfl))) <| obs_cons (ob_call Try.func121 (by kernel_rfl) rfl (fun _ _ hS => rf_overMay_w hr3 hS (fun _ hS => (hr_b1 _ (hS.dropN 2))) _hc_b1 rfl)) <| obs_nil
  refine rg [⟨false, [(!r2, false), ((r2 == r3), true)], vS (Instr.loadAt 3 (pa g1 3)), vi a4⟩, ⟨false, [(!r2, false), ((r2 == r3), true)], vS (Instr.loadAt 3 (pa g2 3)), vi b4⟩] [none, none, none, none, none, none, none, none, some (vi a4), none, some (vi b4), none, none, none, none] [4] [pl 4 (.bool ((r2 == r3) && ((!r2) || (a4 == b4))))] hF hS ?_ (fun a w hF hS => ?_)
  ·exact obs_cons (ob_load Agg3 (fun _ _ hS => (hS.at_ 0 rfl).cell rfl)) <| obs_cons (ob_load Agg3 (fun _ _ hS => (hS.at_ 1 rfl).cell rfl)) <| obs_nil
  refine wpIn_ret ?_
  have hS := hS.pickN 2 [] (by decide)
  have hm : some ((r2 == r3) && ((!r2) || (a4 == b4))) = some r := hm
  obtain rfl := Option.some.inj hm
  exact retV (rs := [.tmp 4]) (vs := [.bool ((r2 == r3) && ((!r2) || (a4 == b4)))]) hF rfl rv1 rfl ⟨rfl, hS⟩
 ·obtain ⟨r1, hr1, hm⟩ := call_b hm
  refine rg [⟨false, [], vS (Instr.loadAt 22 (pa g1 0)), .slice A1 a1.length c1⟩, ⟨false, [], vS (Instr.loadAt 22 (pa g2 0)), .slice A2 b1.length c2⟩, ⟨false, [], callFunc 64 #[.slice A1 a1.length c1, .slice A2 b1.length c2], .bool r1⟩, ⟨false, [(!r1, false)], vS (Instr.loadAt 3 (pa g1 1)), vi a2⟩, ⟨false, [(!r1, false)], vS (Instr.loadAt 3 (pa g2 1)), vi b2⟩, ⟨false, [((!r1) || (a2 != b2), false)], vS (Instr.loadAt 3 (pa g1 2)), vi a3⟩, ⟨false, [((!r1) || (a2 != b2), false)], vS (Instr.loadAt 3 (pa g2 2)), vi b3⟩] [none, some (.slice A1 a1.length c1), none, some (.slice A2 b1.length c2), some (.bool r1), none, none, none, some (vi a2), none, some (vi b2), none, none, none, none, some (vi a3), none, some (vi b3), none, none] [2, 3, 26] [pl 2 (pa g1 0), pl 3 (pa g2 0), pl 26 (.bool (((!r1) || (a2 != b2)) || (a3 != b3)))] hF hS ?_ (fun a w hF hS => ?_)
  ·exact obs_cons (ob_load Agg22 (fun _ _ hS => (hS.at_ 1 rfl).cell rfl)) <| obs_cons (ob_load Agg22 (fun _ _ hS => (hS.at_ 0 rfl).cell rfl)) <| obs_cons (ob_call Try.func64 (by kernel_rfl) rfl (fun _ _ hS => rf_sameInts_w hr1 hS (fun _ hS => (hr_a1 _ (hS.dropN 2))) _hc_a1 rfl (fun _ hS => (hr_b1 _ (hS.dropN 2))) _hc_b1 rfl)) <| obs_cons (ob_load Agg3 (fun _ _ hS => (hS.at_ 1 rfl).cell rfl)) <| obs_cons (ob_load Agg3 (fun _ _ hS => (hS.at_ 0 rfl).cell rfl)) <| obs_cons (ob_load Agg3 (fun _ _ hS => (hS.at_ 1 rfl).cell rfl)) <| obs_cons (ob_load Agg3 (fun _ _ hS => (hS.at_ 0 rfl).cell rfl)) <| obs_nil
  refine ce (t := 26) (b := ((!r1) || (a2 != b2)) || (a3 != b3)) hF (fun hb => ?_) (fun hb => ?_)
  ·replace hm := if_t hm hb
   refine rg [] [] [4] [pl 4 (.bool false)] hF hS obs_nil (fun a w hF hS => ?_)
   refine wpIn_ret ?_
   refine then_r ?_
   have hS := hS.pickN 2 [] (by decide)
   have hm : some false = some r := hm
   obtain rfl := Option.some.inj hm
   exact retV (rs := [.tmp 4]) (vs := [.bool false]) hF rfl rv1 rfl ⟨rfl, hS⟩
  ·replace hm := if_f hm hb
   refine wpIn_skip ?_
   refine then_n ?_
   have hS := hS.pickN 2 [1, 0] (by decide)
   exact ⟨hF.wk [2, 3], hS, hm⟩

def rf_PlayMoves_J3  (i1 : Int) (all3 : List ChT) (e3 : Int) : Option (St (List ChT × Int × Int) (List ChT × Int)) :=
 some (.next (all3, e3, (w64 (i1 + 1))))

def rf_PlayMoves_J4  (l1 : List MvT) (all1 : List ChT) (e1 i1 : Int) (z1 : Bool) : Option (St (List ChT × Int × Int) (List ChT × Int)) :=
 if z1 then ((rf_PlayMoves_J3 i1) all1 8) else (asrt (0 ≤ i1 ∧ i1 < (l1.length : Int)) <| (rf_MoveDone_m ((getd zP65 all1 (w64 ((all1.length : Int) - 1))).1) ((getd zP65 all1 (w64 ((all1.length : Int) - 1))).2.1) ((getd zP65 all1 (w64 ((all1.length : Int) - 1))).2.2.1) ((getd zP65 all1 (w64 ((all1.length : Int) - 1))).2.2.2.1) ((getd zP65 all1 (w64 ((all1.length : Int) - 1))).2.2.2.2.1) ((getd zP65 all1 (w64 ((all1.length : Int) - 1))).2.2.2.2.2) ((getd ((0, 0, 0) : MvT) l1 i1).1) ((getd ((0, 0, 0) : MvT) l1 i1).2.1) ((getd ((0, 0, 0) : MvT) l1 i1).2.2)).bind fun r4 => asrt ((all1.length : Int) + 1 ≤ bigK) <| (rf_PlayMoves_J3 i1) (all1 ++ ([r4] : List ChT)) e1)

def rf_PlayMoves_J2  (l1 : List MvT) (all1 : List ChT) (e1 i1 : Int) : Option (St (List ChT × Int × Int) (List ChT × Int)) :=
 asrt (0 ≤ (w64 ((all1.length : Int) - 1)) ∧ (w64 ((all1.length : Int) - 1)) < (all1.length : Int)) <| asrt (0 ≤ i1 ∧ i1 < (l1.length : Int)) <| (rf_MovesAll_m ((getd zP65 all1 (w64 ((all1.length : Int) - 1))).1) ((getd zP65 all1 (w64 ((all1.length : Int) - 1))).2.1) ((getd zP65 all1 (w64 ((all1.length : Int) - 1))).2.2.1) ((getd zP65 all1 (w64 ((all1.length : Int) - 1))).2.2.2.1) ((getd zP65 all1 (w64 ((all1.length : Int) - 1))).2.2.2.2.1) ((getd zP65 all1 (w64 ((all1.length : Int) - 1))).2.2.2.2.2)).bind fun r2 => (rf_MoveAt_m r2 ((getd ((0, 0, 0) : MvT) l1 i1).1) ((getd ((0, 0, 0) : MvT) l1 i1).2.1) ((getd ((0, 0, 0) : MvT) l1 i1).2.2)).bind fun r3 => (rf_PlayMoves_J4 l1 all1 e1 i1) (decide (r3 < 0))

def rf_PlayMoves_J7  (i2 times3 : Int) : Option (St (Int × Int) Int) :=
 some (.next (times3, (w64 (i2 + 1))))

def rf_PlayMoves_J6  (all2 : List ChT) (times1 i2 : Int) : Option (St (Int × Int) Int) :=
 asrt (0 ≤ i2 ∧ i2 < (all2.length : Int)) <| (rf_sameStand_m ((getd zP65 all2 i2).1) ((getd zP65 all2 i2).2.1) ((getd zP65 all2 i2).2.2.1) ((getd zP65 all2 i2).2.2.2.1) ((getd zP65 all2 i2).2.2.2.2.1) ((getd zP65 all2 i2).2.2.2.2.2) ((getd zP65 all2 (w64 ((all2.length : Int) - 1))).1) ((getd zP65 all2 (w64 ((all2.length : Int) - 1))).2.1) ((getd zP65 all2 (w64 ((all2.length : Int) - 1))).2.2.1) ((getd zP65 all2 (w64 ((all2.length : Int) - 1))).2.2.2.1) ((getd zP65 all2 (w64 ((all2.length : Int) - 1))).2.2.2.2.1) ((getd zP65 all2 (w64 ((all2.length : Int) - 1))).2.2.2.2.2)).bind fun r5 => if r5 then ((rf_PlayMoves_J7 i2) (w64 (times1 + 1))) else ((rf_PlayMoves_J7 i2) times1)

def rf_PlayMoves_L2  (all2 : List ChT) : (Int × Int) → Option (St (Int × Int) Int) :=
 fun (x : (Int × Int)) => match x with | (times1, i2) => if (decide (i2 < (all2.length : Int))) then ((rf_PlayMoves_J6 all2 times1 i2)) else (some (.done times1))

def rf_PlayMoves_J5  (all2 : List ChT) (e2 times2 : Int) : Option (List Int × Int × Int × Int × Int × Int × Int × Int × Int) :=
 some (((getd zP65 all2 (w64 ((all2.length : Int) - 1))).1), ((getd zP65 all2 (w64 ((all2.length : Int) - 1))).2.1), ((getd zP65 all2 (w64 ((all2.length : Int) - 1))).2.2.1), ((getd zP65 all2 (w64 ((all2.length : Int) - 1))).2.2.2.1), ((getd zP65 all2 (w64 ((all2.length : Int) - 1))).2.2.2.2.1), ((getd zP65 all2 (w64 ((all2.length : Int) - 1))).2.2.2.2.2), (w64 ((all2.length : Int) - 1)), times2, e2)

def rf_PlayMoves_K2  (all2 : List ChT) (e2 : Int) : Int → Option (List Int × Int × Int × Int × Int × Int × Int × Int × Int) :=
 fun (x : Int) => match x with | times2 => (rf_PlayMoves_J5 all2 e2) times2

def rf_PlayMoves_J1  (all2 : List ChT) (e2 : Int) : Option (List Int × Int × Int × Int × Int × Int × Int × Int × Int) :=
 asrt (0 ≤ (w64 ((all2.length : Int) - 1)) ∧ (w64 ((all2.length : Int) - 1)) < (all2.length : Int)) <| (loop (rf_PlayMoves_L2 all2) (0, 0)).bind (rf_PlayMoves_K2 all2 e2)

def rf_PlayMoves_K1  : (List ChT × Int) → Option (List Int × Int × Int × Int × Int × Int × Int × Int × Int) :=
 fun (x : (List ChT × Int)) => match x with | (all2, e2) => rf_PlayMoves_J1 all2 e2

def rf_PlayMoves_L1  (l1 : List MvT) : (List ChT × Int × Int) → Option (St (List ChT × Int × Int) (List ChT × Int)) :=
 fun (x : (List ChT × Int × Int)) => match x with | (all1, e1, i1) => if ((decide (i1 < (l1.length : Int))) && (e1 == 0)) then ((rf_PlayMoves_J2 l1 all1 e1 i1)) else (some (.done (all1, e1)))

def rf_PlayMoves_m  (p1 : List Int) (p2 p3 : Int) (p4 p5 p6 : Int) (l1 : List MvT) : Option (List Int × Int × Int × Int × Int × Int × Int × Int × Int) :=
 (rf_ChessOf_m p1 p2 p3 p4 p5 p6).bind fun r1 => (loop (rf_PlayMoves_L1 l1) (([r1] : List ChT), 0, 0)).bind rf_PlayMoves_K1

theorem rf_PlayMoves_w  {A1 : Option Addr} {c1 n1 : Nat} {p1 : List Int} {p2 p3 : Int} {p4 p5 p6 : Int} {A2 : Option Addr} {c2 n2 : Nat} {l1 : List MvT} {r : (List Int × Int × Int × Int × Int × Int × Int × Int × Int)} {w0 w : World} {B : Nat} {fs : List HP} (hm : rf_PlayMoves_m p1 p2 p3 p4 p5 p6 l1 = some r) (hS : Sep w0 B w (fs)) (hr_p1 : RdF w0 B fs A1 (vI p1)) (_hc_p1 : p1.length ≤ c1) (_hn_p1 : n1 = p1.length) (hr_l1 : RdF w0 B fs A2 ((List.flatMap enc126 l1))) (_hc_l1 : l1.length ≤ c2) (_hn_l1 : n2 = l1.length) :
  Calls Try.prog 33 #[.agg (ca A1 n1 c1 p2 p3 p4 p5 p6), .slice A2 n2 c2] w fun e w' => ∃ v, e = .returned v ∧ ∃ (pg4 : HP) (A11 : Option Addr) (c11 : Nat), v = .tuple #[.agg (ca A11 r.1.length c11 r.2.1 r.2.2.1 r.2.2.2.1 r.2.2.2.2.1 r.2.2.2.2.2.1), vi r.2.2.2.2.2.2.1, vi r.2.2.2.2.2.2.2.1, vi r.2.2.2.2.2.2.2.2] ∧ (PoolW pg4 A11 r.1) ∧ (r.1.length ≤ c11) ∧ Sep w0 B w' (pg4 :: fs) := by
 obtain ⟨i3, hi3, hz3, hs3, hb3⟩ := info_parts Info3
 obtain ⟨i65, hi65, hz65, hs65, hb65⟩ := info_parts Info65
 obtain ⟨i126, hi126, hz126, hs126, hb126⟩ := info_parts Info126
 obtain rfl := _hn_p1
 obtain rfl := _hn_l1
 unfold rf_PlayMoves_m at hm
 replace hm := start_b hm
 refine enter (l := [.agg (ca A1 p1.length c1 p2 p3 p4 p5 p6), .slice A2 l1.length c2]) (n := 77) Try.func33 rfl rfl (by simp) (fun a hF => ?_)
 refine seqR ?_
 refine at_do (d := 2) (s := vS (Instr.box 65 (.agg (ca A1 p1.length c1 p2 p3 p4 p5 p6)))) (v := pa w.heap.size 0) (w' := w.alloc (.cells (ca A1 p1.length c1 p2 p3 p4 p5 p6) 65)) hF (by kernel_rfl) (by kernel_rfl) (by kernel_rfl) (fun a hF => ?_)
 have hS : Sep w0 B (w.alloc (.cells (ca A1 p1.length c1 p2 p3 p4 p5 p6) 65)) (blk w.heap.size 65 (ca A1 p1.length c1 p2 p3 p4 p5 p6) :: (fs)) := hS.box 65 (ca A1 p1.length c1 p2 p3 p4 p5 p6)
 generalize w.heap.size = g1 at hF hS
 generalize w.alloc (.cells (ca A1 p1.length c1 p2 p3 p4 p5 p6) 65) = w at hS ⊢
 refine at_do (d := 4) (s := vS (Instr.alloc 65 true (.tuple #[]))) (v := pa w.heap.size 0) (w' := w.alloc (.cells (ca none 0 0 0 0 0 0 0) 65)) hF (by kernel_rfl) (by kernel_rfl) (by kernel_rfl) (fun a hF => ?_)
 have hS : Sep w0 B (w.alloc (.cells (ca none 0 0 0 0 0 0 0) 65)) (blk w.heap.size 65 (ca none 0 0 0 0 0 0 0) :: (blk g1 65 (ca A1 p1.length c1 p2 p3 p4 p5 p6) :: fs)) := hS.box 65 (ca none 0 0 0 0 0 0 0)
 generalize w.heap.size = g2 at hF hS
 generalize w.alloc (.cells (ca none 0 0 0 0 0 0 0) 65) = w at hS ⊢
 refine ar 3 [] [] [1, 2, 4] [pl 1 (.slice A2 l1.length c2), pl 2 (pa g1 0), pl 4 (pa g2 0)] hF hS obs_nil (fun a w hF hS => ?_)
 refine ae [1, 2, 4] [pl 1 (.slice A2 l1.length c2), pl 2 (pa g1 0), pl 4 (pa g2 0)] hF rfl (fun hF => ?_)
 refine then_n (seqR ?_)
 obtain ⟨r1, hr1, hm⟩ := call_b hm
 refine ar 1 [⟨false, [], vS (Instr.loadAt 65 (pa g1 0)), .agg (ca A1 p1.length c1 p2 p3 p4 p5 p6)⟩] [some (.agg (ca A1 p1.length c1 p2 p3 p4 p5 p6))] [1, 4, 15] [pl 1 (.slice A2 l1.length c2), pl 4 (pa g2 0), pl 15 (.agg (ca A1 p1.length c1 p2 p3 p4 p5 p6))] hF hS ?_ (fun a w hF hS => ?_)
 ·exact obs_cons (oA (cs := (ca A1 p1.length c1 p2 p3 p4 p5 p6)) (fun _ _ hS => (hS.at_ 1 rfl).cellsAt 0 (by rfl))) <| obs_nil
 refine at_call (f := 29) (args := #[.agg (ca A1 p1.length c1 p2 p3 p4 p5 p6)]) (d := 16) hF (by kernel_rfl) (by kernel_rfl) Try.func29 (by kernel_rfl) rfl (rf_ChessOf_w hr1 hS (fun _ hS => (hr_p1 _ (hS.dropN 2))) _hc_p1 rfl) (fun v a w hR hF => ?_)
 clear hS
 obtain ⟨A3, c3, rfl, hS⟩ := hR
 have hS : Sep w0 B w (own 3 (.slice A3 r1.1.length c3) (vI r1.1) :: blk g2 65 (ca none 0 0 0 0 0 0 0) :: blk g1 65 (ca A1 p1.length c1 p2 p3 p4 p5 p6) :: fs) := hS
 have hS : Sep w0 B w (noB :: own 3 (.slice A3 r1.1.length c3) (vI r1.1) :: blk g2 65 (ca none 0 0 0 0 0 0 0) :: blk g1 65 (ca A1 p1.length c1 p2 p3 p4 p5 p6) :: fs) := hS.noB
 have hc1 := (hS.at_ 1 rfl).cap1
 have hS := hS.pickN 4 [1, 0, 2, 3] (by decide)
 have hS : Sep w0 B w ((twoB (own 3 (.slice A3 r1.1.length c3) (vI r1.1)) noB) :: blk g2 65 (ca none 0 0 0 0 0 0 0) :: blk g1 65 (ca A1 p1.length c1 p2 p3 p4 p5 p6) :: fs) := hS.two
 refine at_do (d := 17) (s := vS (Instr.buildSlice 129 1 #[(0, .agg (ca A3 r1.1.length c3 r1.2.1 r1.2.2.1 r1.2.2.2.1 r1.2.2.2.2.1 r1.2.2.2.2.2))])) (v := .slice (some ⟨w.heap.size, 0, none⟩) 1 1) (w' := w.alloc (.cells (ca A3 r1.1.length c3 r1.2.1 r1.2.2.1 r1.2.2.2.1 r1.2.2.2.2.1 r1.2.2.2.2.2) 65)) hF (by kernel_rfl) (by kernel_rfl) (by kernel_rfl) (fun a hF => ?_)
 have hS : Sep w0 B (w.alloc (.cells (ca A3 r1.1.length c3 r1.2.1 r1.2.2.1 r1.2.2.2.1 r1.2.2.2.2.1 r1.2.2.2.2.2) 65)) (els encP65 Rel65 (twoB (own 3 (.slice A3 r1.1.length c3) (vI r1.1)) noB) 65 6 (some (⟨w.heap.size, 0, none⟩ : Addr)) 1 1 ([((A3, r1.1.length, c3), r1.2.1, r1.2.2.1, r1.2.2.2.1, r1.2.2.2.2.1, r1.2.2.2.2.2)] : List (Hd3 × Int × Int × Int × Int × Int)) ([r1] : List ChT) :: ((twoB (own 3 (.slice A3 r1.1.length c3) (vI r1.1)) noB) :: blk g2 65 (ca none 0 0 0 0 0 0 0) :: blk g1 65 (ca A1 p1.length c1 p2 p3 p4 p5 p6) :: fs)) := Sep.ownEls' (l := []) (hS.litK 65 6 (ca A3 r1.1.length c3 r1.2.1 r1.2.2.1 r1.2.2.2.1 r1.2.2.2.2.1 r1.2.2.2.2.2) 1 rfl (by omega)) rfl (PAll.cons ⟨SlR.of (PoolW.own : PoolW (twoB (own 3 (.slice A3 r1.1.length c3) (vI r1.1)) noB) A3 r1.1) hc1, rfl, rfl, rfl, rfl, rfl⟩ (PAll.nil : PAll Rel65 (twoB (own 3 (.slice A3 r1.1.length c3) (vI r1.1)) noB) ([] : List (Hd3 × Int × Int × Int × Int × Int)) ([] : List ChT)))
 generalize (some (⟨w.heap.size, 0, none⟩ : Addr)) = g3 at hF hS
 generalize w.alloc (.cells (ca A3 r1.1.length c3 r1.2.1 r1.2.2.1 r1.2.2.2.1 r1.2.2.2.2.1 r1.2.2.2.2.2) 65) = w at hS ⊢
 refine ar 1 [] [] [1, 4, 8] [pl 1 (.slice A2 l1.length c2), pl 4 (pa g2 0), pl 8 (.slice g3 1 1)] hF hS obs_nil (fun a w hF hS => ?_)
 refine ae [1, 4, 8] [pl 1 (.slice A2 l1.length c2), pl 4 (pa g2 0), pl 8 (.slice g3 1 1)] hF rfl (fun hF => ?_)
 refine then_n ?_
 refine rg [] [] [1, 4, 8, 9] [pl 1 (.slice A2 l1.length c2), pl 4 (pa g2 0), pl 8 (.slice g3 1 1), pl 9 (vi 0)] hF hS obs_nil (fun a w hF hS => ?_)
 refine seq_cut (fun a w => ∃ (all2 : List ChT) (e2 : Int) (pg2 : HP) (raw2 : List (Hd3 × Int × Int × Int × Int × Int)) (A5 : Option Addr) (c5 : Nat), Fr 77 [pl 4 (pa g2 0), pl 8 (.slice A5 all2.length c5), pl 9 (vi e2)] a ∧ Sep w0 B w (blk g2 65 (ca none 0 0 0 0 0 0 0) :: pg2 :: els encP65 Rel65 pg2 65 6 A5 all2.length c5 raw2 all2 :: fs) ∧ (rf_PlayMoves_J1 all2 e2).bind some = some r) ?_ ?_
 ·rintro a w ⟨all2, e2, pg2, raw2, A5, c5, hF, hS, hm⟩
  unfold rf_PlayMoves_J1 at hm
  refine seqR ?_
  obtain ⟨hp5, hm⟩ := asrt_b hm
  have hg2 := (hS.at_ 2 rfl).elsAll
  refine ar 6 [⟨true, [], vS (Instr.indexAt 129 (.slice A5 all2.length c5) (vi (w64 ((all2.length : Int) - 1)))), .pointer (some (sAddrK A5 6 (w64 ((all2.length : Int) - 1))))⟩, ⟨false, [], vS (Instr.loadAt 65 (.pointer (some (sAddrK A5 6 (w64 ((all2.length : Int) - 1)))))), .agg #[.slice ((getd rzP65 raw2 (w64 ((all2.length : Int) - 1))).1.1) (((getd zP65 all2 (w64 ((all2.length : Int) - 1))).1).length) ((getd rzP65 raw2 (w64 ((all2.length : Int) - 1))).1.2.2), vi ((getd zP65 all2 (w64 ((all2.length : Int) - 1))).2.1), vi ((getd zP65 all2 (w64 ((all2.length : Int) - 1))).2.2.1), vi ((getd zP65 all2 (w64 ((all2.length : Int) - 1))).2.2.2.1), vi ((getd zP65 all2 (w64 ((all2.length : Int) - 1))).2.2.2.2.1), vi ((getd zP65 all2 (w64 ((all2.length : Int) - 1))).2.2.2.2.2)]⟩] [none, none, none, none, some (.pointer (some (sAddrK A5 6 (w64 ((all2.length : Int) - 1))))), some (.agg #[.slice ((getd rzP65 raw2 (w64 ((all2.length : Int) - 1))).1.1) (((getd zP65 all2 (w64 ((all2.length : Int) - 1))).1).length) ((getd rzP65 raw2 (w64 ((all2.length : Int) - 1))).1.2.2), vi ((getd zP65 all2 (w64 ((all2.length : Int) - 1))).2.1), vi ((getd zP65 all2 (w64 ((all2.length : Int) - 1))).2.2.1), vi ((getd zP65 all2 (w64 ((all2.length : Int) - 1))).2.2.2.1), vi ((getd zP65 all2 (w64 ((all2.length : Int) - 1))).2.2.2.2.1), vi ((getd zP65 all2 (w64 ((all2.length : Int) - 1))).2.2.2.2.2)])] [4, 8, 9, 56] [pl 4 (pa g2 0), pl 8 (.slice A5 all2.length c5), pl 9 (vi e2), pl 56 (.agg #[.slice ((getd rzP65 raw2 (w64 ((all2.length : Int) - 1))).1.1) (((getd zP65 all2 (w64 ((all2.length : Int) - 1))).1).length) ((getd rzP65 raw2 (w64 ((all2.length : Int) - 1))).1.2.2), vi ((getd zP65 all2 (w64 ((all2.length : Int) - 1))).2.1), vi ((getd zP65 all2 (w64 ((all2.length : Int) - 1))).2.2.1), vi ((getd zP65 all2 (w64 ((all2.length : Int) - 1))).2.2.2.1), vi ((getd zP65 all2 (w64 ((all2.length : Int) - 1))).2.2.2.2.1), vi ((getd zP65 all2 (w64 ((all2.length : Int) - 1))).2.2.2.2.2)])] hF hS ?_ (fun a w hF hS => ?_)
  ·exact obs_cons (ob_ixK (m := raw2) encPK65 Und129 hi65 hs65 (hS.at_ 2 rfl).rdE ((hS.at_ 2 rfl).lenEr encPK65) (fun _ => hp5)) <| obs_cons (ob_getP (n := all2.length) (raw := raw2) encPK65 rzP65 (by kernel_rfl) (by kernel_rfl) (fun _ hS => ⟨_, (hS.at_ 2 rfl).rdE⟩) (fun _ hS => (hS.at_ 2 rfl).lenEr encPK65) (fun _ => hp5) (val65 (PAll.any RelP65 hg2 (w64 ((all2.length : Int) - 1))))) <| obs_nil
  refine at_do (d := 12) (s := vS (Instr.alloc 65 true (.tuple #[]))) (v := pa w.heap.size 0) (w' := w.alloc (.cells (ca none 0 0 0 0 0 0 0) 65)) hF (by kernel_rfl) (by kernel_rfl) (by kernel_rfl) (fun a hF => ?_)
  have hS : Sep w0 B (w.alloc (.cells (ca none 0 0 0 0 0 0 0) 65)) (blk w.heap.size 65 (ca none 0 0 0 0 0 0 0) :: (blk g2 65 (ca none 0 0 0 0 0 0 0) :: pg2 :: els encP65 Rel65 pg2 65 6 A5 all2.length c5 raw2 all2 :: fs)) := hS.box 65 (ca none 0 0 0 0 0 0 0)
  generalize w.heap.size = g6 at hF hS
  generalize w.alloc (.cells (ca none 0 0 0 0 0 0 0) 65) = w at hS ⊢
  obtain ⟨w, hrun, hS⟩ := run_putA (P := Try.prog) (t := 65) (us := #[.slice ((getd rzP65 raw2 (w64 ((all2.length : Int) - 1))).1.1) (((getd zP65 all2 (w64 ((all2.length : Int) - 1))).1).length) ((getd rzP65 raw2 (w64 ((all2.length : Int) - 1))).1.2.2), vi ((getd zP65 all2 (w64 ((all2.length : Int) - 1))).2.1), vi ((getd zP65 all2 (w64 ((all2.length : Int) - 1))).2.2.1), vi ((getd zP65 all2 (w64 ((all2.length : Int) - 1))).2.2.2.1), vi ((getd zP65 all2 (w64 ((all2.length : Int) - 1))).2.2.2.2.1), vi ((getd zP65 all2 (w64 ((all2.length : Int) - 1))).2.2.2.2.2)]) (o := 0) (hS.at_ 0 rfl) (by kernel_rfl) (all_one (by kernel_rfl)) (Nat.le_of_ble_eq_true (by kernel_rfl))
  refine at_s hF hrun ?_
  have hS : Sep w0 B w (blk g6 65 #[.slice ((getd rzP65 raw2 (w64 ((all2.length : Int) - 1))).1.1) (((getd zP65 all2 (w64 ((all2.length : Int) - 1))).1).length) ((getd rzP65 raw2 (w64 ((all2.length : Int) - 1))).1.2.2), vi ((getd zP65 all2 (w64 ((all2.length : Int) - 1))).2.1), vi ((getd zP65 all2 (w64 ((all2.length : Int) - 1))).2.2.1), vi ((getd zP65 all2 (w64 ((all2.length : Int) - 1))).2.2.2.1), vi ((getd zP65 all2 (w64 ((all2.length : Int) - 1))).2.2.2.2.1), vi ((getd zP65 all2 (w64 ((all2.length : Int) - 1))).2.2.2.2.2)] :: blk g2 65 (ca none 0 0 0 0 0 0 0) :: pg2 :: els encP65 Rel65 pg2 65 6 A5 all2.length c5 raw2 all2 :: fs) := hS
  refine ae [4, 8, 9, 12] [pl 4 (pa g2 0), pl 8 (.slice A5 all2.length c5), pl 9 (vi e2), pl 12 (pa g6 0)] hF rfl (fun hF => ?_)
  refine then_n ?_
  refine rg [] [] [4, 8, 9, 12, 13] [pl 4 (pa g2 0), pl 8 (.slice A5 all2.length c5), pl 9 (vi e2), pl 12 (pa g6 0), pl 13 (vi 0)] hF hS obs_nil (fun a w hF hS => ?_)
  refine seq_cut (fun a w => ∃ (times2 : Int), Fr 77 [pl 4 (pa g2 0), pl 8 (.slice A5 all2.length c5), pl 9 (vi e2), pl 12 (pa g6 0), pl 13 (vi times2)] a ∧ Sep w0 B w (blk g2 65 (ca none 0 0 0 0 0 0 0) :: pg2 :: els encP65 Rel65 pg2 65 6 A5 all2.length c5 raw2 all2 :: blk g6 65 #[.slice ((getd rzP65 raw2 (w64 ((all2.length : Int) - 1))).1.1) (((getd zP65 all2 (w64 ((all2.length : Int) - 1))).1).length) ((getd rzP65 raw2 (w64 ((all2.length : Int) - 1))).1.2.2), vi ((getd zP65 all2 (w64 ((all2.length : Int) - 1))).2.1), vi ((getd zP65 all2 (w64 ((all2.length : Int) - 1))).2.2.1), vi ((getd zP65 all2 (w64 ((all2.length : Int) - 1))).2.2.2.1), vi ((getd zP65 all2 (w64 ((all2.length : Int) - 1))).2.2.2.2.1), vi ((getd zP65 all2 (w64 ((all2.length : Int) - 1))).2.2.2.2.2)] :: fs) ∧ ((rf_PlayMoves_J5 all2 e2) times2).bind some = some r) ?_ ?_
  ·rintro a w ⟨times2, hF, hS, hm⟩
   unfold rf_PlayMoves_J5 at hm
   refine seqR ?_
   refine ar 6 [⟨false, [], vS (Instr.loadAt 65 (pa g6 0)), .agg #[.slice ((getd rzP65 raw2 (w64 ((all2.length : Int) - 1))).1.1) (((getd zP65 all2 (w64 ((all2.length : Int) - 1))).1).length) ((getd rzP65 raw2 (w64 ((all2.length : Int) - 1))).1.2.2), vi ((getd zP65 all2 (w64 ((all2.length : Int) - 1))).2.1), vi ((getd zP65 all2 (w64 ((all2.length : Int) - 1))).2.2.1), vi ((getd zP65 all2 (w64 ((all2.length : Int) - 1))).2.2.2.1), vi ((getd zP65 all2 (w64 ((all2.length : Int) - 1))).2.2.2.2.1), vi ((getd zP65 all2 (w64 ((all2.length : Int) - 1))).2.2.2.2.2)]⟩] [some (.agg #[.slice ((getd rzP65 raw2 (w64 ((all2.length : Int) - 1))).1.1) (((getd zP65 all2 (w64 ((all2.length : Int) - 1))).1).length) ((getd rzP65 raw2 (w64 ((all2.length : Int) - 1))).1.2.2), vi ((getd zP65 all2 (w64 ((all2.length : Int) - 1))).2.1), vi ((getd zP65 all2 (w64 ((all2.length : Int) - 1))).2.2.1), vi ((getd zP65 all2 (w64 ((all2.length : Int) - 1))).2.2.2.1), vi ((getd zP65 all2 (w64 ((all2.length : Int) - 1))).2.2.2.2.1), vi ((getd zP65 all2 (w64 ((all2.length : Int) - 1))).2.2.2.2.2)]), none, none, none, none, none] [4, 71, 74, 75, 76] [pl 4 (pa g2 0), pl 71 (.agg #[.slice ((getd rzP65 raw2 (w64 ((all2.length : Int) - 1))).1.1) (((getd zP65 all2 (w64 ((all2.length : Int) - 1))).1).length) ((getd rzP65 raw2 (w64 ((all2.length : Int) - 1))).1.2.2), vi ((getd zP65 all2 (w64 ((all2.length : Int) - 1))).2.1), vi ((getd zP65 all2 (w64 ((all2.length : Int) - 1))).2.2.1), vi ((getd zP65 all2 (w64 ((all2.length : Int) - 1))).2.2.2.1), vi ((getd zP65 all2 (w64 ((all2.length : Int) - 1))).2.2.2.2.1), vi ((getd zP65 all2 (w64 ((all2.length : Int) - 1))).2.2.2.2.2)]), pl 74 (vi (w64 ((all2.length : Int) - 1))), pl 75 (vi times2), pl 76 (vi e2)] hF hS ?_ (fun a w hF hS => ?_)
   ·exact obs_cons (ob_loadA (cs := #[.slice ((getd rzP65 raw2 (w64 ((all2.length : Int) - 1))).1.1) (((getd zP65 all2 (w64 ((all2.length : Int) - 1))).1).length) ((getd rzP65 raw2 (w64 ((all2.length : Int) - 1))).1.2.2), vi ((getd zP65 all2 (w64 ((all2.length : Int) - 1))).2.1), vi ((getd zP65 all2 (w64 ((all2.length : Int) - 1))).2.2.1), vi ((getd zP65 all2 (w64 ((all2.length : Int) - 1))).2.2.2.1), vi ((getd zP65 all2 (w64 ((all2.length : Int) - 1))).2.2.2.2.1), vi ((getd zP65 all2 (w64 ((all2.length : Int) - 1))).2.2.2.2.2)]) (by kernel_rfl) (by kernel_rfl) (fun _ _ hS => (hS.at_ 3 rfl).cellsAt 0 (by rfl))) <| obs_nil
   obtain ⟨w, hrun, hS⟩ := run_putA (P := Try.prog) (t := 65) (us := #[.slice ((getd rzP65 raw2 (w64 ((all2.length : Int) - 1))).1.1) (((getd zP65 all2 (w64 ((all2.length : Int) - 1))).1).length) ((getd rzP65 raw2 (w64 ((all2.length : Int) - 1))).1.2.2), vi ((getd zP65 all2 (w64 ((all2.length : Int) - 1))).2.1), vi ((getd zP65 all2 (w64 ((all2.length : Int) - 1))).2.2.1), vi ((getd zP65 all2 (w64 ((all2.length : Int) - 1))).2.2.2.1), vi ((getd zP65 all2 (w64 ((all2.length : Int) - 1))).2.2.2.2.1), vi ((getd zP65 all2 (w64 ((all2.length : Int) - 1))).2.2.2.2.2)]) (o := 0) (hS.at_ 0 rfl) (by kernel_rfl) (all_one (by kernel_rfl)) (Nat.le_of_ble_eq_true (by kernel_rfl))
   refine at_s hF hrun ?_
   have hS : Sep w0 B w (blk g2 65 #[.slice ((getd rzP65 raw2 (w64 ((all2.length : Int) - 1))).1.1) (((getd zP65 all2 (w64 ((all2.length : Int) - 1))).1).length) ((getd rzP65 raw2 (w64 ((all2.length : Int) - 1))).1.2.2), vi ((getd zP65 all2 (w64 ((all2.length : Int) - 1))).2.1), vi ((getd zP65 all2 (w64 ((all2.length : Int) - 1))).2.2.1), vi ((getd zP65 all2 (w64 ((all2.length : Int) - 1))).2.2.2.1), vi ((getd zP65 all2 (w64 ((all2.length : Int) - 1))).2.2.2.2.1), vi ((getd zP65 all2 (w64 ((all2.length : Int) - 1))).2.2.2.2.2)] :: pg2 :: els encP65 Rel65 pg2 65 6 A5 all2.length c5 raw2 all2 :: blk g6 65 #[.slice ((getd rzP65 raw2 (w64 ((all2.length : Int) - 1))).1.1) (((getd zP65 all2 (w64 ((all2.length : Int) - 1))).1).length) ((getd rzP65 raw2 (w64 ((all2.length : Int) - 1))).1.2.2), vi ((getd zP65 all2 (w64 ((all2.length : Int) - 1))).2.1), vi ((getd zP65 all2 (w64 ((all2.length : Int) - 1))).2.2.1), vi ((getd zP65 all2 (w64 ((all2.length : Int) - 1))).2.2.2.1), vi ((getd zP65 all2 (w64 ((all2.length : Int) - 1))).2.2.2.2.1), vi ((getd zP65 all2 (w64 ((all2.length : Int) - 1))).2.2.2.2.2)] :: fs) := hS
   refine ar 3 [] [] [4, 5, 6, 7] [pl 4 (pa g2 0), pl 5 (vi (w64 ((all2.length : Int) - 1))), pl 6 (vi times2), pl 7 (vi e2)] hF hS obs_nil (fun a w hF hS => ?_)
   refine ae [4, 5, 6, 7] [pl 4 (pa g2 0), pl 5 (vi (w64 ((all2.length : Int) - 1))), pl 6 (vi times2), pl 7 (vi e2)] hF rfl (fun hF => ?_)
   refine then_n (wpIn_ret ?_)
   have hld0 := run_loadVarA (P := Try.prog) (t := 65) (cs := #[.slice ((getd rzP65 raw2 (w64 ((all2.length : Int) - 1))).1.1) (((getd zP65 all2 (w64 ((all2.length : Int) - 1))).1).length) ((getd rzP65 raw2 (w64 ((all2.length : Int) - 1))).1.2.2), vi ((getd zP65 all2 (w64 ((all2.length : Int) - 1))).2.1), vi ((getd zP65 all2 (w64 ((all2.length : Int) - 1))).2.2.1), vi ((getd zP65 all2 (w64 ((all2.length : Int) - 1))).2.2.2.1), vi ((getd zP65 all2 (w64 ((all2.length : Int) - 1))).2.2.2.2.1), vi ((getd zP65 all2 (w64 ((all2.length : Int) - 1))).2.2.2.2.2)]) (by kernel_rfl) (by kernel_rfl) ((hS.at_ 0 rfl).cellsAt 0 (by rfl))
   have hS := hS.pickN 4 [1] (by decide)
   have hm : some (((getd zP65 all2 (w64 ((all2.length : Int) - 1))).1), ((getd zP65 all2 (w64 ((all2.length : Int) - 1))).2.1), ((getd zP65 all2 (w64 ((all2.length : Int) - 1))).2.2.1), ((getd zP65 all2 (w64 ((all2.length : Int) - 1))).2.2.2.1), ((getd zP65 all2 (w64 ((all2.length : Int) - 1))).2.2.2.2.1), ((getd zP65 all2 (w64 ((all2.length : Int) - 1))).2.2.2.2.2), (w64 ((all2.length : Int) - 1)), times2, e2) = some r := hm
   obtain rfl := Option.some.inj hm
   exact retV (rs := [.cell 4 65, .tmp 5, .tmp 6, .tmp 7]) (vs := [.agg #[.slice ((getd rzP65 raw2 (w64 ((all2.length : Int) - 1))).1.1) (((getd zP65 all2 (w64 ((all2.length : Int) - 1))).1).length) ((getd rzP65 raw2 (w64 ((all2.length : Int) - 1))).1.2.2), vi ((getd zP65 all2 (w64 ((all2.length : Int) - 1))).2.1), vi ((getd zP65 all2 (w64 ((all2.length : Int) - 1))).2.2.1), vi ((getd zP65 all2 (w64 ((all2.length : Int) - 1))).2.2.2.1), vi ((getd zP65 all2 (w64 ((all2.length : Int) - 1))).2.2.2.2.1), vi ((getd zP65 all2 (w64 ((all2.length : Int) - 1))).2.2.2.2.2)], vi (w64 ((all2.length : Int) - 1)), vi times2, vi e2]) hF rfl (rv_c (by kernel_rfl) hld0 <| rv_t (by kernel_rfl) <| rv_t (by kernel_rfl) <| rv_t (by kernel_rfl) <| rv_nil) rfl ⟨_, rfl, pg2, ((getd rzP65 raw2 (w64 ((all2.length : Int) - 1))).1.1), ((getd rzP65 raw2 (w64 ((all2.length : Int) - 1))).1.2.2), rfl, (PAll.any RelP65 hg2 (w64 ((all2.length : Int) - 1))).1.2.2, (PAll.any RelP65 hg2 (w64 ((all2.length : Int) - 1))).1.2.1, hS⟩
  ·refine rg [] [] [4, 8, 9, 12, 13, 14] [pl 4 (pa g2 0), pl 8 (.slice A5 all2.length c5), pl 9 (vi e2), pl 12 (pa g6 0), pl 13 (vi 0), pl 14 (vi 0)] hF hS obs_nil (fun a w hF hS => ?_)
   refine wpIn_block ?_
   have hS := hS.pickN 4 [1, 2, 3, 0] (by decide)
   refine wp_loop_model (S := (Int × Int)) (R := Int) (rf_PlayMoves_L2 all2) (fun x => ((rf_PlayMoves_K2 all2 e2) x).bind some) r (fun (x : (Int × Int)) a w => Fr 77 [pl 4 (pa g2 0), pl 8 (.slice A5 all2.length c5), pl 9 (vi e2), pl 12 (pa g6 0), pl 13 (vi x.1), pl 14 (vi x.2)] a ∧ Sep w0 B w (blk g2 65 (ca none 0 0 0 0 0 0 0) :: pg2 :: els encP65 Rel65 pg2 65 6 A5 all2.length c5 raw2 all2 :: blk g6 65 #[.slice ((getd rzP65 raw2 (w64 ((all2.length : Int) - 1))).1.1) (((getd zP65 all2 (w64 ((all2.length : Int) - 1))).1).length) ((getd rzP65 raw2 (w64 ((all2.length : Int) - 1))).1.2.2), vi ((getd zP65 all2 (w64 ((all2.length : Int) - 1))).2.1), vi ((getd zP65 all2 (w64 ((all2.length : Int) - 1))).2.2.1), vi ((getd zP65 all2 (w64 ((all2.length : Int) - 1))).2.2.2.1), vi ((getd zP65 all2 (w64 ((all2.length : Int) - 1))).2.2.2.2.1), vi ((getd zP65 all2 (w64 ((all2.length : Int) - 1))).2.2.2.2.2)] :: fs)) (assoc_b hm) ⟨hF.wk [4, 8, 9, 12, 13, 14], hS⟩ ?_
   clear hF hS hm
   rintro nn2 ⟨times1, i2⟩ a w ⟨hF, hS⟩ hm
   generalize hφ2 : stK (rf_PlayMoves_L2 all2) nn2 (fun x => ((rf_PlayMoves_K2 all2 e2) x).bind some) = φ2 at hm
   unfold rf_PlayMoves_L2 at hm
   dsimp only at hF hS hm
   refine seq_cut (fun a w => Fr 77 [pl 4 (pa g2 0), pl 8 (.slice A5 all2.length c5), pl 9 (vi e2), pl 12 (pa g6 0), pl 13 (vi times1), pl 14 (vi i2)] a ∧ Sep w0 B w (blk g2 65 (ca none 0 0 0 0 0 0 0) :: pg2 :: els encP65 Rel65 pg2 65 6 A5 all2.length c5 raw2 all2 :: blk g6 65 #[.slice ((getd rzP65 raw2 (w64 ((all2.length : Int) - 1))).1.1) (((getd zP65 all2 (w64 ((all2.length : Int) - 1))).1).length) ((getd rzP65 raw2 (w64 ((all2.length : Int) - 1))).1.2.2), vi ((getd zP65 all2 (w64 ((all2.length : Int) - 1))).2.1), vi ((getd zP65 all2 (w64 ((all2.length : Int) - 1))).2.2.1), vi ((getd zP65 all2 (w64 ((all2.length : Int) - 1))).2.2.2.1), vi ((getd zP65 all2 (w64 ((all2.length : Int) - 1))).2.2.2.2.1), vi ((getd zP65 all2 (w64 ((all2.length : Int) - 1))).2.2.2.2.2)] :: fs) ∧ ((rf_PlayMoves_J6 all2 times1 i2)).bind φ2 = some r) ?_ ?_
   ·rintro a w ⟨hF, hS, hm⟩
    unfold rf_PlayMoves_J6 at hm
    refine seq_cut (fun a w => ∃ (times3 : Int), Fr 77 [pl 4 (pa g2 0), pl 8 (.slice A5 all2.length c5), pl 9 (vi e2), pl 12 (pa g6 0), pl 13 (vi times3), pl 14 (vi i2)] a ∧ Sep w0 B w (blk g2 65 (ca none 0 0 0 0 0 0 0) :: pg2 :: els encP65 Rel65 pg2 65 6 A5 all2.length c5 raw2 all2 :: blk g6 65 #[.slice ((getd rzP65 raw2 (w64 ((all2.length : Int) - 1))).1.1) (((getd zP65 all2 (w64 ((all2.length : Int) - 1))).1).length) ((getd rzP65 raw2 (w64 ((all2.length : Int) - 1))).1.2.2), vi ((getd zP65 all2 (w64 ((all2.length : Int) - 1))).2.1), vi ((getd zP65 all2 (w64 ((all2.length : Int) - 1))).2.2.1), vi ((getd zP65 all2 (w64 ((all2.length : Int) - 1))).2.2.2.1), vi ((getd zP65 all2 (w64 ((all2.length : Int) - 1))).2.2.2.2.1), vi ((getd zP65 all2 (w64 ((all2.length : Int) - 1))).2.2.2.2.2)] :: fs) ∧ ((rf_PlayMoves_J7 i2) times3).bind φ2 = some r) ?_ ?_
    ·rintro a w ⟨times3, hF, hS, hm⟩
     unfold rf_PlayMoves_J7 at hm
     refine rg1 [] [] [4, 8, 9, 12, 13, 14] [pl 4 (pa g2 0), pl 8 (.slice A5 all2.length c5), pl 9 (vi e2), pl 12 (pa g6 0), pl 13 (vi times3), pl 14 (vi (w64 (i2 + 1)))] hF hS obs_nil (fun a w hF hS => ?_)
     refine then_n ?_
     rw [← hφ2] at hm
     exact ⟨(times3, (w64 (i2 + 1))), ⟨hF.wk [4, 8, 9, 12, 13, 14], hS⟩, hm⟩
    ·refine wpIn_block ?_
     obtain ⟨hp6, hm⟩ := asrt_b hm
     obtain ⟨r5, hr5, hm⟩ := call_b hm
     have hg3 := (hS.at_ 2 rfl).elsAll
     refine rg [⟨true, [], vS (Instr.indexAt 129 (.slice A5 all2.length c5) (vi i2)), .pointer (some (sAddrK A5 6 i2))⟩, ⟨false, [], vS (Instr.loadAt 65 (.pointer (some (sAddrK A5 6 i2)))), .agg #[.slice ((getd rzP65 raw2 i2).1.1) (((getd zP65 all2 i2).1).length) ((getd rzP65 raw2 i2).1.2.2), vi ((getd zP65 all2 i2).2.1), vi ((getd zP65 all2 i2).2.2.1), vi ((getd zP65 all2 i2).2.2.2.1), vi ((getd zP65 all2 i2).2.2.2.2.1), vi ((getd zP65 all2 i2).2.2.2.2.2)]⟩, ⟨false, [], vS (Instr.loadAt 65 (pa g6 0)), .agg #[.slice ((getd rzP65 raw2 (w64 ((all2.length : Int) - 1))).1.1) (((getd zP65 all2 (w64 ((all2.length : Int) - 1))).1).length) ((getd rzP65 raw2 (w64 ((all2.length : Int) - 1))).1.2.2), vi ((getd zP65 all2 (w64 ((all2.length : Int) - 1))).2.1), vi ((getd zP65 all2 (w64 ((all2.length : Int) - 1))).2.2.1), vi ((getd zP65 all2 (w64 ((all2.length : Int) - 1))).2.2.2.1), vi ((getd zP65 all2 (w64 ((all2.length : Int) - 1))).2.2.2.2.1), vi ((getd zP65 all2 (w64 ((all2.length : Int) - 1))).2.2.2.2.2)]⟩, ⟨false, [], callFunc 86 #[.agg #[.slice ((getd rzP65 raw2 i2).1.1) (((getd zP65 all2 i2).1).length) ((getd rzP65 raw2 i2).1.2.2), vi ((getd zP65 all2 i2).2.1), vi ((getd zP65 all2 i2).2.2.1), vi ((getd zP65 all2 i2).2.2.2.1), vi ((getd zP65 all2 i2).2.2.2.2.1), vi ((getd zP65 all2 i2).2.2.2.2.2)], .agg #[.slice ((getd rzP65 raw2 (w64 ((all2.length : Int) - 1))).1.1) (((getd zP65 all2 (w64 ((all2.length : Int) - 1))).1).length) ((getd rzP65 raw2 (w64 ((all2.length : Int) - 1))).1.2.2), vi ((getd zP65 all2 (w64 ((all2.length : Int) - 1))).2.1), vi ((getd zP65 all2 (w64 ((all2.length : Int) - 1))).2.2.1), vi ((getd zP65 all2 (w64 ((all2.length : Int) - 1))).2.2.2.1), vi ((getd zP65 all2 (w64 ((all2.length : Int) - 1))).2.2.2.2.1), vi ((getd zP65 all2 (w64 ((all2.length : Int) - 1))).2.2.2.2.2)]], .bool r5⟩] [none, none, some (.pointer (some (sAddrK A5 6 i2))), some (.agg #[.slice ((getd rzP65 raw2 i2).1.1) (((getd zP65 all2 i2).1).length) ((getd rzP65 raw2 i2).1.2.2), vi ((getd zP65 all2 i2).2.1), vi ((getd zP65 all2 i2).2.2.1), vi ((getd zP65 all2 i2).2.2.2.1), vi ((getd zP65 all2 i2).2.2.2.2.1), vi ((getd zP65 all2 i2).2.2.2.2.2)]), some (.agg #[.slice ((getd rzP65 raw2 (w64 ((all2.length : Int) - 1))).1.1) (((getd zP65 all2 (w64 ((all2.length : Int) - 1))).1).length) ((getd rzP65 raw2 (w64 ((all2.length : Int) - 1))).1.2.2), vi ((getd zP65 all2 (w64 ((all2.length : Int) - 1))).2.1), vi ((getd zP65 all2 (w64 ((all2.length : Int) - 1))).2.2.1), vi ((getd zP65 all2 (w64 ((all2.length : Int) - 1))).2.2.2.1), vi ((getd zP65 all2 (w64 ((all2.length : Int) - 1))).2.2.2.2.1), vi ((getd zP65 all2 (w64 ((all2.length : Int) - 1))).2.2.2.2.2)]), some (.bool r5)] [4, 8, 9, 12, 13, 14, 68] [pl 4 (pa g2 0), pl 8 (.slice A5 all2.length c5), pl 9 (vi e2), pl 12 (pa g6 0), pl 13 (vi times1), pl 14 (vi i2), pl 68 (.bool r5)] hF hS ?_ (fun a w hF hS => ?_)
     ·exact obs_cons (ob_ixK (m := raw2) encPK65 Und129 hi65 hs65 (hS.at_ 2 rfl).rdE ((hS.at_ 2 rfl).lenEr encPK65) (fun _ => hp6)) <| obs_cons (ob_getP (n := all2.length) (raw := raw2) encPK65 rzP65 (by kernel_rfl) (by kernel_rfl) (fun _ hS => ⟨_, (hS.at_ 2 rfl).rdE⟩) (fun _ hS => (hS.at_ 2 rfl).lenEr encPK65) (fun _ => hp6) (val65 (PAll.any RelP65 hg3 i2))) <| obs_cons (ob_loadA (cs := #[.slice ((getd rzP65 raw2 (w64 ((all2.length : Int) - 1))).1.1) (((getd zP65 all2 (w64 ((all2.length : Int) - 1))).1).length) ((getd rzP65 raw2 (w64 ((all2.length : Int) - 1))).1.2.2), vi ((getd zP65 all2 (w64 ((all2.length : Int) - 1))).2.1), vi ((getd zP65 all2 (w64 ((all2.length : Int) - 1))).2.2.1), vi ((getd zP65 all2 (w64 ((all2.length : Int) - 1))).2.2.2.1), vi ((getd zP65 all2 (w64 ((all2.length : Int) - 1))).2.2.2.2.1), vi ((getd zP65 all2 (w64 ((all2.length : Int) - 1))).2.2.2.2.2)]) (by kernel_rfl) (by kernel_rfl) (fun _ _ hS => (hS.at_ 3 rfl).cellsAt 0 (by rfl))) <| obs_cons (ob_call Try.func86 (by kernel_rfl) rfl (fun _ _ hS => rf_sameStand_w hr5 hS (fun _ hS => ((PAll.any RelP65 hg3 i2).1.2.2.at_ hS 1 rfl)) (PAll.any RelP65 hg3 i2).1.2.1 rfl (fun _ hS => ((PAll.any RelP65 hg2 (w64 ((all2.length : Int) - 1))).1.2.2.at_ hS 1 rfl)) (PAll.any RelP65 hg2 (w64 ((all2.length : Int) - 1))).1.2.1 rfl)) <| obs_nil
     refine ce (t := 68) (b := r5) hF (fun hb => ?_) (fun hb => ?_)
     ·replace hm := if_t hm hb
      refine rg1 [] [] [4, 8, 9, 12, 13, 14] [pl 4 (pa g2 0), pl 8 (.slice A5 all2.length c5), pl 9 (vi e2), pl 12 (pa g6 0), pl 13 (vi (w64 (times1 + 1))), pl 14 (vi i2)] hF hS obs_nil (fun a w hF hS => ?_)
      refine block_n ?_
      refine then_n ?_
      exact ⟨(w64 (times1 + 1)), hF.wk [4, 8, 9, 12, 13, 14], hS, hm⟩
     ·replace hm := if_f hm hb
      refine wpIn_skip ?_
      refine block_n ?_
      refine then_n ?_
      exact ⟨times1, hF.wk [4, 8, 9, 12, 13, 14], hS, hm⟩
   ·refine rg [] [] [4, 8, 9, 12, 13, 14, 60] [pl 4 (pa g2 0), pl 8 (.slice A5 all2.length c5), pl 9 (vi e2), pl 12 (pa g6 0), pl 13 (vi times1), pl 14 (vi i2), pl 60 (.bool (decide (i2 < (all2.length : Int))))] hF hS obs_nil (fun a w hF hS => ?_)
    refine ce (t := 60) (b := decide (i2 < (all2.length : Int))) hF (fun hb => ?_) (fun hb => ?_)
    ·replace hm := if_t hm hb
     refine wpIn_skip ?_
     refine then_n ?_
     exact ⟨hF.wk [4, 8, 9, 12, 13, 14], hS, hm⟩
    ·replace hm := if_f hm hb
     refine wpIn_exit ?_
     refine then_e (then_e (block_e (then_n ?_)))
     rw [← hφ2] at hm
     replace hm := done_b hm
     unfold rf_PlayMoves_K2 at hm
     try dsimp only at hm
     have hm : ((rf_PlayMoves_J5 all2 e2) times1).bind some = some r := hm
     exact ⟨times1, hF.wk [4, 8, 9, 12, 13], hS, hm⟩
 ·refine rg [] [] [1, 4, 8, 9, 10] [pl 1 (.slice A2 l1.length c2), pl 4 (pa g2 0), pl 8 (.slice g3 1 1), pl 9 (vi 0), pl 10 (vi 0)] hF hS obs_nil (fun a w hF hS => ?_)
  refine wpIn_block ?_
  have hl1 := (hS.at_ 0 rfl).lenE encPK65
  have hS := (hS.at_ 0 rfl).reNE hl1
  have hS : Sep w0 B w (els encP65 Rel65 (twoB (own 3 (.slice A3 r1.1.length c3) (vI r1.1)) noB) 65 6 g3 (([r1] : List ChT).length) 1 ([((A3, r1.1.length, c3), r1.2.1, r1.2.2.1, r1.2.2.2.1, r1.2.2.2.2.1, r1.2.2.2.2.2)] : List (Hd3 × Int × Int × Int × Int × Int)) ([r1] : List ChT) :: (twoB (own 3 (.slice A3 r1.1.length c3) (vI r1.1)) noB) :: blk g2 65 (ca none 0 0 0 0 0 0 0) :: blk g1 65 (ca A1 p1.length c1 p2 p3 p4 p5 p6) :: fs) := hS
  have hF := hF.cast (t := 8) (v := .slice g3 1 1) (v' := .slice g3 (([r1] : List ChT).length) 1) rfl rfl (congrArg (fun k => Value.slice g3 k 1) hl1)
  have hS := hS.pickN 4 [2, 1, 0] (by decide)
  refine wp_loop_model (S := (List ChT × Int × Int)) (R := (List ChT × Int)) (rf_PlayMoves_L1 l1) (fun x => (rf_PlayMoves_K1 x).bind some) r (fun (x : (List ChT × Int × Int)) a w => ∃ (pg1 : HP) (raw1 : List (Hd3 × Int × Int × Int × Int × Int)) (A4 : Option Addr) (c4 : Nat), Fr 77 [pl 1 (.slice A2 l1.length c2), pl 4 (pa g2 0), pl 8 (.slice A4 x.1.length c4), pl 9 (vi x.2.1), pl 10 (vi x.2.2)] a ∧ Sep w0 B w (blk g2 65 (ca none 0 0 0 0 0 0 0) :: pg1 :: els encP65 Rel65 pg1 65 6 A4 x.1.length c4 raw1 x.1 :: fs)) (assoc_b hm) ⟨(twoB (own 3 (.slice A3 r1.1.length c3) (vI r1.1)) noB), ([((A3, r1.1.length, c3), r1.2.1, r1.2.2.1, r1.2.2.2.1, r1.2.2.2.2.1, r1.2.2.2.2.2)] : List (Hd3 × Int × Int × Int × Int × Int)), g3, 1, hF.wk [1, 4, 8, 9, 10], hS⟩ ?_
  clear hF hS hm
  rintro nn1 ⟨all1, e1, i1⟩ a w ⟨pg1, raw1, A4, c4, hF, hS⟩ hm
  generalize hφ1 : stK (rf_PlayMoves_L1 l1) nn1 (fun x => (rf_PlayMoves_K1 x).bind some) = φ1 at hm
  unfold rf_PlayMoves_L1 at hm
  dsimp only at hF hS hm
  refine seq_cut (fun a w => Fr 77 [pl 1 (.slice A2 l1.length c2), pl 4 (pa g2 0), pl 8 (.slice A4 all1.length c4), pl 9 (vi e1), pl 10 (vi i1)] a ∧ Sep w0 B w (blk g2 65 (ca none 0 0 0 0 0 0 0) :: pg1 :: els encP65 Rel65 pg1 65 6 A4 all1.length c4 raw1 all1 :: fs) ∧ ((rf_PlayMoves_J2 l1 all1 e1 i1)).bind φ1 = some r) ?_ ?_
  ·rintro a w ⟨hF, hS, hm⟩
   unfold rf_PlayMoves_J2 at hm
   refine seq_cut (fun a w => ∃ (all3 : List ChT) (e3 : Int) (pg3 : HP) (raw3 : List (Hd3 × Int × Int × Int × Int × Int)) (A8 : Option Addr) (c8 : Nat), Fr 77 [pl 1 (.slice A2 l1.length c2), pl 4 (pa g2 0), pl 8 (.slice A8 all3.length c8), pl 9 (vi e3), pl 10 (vi i1)] a ∧ Sep w0 B w (blk g2 65 (ca none 0 0 0 0 0 0 0) :: pg3 :: els encP65 Rel65 pg3 65 6 A8 all3.length c8 raw3 all3 :: fs) ∧ ((rf_PlayMoves_J3 i1) all3 e3).bind φ1 = some r) ?_ ?_
   ·rintro a w ⟨all3, e3, pg3, raw3, A8, c8, hF, hS, hm⟩
    unfold rf_PlayMoves_J3 at hm
    refine rg1 [] [] [1, 4, 8, 9, 10] [pl 1 (.slice A2 l1.length c2), pl 4 (pa g2 0), pl 8 (.slice A8 all3.length c8), pl 9 (vi e3), pl 10 (vi (w64 (i1 + 1)))] hF hS obs_nil (fun a w hF hS => ?_)
    refine then_n ?_
    rw [← hφ1] at hm
    exact ⟨(all3, e3, (w64 (i1 + 1))), ⟨pg3, raw3, A8, c8, hF.wk [1, 4, 8, 9, 10], hS⟩, hm⟩
   ·refine wpIn_block ?_
    refine seqR ?_
    obtain ⟨hp1, hm⟩ := asrt_b hm
    have hg1 := (hS.at_ 2 rfl).elsAll
    refine ar 6 [⟨true, [], vS (Instr.indexAt 129 (.slice A4 all1.length c4) (vi (w64 ((all1.length : Int) - 1)))), .pointer (some (sAddrK A4 6 (w64 ((all1.length : Int) - 1))))⟩, ⟨false, [], vS (Instr.loadAt 65 (.pointer (some (sAddrK A4 6 (w64 ((all1.length : Int) - 1)))))), .agg #[.slice ((getd rzP65 raw1 (w64 ((all1.length : Int) - 1))).1.1) (((getd zP65 all1 (w64 ((all1.length : Int) - 1))).1).length) ((getd rzP65 raw1 (w64 ((all1.length : Int) - 1))).1.2.2), vi ((getd zP65 all1 (w64 ((all1.length : Int) - 1))).2.1), vi ((getd zP65 all1 (w64 ((all1.length : Int) - 1))).2.2.1), vi ((getd zP65 all1 (w64 ((all1.length : Int) - 1))).2.2.2.1), vi ((getd zP65 all1 (w64 ((all1.length : Int) - 1))).2.2.2.2.1), vi ((getd zP65 all1 (w64 ((all1.length : Int) - 1))).2.2.2.2.2)]⟩] [none, none, none, none, some (.pointer (some (sAddrK A4 6 (w64 ((all1.length : Int) - 1))))), some (.agg #[.slice ((getd rzP65 raw1 (w64 ((all1.length : Int) - 1))).1.1) (((getd zP65 all1 (w64 ((all1.length : Int) - 1))).1).length) ((getd rzP65 raw1 (w64 ((all1.length : Int) - 1))).1.2.2), vi ((getd zP65 all1 (w64 ((all1.length : Int) - 1))).2.1), vi ((getd zP65 all1 (w64 ((all1.length : Int) - 1))).2.2.1), vi ((getd zP65 all1 (w64 ((all1.length : Int) - 1))).2.2.2.1), vi ((getd zP65 all1 (w64 ((all1.length : Int) - 1))).2.2.2.2.1), vi ((getd zP65 all1 (w64 ((all1.length : Int) - 1))).2.2.2.2.2)])] [1, 4, 8, 9, 10, 33] [pl 1 (.slice A2 l1.length c2), pl 4 (pa g2 0), pl 8 (.slice A4 all1.length c4), pl 9 (vi e1), pl 10 (vi i1), pl 33 (.agg #[.slice ((getd rzP65 raw1 (w64 ((all1.length : Int) - 1))).1.1) (((getd zP65 all1 (w64 ((all1.length : Int) - 1))).1).length) ((getd rzP65 raw1 (w64 ((all1.length : Int) - 1))).1.2.2), vi ((getd zP65 all1 (w64 ((all1.length : Int) - 1))).2.1), vi ((getd zP65 all1 (w64 ((all1.length : Int) - 1))).2.2.1), vi ((getd zP65 all1 (w64 ((all1.length : Int) - 1))).2.2.2.1), vi ((getd zP65 all1 (w64 ((all1.length : Int) - 1))).2.2.2.2.1), vi ((getd zP65 all1 (w64 ((all1.length : Int) - 1))).2.2.2.2.2)])] hF hS ?_ (fun a w hF hS => ?_)
    ·exact obs_cons (ob_ixK (m := raw1) encPK65 Und129 hi65 hs65 (hS.at_ 2 rfl).rdE ((hS.at_ 2 rfl).lenEr encPK65) (fun _ => hp1)) <| obs_cons (ob_getP (n := all1.length) (raw := raw1) encPK65 rzP65 (by kernel_rfl) (by kernel_rfl) (fun _ hS => ⟨_, (hS.at_ 2 rfl).rdE⟩) (fun _ hS => (hS.at_ 2 rfl).lenEr encPK65) (fun _ => hp1) (val65 (PAll.any RelP65 hg1 (w64 ((all1.length : Int) - 1))))) <| obs_nil
    refine at_do (d := 11) (s := vS (Instr.alloc 65 true (.tuple #[]))) (v := pa w.heap.size 0) (w' := w.alloc (.cells (ca none 0 0 0 0 0 0 0) 65)) hF (by kernel_rfl) (by kernel_rfl) (by kernel_rfl) (fun a hF => ?_)
    have hS : Sep w0 B (w.alloc (.cells (ca none 0 0 0 0 0 0 0) 65)) (blk w.heap.size 65 (ca none 0 0 0 0 0 0 0) :: (blk g2 65 (ca none 0 0 0 0 0 0 0) :: pg1 :: els encP65 Rel65 pg1 65 6 A4 all1.length c4 raw1 all1 :: fs)) := hS.box 65 (ca none 0 0 0 0 0 0 0)
    generalize w.heap.size = g4 at hF hS
    generalize w.alloc (.cells (ca none 0 0 0 0 0 0 0) 65) = w at hS ⊢
    obtain ⟨w, hrun, hS⟩ := run_putA (P := Try.prog) (t := 65) (us := #[.slice ((getd rzP65 raw1 (w64 ((all1.length : Int) - 1))).1.1) (((getd zP65 all1 (w64 ((all1.length : Int) - 1))).1).length) ((getd rzP65 raw1 (w64 ((all1.length : Int) - 1))).1.2.2), vi ((getd zP65 all1 (w64 ((all1.length : Int) - 1))).2.1), vi ((getd zP65 all1 (w64 ((all1.length : Int) - 1))).2.2.1), vi ((getd zP65 all1 (w64 ((all1.length : Int) - 1))).2.2.2.1), vi ((getd zP65 all1 (w64 ((all1.length : Int) - 1))).2.2.2.2.1), vi ((getd zP65 all1 (w64 ((all1.length : Int) - 1))).2.2.2.2.2)]) (o := 0) (hS.at_ 0 rfl) (by kernel_rfl) (all_one (by kernel_rfl)) (Nat.le_of_ble_eq_true (by kernel_rfl))
    refine at_s hF hrun ?_
    have hS : Sep w0 B w (blk g4 65 #[.slice ((getd rzP65 raw1 (w64 ((all1.length : Int) - 1))).1.1) (((getd zP65 all1 (w64 ((all1.length : Int) - 1))).1).length) ((getd rzP65 raw1 (w64 ((all1.length : Int) - 1))).1.2.2), vi ((getd zP65 all1 (w64 ((all1.length : Int) - 1))).2.1), vi ((getd zP65 all1 (w64 ((all1.length : Int) - 1))).2.2.1), vi ((getd zP65 all1 (w64 ((all1.length : Int) - 1))).2.2.2.1), vi ((getd zP65 all1 (w64 ((all1.length : Int) - 1))).2.2.2.2.1), vi ((getd zP65 all1 (w64 ((all1.length : Int) - 1))).2.2.2.2.2)] :: blk g2 65 (ca none 0 0 0 0 0 0 0) :: pg1 :: els encP65 Rel65 pg1 65 6 A4 all1.length c4 raw1 all1 :: fs) := hS
    refine ae [1, 4, 8, 9, 10, 11] [pl 1 (.slice A2 l1.length c2), pl 4 (pa g2 0), pl 8 (.slice A4 all1.length c4), pl 9 (vi e1), pl 10 (vi i1), pl 11 (pa g4 0)] hF rfl (fun hF => ?_)
    refine then_n ?_
    refine seq_cut (fun a w => ∃ (z1 : Bool), Fr 77 [pl 1 (.slice A2 l1.length c2), pl 4 (pa g2 0), pl 8 (.slice A4 all1.length c4), pl 9 (vi e1), pl 10 (vi i1), pl 11 (pa g4 0), pl 41 (.bool z1)] a ∧ Sep w0 B w (blk g2 65 (ca none 0 0 0 0 0 0 0) :: pg1 :: els encP65 Rel65 pg1 65 6 A4 all1.length c4 raw1 all1 :: blk g4 65 #[.slice ((getd rzP65 raw1 (w64 ((all1.length : Int) - 1))).1.1) (((getd zP65 all1 (w64 ((all1.length : Int) - 1))).1).length) ((getd rzP65 raw1 (w64 ((all1.length : Int) - 1))).1.2.2), vi ((getd zP65 all1 (w64 ((all1.length : Int) - 1))).2.1), vi ((getd zP65 all1 (w64 ((all1.length : Int) - 1))).2.2.1), vi ((getd zP65 all1 (w64 ((all1.length : Int) - 1))).2.2.2.1), vi ((getd zP65 all1 (w64 ((all1.length : Int) - 1))).2.2.2.2.1), vi ((getd zP65 all1 (w64 ((all1.length : Int) - 1))).2.2.2.2.2)] :: fs) ∧ ((rf_PlayMoves_J4 l1 all1 e1 i1) z1).bind φ1 = some r) ?_ ?_
    ·rintro a w ⟨z1, hF, hS, hm⟩
     unfold rf_PlayMoves_J4 at hm
     refine ce (t := 41) (b := z1) hF (fun hb => ?_) (fun hb => ?_)
     ·replace hm := if_t hm hb
      refine rg1 [] [] [1, 4, 8, 9, 10] [pl 1 (.slice A2 l1.length c2), pl 4 (pa g2 0), pl 8 (.slice A4 all1.length c4), pl 9 (vi 8), pl 10 (vi i1)] hF hS obs_nil (fun a w hF hS => ?_)
      refine block_n ?_
      refine then_n ?_
      have hS := hS.pickN 4 [0, 1, 2] (by decide)
      exact ⟨all1, 8, pg1, raw1, A4, c4, hF.wk [1, 4, 8, 9, 10], hS, hm⟩
     ·replace hm := if_f hm hb
      obtain ⟨hp3, hm⟩ := asrt_b hm
      obtain ⟨r4, hr4, hm⟩ := call_b hm
      obtain ⟨hp4, hm⟩ := asrt_b hm
      refine regMix4 [0, 1, 2, 3, 4, 5] [6, 7, 8, 9] [⟨false, [], vS (Instr.loadAt 65 (pa g4 0)), .agg #[.slice ((getd rzP65 raw1 (w64 ((all1.length : Int) - 1))).1.1) (((getd zP65 all1 (w64 ((all1.length : Int) - 1))).1).length) ((getd rzP65 raw1 (w64 ((all1.length : Int) - 1))).1.2.2), vi ((getd zP65 all1 (w64 ((all1.length : Int) - 1))).2.1), vi ((getd zP65 all1 (w64 ((all1.length : Int) - 1))).2.2.1), vi ((getd zP65 all1 (w64 ((all1.length : Int) - 1))).2.2.2.1), vi ((getd zP65 all1 (w64 ((all1.length : Int) - 1))).2.2.2.2.1), vi ((getd zP65 all1 (w64 ((all1.length : Int) - 1))).2.2.2.2.2)]⟩, ⟨true, [], vS (Instr.indexAt 66 (.slice A2 l1.length c2) (vi i1)), .pointer (some (sAddrK A2 3 i1))⟩, ⟨false, [], vS (Instr.loadAt 126 (.pointer (some (sAddrK A2 3 i1)))), .agg #[vi ((getd ((0, 0, 0) : MvT) l1 i1).1), vi ((getd ((0, 0, 0) : MvT) l1 i1).2.1), vi ((getd ((0, 0, 0) : MvT) l1 i1).2.2)]⟩] [none, some (.agg #[.slice ((getd rzP65 raw1 (w64 ((all1.length : Int) - 1))).1.1) (((getd zP65 all1 (w64 ((all1.length : Int) - 1))).1).length) ((getd rzP65 raw1 (w64 ((all1.length : Int) - 1))).1.2.2), vi ((getd zP65 all1 (w64 ((all1.length : Int) - 1))).2.1), vi ((getd zP65 all1 (w64 ((all1.length : Int) - 1))).2.2.1), vi ((getd zP65 all1 (w64 ((all1.length : Int) - 1))).2.2.2.1), vi ((getd zP65 all1 (w64 ((all1.length : Int) - 1))).2.2.2.2.1), vi ((getd zP65 all1 (w64 ((all1.length : Int) - 1))).2.2.2.2.2)]), none, none, some (.pointer (some (sAddrK A2 3 i1))), some (.agg #[vi ((getd ((0, 0, 0) : MvT) l1 i1).1), vi ((getd ((0, 0, 0) : MvT) l1 i1).2.1), vi ((getd ((0, 0, 0) : MvT) l1 i1).2.2)])] [1, 4, 9, 10, 42, 43, 47] [pl 1 (.slice A2 l1.length c2), pl 4 (pa g2 0), pl 9 (vi e1), pl 10 (vi i1), pl 42 (.slice A4 all1.length c4), pl 43 (.agg #[.slice ((getd rzP65 raw1 (w64 ((all1.length : Int) - 1))).1.1) (((getd zP65 all1 (w64 ((all1.length : Int) - 1))).1).length) ((getd rzP65 raw1 (w64 ((all1.length : Int) - 1))).1.2.2), vi ((getd zP65 all1 (w64 ((all1.length : Int) - 1))).2.1), vi ((getd zP65 all1 (w64 ((all1.length : Int) - 1))).2.2.1), vi ((getd zP65 all1 (w64 ((all1.length : Int) - 1))).2.2.2.1), vi ((getd zP65 all1 (w64 ((all1.length : Int) - 1))).2.2.2.2.1), vi ((getd zP65 all1 (w64 ((all1.length : Int) - 1))).2.2.2.2.2)]), pl 47 (.agg #[vi ((getd ((0, 0, 0) : MvT) l1 i1).1), vi ((getd ((0, 0, 0) : MvT) l1 i1).2.1), vi ((getd ((0, 0, 0) : MvT) l1 i1).2.2)])] hF hS Fol (by kernel_rfl) (by kernel_rfl) (by kernel_rfl) (by kernel_rfl) (by kernel_rfl) ?_ (fun a w hF hS => ?_)
      ·exact obs_cons (ob_loadA (cs := #[.slice ((getd rzP65 raw1 (w64 ((all1.length : Int) - 1))).1.1) (((getd zP65 all1 (w64 ((all1.length : Int) - 1))).1).length) ((getd rzP65 raw1 (w64 ((all1.length : Int) - 1))).1.2.2), vi ((getd zP65 all1 (w64 ((all1.length : Int) - 1))).2.1), vi ((getd zP65 all1 (w64 ((all1.length : Int) - 1))).2.2.1), vi ((getd zP65 all1 (w64 ((all1.length : Int) - 1))).2.2.2.1), vi ((getd zP65 all1 (w64 ((all1.length : Int) - 1))).2.2.2.2.1), vi ((getd zP65 all1 (w64 ((all1.length : Int) - 1))).2.2.2.2.2)]) (by kernel_rfl) (by kernel_rfl) (fun _ _ hS => (hS.at_ 3 rfl).cellsAt 0 (by rfl))) <| obs_cons (ob_ixK (m := l1) encK126 Und66 hi126 hs126 (hr_l1 _ (hS.dropN 4)) rfl (fun _ => hp3)) <| obs_cons (ob_getK (n := l1.length) (m := l1) encK126 ((0, 0, 0) : MvT) (by kernel_rfl) (by kernel_rfl) (fun _ hS => ⟨_, (hr_l1 _ (hS.dropN 4))⟩) (fun _ hS => rfl) (fun _ => hp3)) <| obs_nil
      refine at_call (f := 85) (args := #[.agg #[.slice ((getd rzP65 raw1 (w64 ((all1.length : Int) - 1))).1.1) (((getd zP65 all1 (w64 ((all1.length : Int) - 1))).1).length) ((getd rzP65 raw1 (w64 ((all1.length : Int) - 1))).1.2.2), vi ((getd zP65 all1 (w64 ((all1.length : Int) - 1))).2.1), vi ((getd zP65 all1 (w64 ((all1.length : Int) - 1))).2.2.1), vi ((getd zP65 all1 (w64 ((all1.length : Int) - 1))).2.2.2.1), vi ((getd zP65 all1 (w64 ((all1.length : Int) - 1))).2.2.2.2.1), vi ((getd zP65 all1 (w64 ((all1.length : Int) - 1))).2.2.2.2.2)], .agg #[vi ((getd ((0, 0, 0) : MvT) l1 i1).1), vi ((getd ((0, 0, 0) : MvT) l1 i1).2.1), vi ((getd ((0, 0, 0) : MvT) l1 i1).2.2)]]) (d := 48) hF (by kernel_rfl) (by kernel_rfl) Try.func85 (by kernel_rfl) rfl (rf_MoveDone_w hr4 hS (fun _ hS => ((PAll.any RelP65 hg1 (w64 ((all1.length : Int) - 1))).1.2.2.at_ hS 1 rfl)) (PAll.any RelP65 hg1 (w64 ((all1.length : Int) - 1))).1.2.1 rfl) (fun v a w hR hF => ?_)
      clear hS
      obtain ⟨A9, c9, rfl, hS⟩ := hR
      have hS : Sep w0 B w (own 3 (.slice A9 r4.1.length c9) (vI r4.1) :: blk g2 65 (ca none 0 0 0 0 0 0 0) :: pg1 :: els encP65 Rel65 pg1 65 6 A4 all1.length c4 raw1 all1 :: blk g4 65 #[.slice ((getd rzP65 raw1 (w64 ((all1.length : Int) - 1))).1.1) (((getd zP65 all1 (w64 ((all1.length : Int) - 1))).1).length) ((getd rzP65 raw1 (w64 ((all1.length : Int) - 1))).1.2.2), vi ((getd zP65 all1 (w64 ((all1.length : Int) - 1))).2.1), vi ((getd zP65 all1 (w64 ((all1.length : Int) - 1))).2.2.1), vi ((getd zP65 all1 (w64 ((all1.length : Int) - 1))).2.2.2.1), vi ((getd zP65 all1 (w64 ((all1.length : Int) - 1))).2.2.2.2.1), vi ((getd zP65 all1 (w64 ((all1.length : Int) - 1))).2.2.2.2.2)] :: fs) := hS
      have hc2 := (hS.at_ 0 rfl).cap1
      have hS := hS.pickN 5 [0, 2, 1, 3, 4] (by decide)
      have hS : Sep w0 B w ((twoB (own 3 (.slice A9 r4.1.length c9) (vI r4.1)) pg1) :: blk g2 65 (ca none 0 0 0 0 0 0 0) :: els encP65 Rel65 pg1 65 6 A4 all1.length c4 raw1 all1 :: blk g4 65 #[.slice ((getd rzP65 raw1 (w64 ((all1.length : Int) - 1))).1.1) (((getd zP65 all1 (w64 ((all1.length : Int) - 1))).1).length) ((getd rzP65 raw1 (w64 ((all1.length : Int) - 1))).1.2.2), vi ((getd zP65 all1 (w64 ((all1.length : Int) - 1))).2.1), vi ((getd zP65 all1 (w64 ((all1.length : Int) - 1))).2.2.1), vi ((getd zP65 all1 (w64 ((all1.length : Int) - 1))).2.2.2.1), vi ((getd zP65 all1 (w64 ((all1.length : Int) - 1))).2.2.2.2.1), vi ((getd zP65 all1 (w64 ((all1.length : Int) - 1))).2.2.2.2.2)] :: fs) := hS.two
      have hS : Sep w0 B w ((twoB (own 3 (.slice A9 r4.1.length c9) (vI r4.1)) pg1) :: blk g2 65 (ca none 0 0 0 0 0 0 0) :: els encP65 Rel65 (twoB (own 3 (.slice A9 r4.1.length c9) (vI r4.1)) pg1) 65 6 A4 all1.length c4 raw1 all1 :: blk g4 65 #[.slice ((getd rzP65 raw1 (w64 ((all1.length : Int) - 1))).1.1) (((getd zP65 all1 (w64 ((all1.length : Int) - 1))).1).length) ((getd rzP65 raw1 (w64 ((all1.length : Int) - 1))).1.2.2), vi ((getd zP65 all1 (w64 ((all1.length : Int) - 1))).2.1), vi ((getd zP65 all1 (w64 ((all1.length : Int) - 1))).2.2.1), vi ((getd zP65 all1 (w64 ((all1.length : Int) - 1))).2.2.2.1), vi ((getd zP65 all1 (w64 ((all1.length : Int) - 1))).2.2.2.2.1), vi ((getd zP65 all1 (w64 ((all1.length : Int) - 1))).2.2.2.2.2)] :: fs) := (hS.at_ 2 rfl).elsMono RelP65 PoolLe.right
      refine at_do (d := 49) (s := vS (Instr.buildSlice 129 1 #[(0, .agg (ca A9 r4.1.length c9 r4.2.1 r4.2.2.1 r4.2.2.2.1 r4.2.2.2.2.1 r4.2.2.2.2.2))])) (v := .slice (some ⟨w.heap.size, 0, none⟩) 1 1) (w' := w.alloc (.cells (ca A9 r4.1.length c9 r4.2.1 r4.2.2.1 r4.2.2.2.1 r4.2.2.2.2.1 r4.2.2.2.2.2) 65)) hF (by kernel_rfl) (by kernel_rfl) (by kernel_rfl) (fun a hF => ?_)
      have hS : Sep w0 B (w.alloc (.cells (ca A9 r4.1.length c9 r4.2.1 r4.2.2.1 r4.2.2.2.1 r4.2.2.2.2.1 r4.2.2.2.2.2) 65)) (els encP65 Rel65 (twoB (own 3 (.slice A9 r4.1.length c9) (vI r4.1)) pg1) 65 6 (some (⟨w.heap.size, 0, none⟩ : Addr)) 1 1 ([((A9, r4.1.length, c9), r4.2.1, r4.2.2.1, r4.2.2.2.1, r4.2.2.2.2.1, r4.2.2.2.2.2)] : List (Hd3 × Int × Int × Int × Int × Int)) ([r4] : List ChT) :: ((twoB (own 3 (.slice A9 r4.1.length c9) (vI r4.1)) pg1) :: blk g2 65 (ca none 0 0 0 0 0 0 0) :: els encP65 Rel65 (twoB (own 3 (.slice A9 r4.1.length c9) (vI r4.1)) pg1) 65 6 A4 all1.length c4 raw1 all1 :: blk g4 65 #[.slice ((getd rzP65 raw1 (w64 ((all1.length : Int) - 1))).1.1) (((getd zP65 all1 (w64 ((all1.length : Int) - 1))).1).length) ((getd rzP65 raw1 (w64 ((all1.length : Int) - 1))).1.2.2), vi ((getd zP65 all1 (w64 ((all1.length : Int) - 1))).2.1), vi ((getd zP65 all1 (w64 ((all1.length : Int) - 1))).2.2.1), vi ((getd zP65 all1 (w64 ((all1.length : Int) - 1))).2.2.2.1), vi ((getd zP65 all1 (w64 ((all1.length : Int) - 1))).2.2.2.2.1), vi ((getd zP65 all1 (w64 ((all1.length : Int) - 1))).2.2.2.2.2)] :: fs)) := Sep.ownEls' (l := []) (hS.litK 65 6 (ca A9 r4.1.length c9 r4.2.1 r4.2.2.1 r4.2.2.2.1 r4.2.2.2.2.1 r4.2.2.2.2.2) 1 rfl (by omega)) rfl (PAll.cons ⟨SlR.of (PoolW.own : PoolW (twoB (own 3 (.slice A9 r4.1.length c9) (vI r4.1)) pg1) A9 r4.1) hc2, rfl, rfl, rfl, rfl, rfl⟩ (PAll.nil : PAll Rel65 (twoB (own 3 (.slice A9 r4.1.length c9) (vI r4.1)) pg1) ([] : List (Hd3 × Int × Int × Int × Int × Int)) ([] : List ChT)))
      generalize (some (⟨w.heap.size, 0, none⟩ : Addr)) = g5 at hF hS
      generalize w.alloc (.cells (ca A9 r4.1.length c9 r4.2.1 r4.2.2.1 r4.2.2.2.1 r4.2.2.2.2.1 r4.2.2.2.2.2) 65) = w at hS ⊢
      obtain ⟨A10, c10, w, hrun, hS⟩ := run_appE (P := Try.prog) (t := 129) (ys := ([((A9, r4.1.length, c9), r4.2.1, r4.2.2.1, r4.2.2.2.1, r4.2.2.2.2.1, r4.2.2.2.2.2)] : List (Hd3 × Int × Int × Int × Int × Int))) (my := ([r4] : List ChT)) (A2 := g5) (m2 := 1) (c2 := 1) encPK65 (hS.at_ 3 rfl) (hS.at_ 0 rfl).rdE (hS.at_ 0 rfl).elsAll ((hS.at_ 0 rfl).lenEr encPK65) 129 Und129 hi65 hz65 hs65 rfl (by omega) hp4
      have hS : Sep w0 B w (els encP65 Rel65 (twoB (own 3 (.slice A9 r4.1.length c9) (vI r4.1)) pg1) 65 6 g5 1 1 ([((A9, r4.1.length, c9), r4.2.1, r4.2.2.1, r4.2.2.2.1, r4.2.2.2.2.1, r4.2.2.2.2.2)] : List (Hd3 × Int × Int × Int × Int × Int)) ([r4] : List ChT) :: (twoB (own 3 (.slice A9 r4.1.length c9) (vI r4.1)) pg1) :: blk g2 65 (ca none 0 0 0 0 0 0 0) :: els encP65 Rel65 (twoB (own 3 (.slice A9 r4.1.length c9) (vI r4.1)) pg1) 65 6 A10 ((all1 ++ ([r4] : List ChT)).length) c10 (raw1 ++ ([((A9, r4.1.length, c9), r4.2.1, r4.2.2.1, r4.2.2.2.1, r4.2.2.2.2.1, r4.2.2.2.2.2)] : List (Hd3 × Int × Int × Int × Int × Int))) (all1 ++ ([r4] : List ChT)) :: blk g4 65 #[.slice ((getd rzP65 raw1 (w64 ((all1.length : Int) - 1))).1.1) (((getd zP65 all1 (w64 ((all1.length : Int) - 1))).1).length) ((getd rzP65 raw1 (w64 ((all1.length : Int) - 1))).1.2.2), vi ((getd zP65 all1 (w64 ((all1.length : Int) - 1))).2.1), vi ((getd zP65 all1 (w64 ((all1.length : Int) - 1))).2.2.1), vi ((getd zP65 all1 (w64 ((all1.length : Int) - 1))).2.2.2.1), vi ((getd zP65 all1 (w64 ((all1.length : Int) - 1))).2.2.2.2.1), vi ((getd zP65 all1 (w64 ((all1.length : Int) - 1))).2.2.2.2.2)] :: fs) := hS
      refine ad (d := 50) hF hrun (fun a hF => ?_)
      refine ar 1 [] [] [1, 4, 8, 9, 10] [pl 1 (.slice A2 l1.length c2), pl 4 (pa g2 0), pl 8 (.slice A10 ((all1 ++ ([r4] : List ChT)).length) c10), pl 9 (vi e1), pl 10 (vi i1)] hF hS obs_nil (fun a w hF hS => ?_)
      refine ae [1, 4, 8, 9, 10] [pl 1 (.slice A2 l1.length c2), pl 4 (pa g2 0), pl 8 (.slice A10 ((all1 ++ ([r4] : List ChT)).length) c10), pl 9 (vi e1), pl 10 (vi i1)] hF rfl (fun hF => ?_)
      refine np_n ?_
      refine block_n ?_
      refine then_n ?_
      have hS := hS.pickN 5 [2, 1, 3] (by decide)
      exact ⟨(all1 ++ ([r4] : List ChT)), e1, (twoB (own 3 (.slice A9 r4.1.length c9) (vI r4.1)) pg1), (raw1 ++ ([((A9, r4.1.length, c9), r4.2.1, r4.2.2.1, r4.2.2.2.1, r4.2.2.2.2.1, r4.2.2.2.2.2)] : List (Hd3 × Int × Int × Int × Int × Int))), A10, c10, hF.wk [1, 4, 8, 9, 10], hS, hm⟩
    ·obtain ⟨hp2, hm⟩ := asrt_b hm
     obtain ⟨r2, hr2, hm⟩ := call_b hm
     obtain ⟨r3, hr3, hm⟩ := call_b hm
     refine regMix5 [0, 2, 3, 4, 5] [] 3 #[true, false, true, true, true, true, false, false] [⟨false, [], vS (Instr.loadAt 65 (pa g4 0)), .agg #[.slice ((getd rzP65 raw1 (w64 ((all1.length : Int) - 1))).1.1) (((getd zP65 all1 (w64 ((all1.length : Int) - 1))).1).length) ((getd rzP65 raw1 (w64 ((all1.length : Int) - 1))).1.2.2), vi ((getd zP65 all1 (w64 ((all1.length : Int) - 1))).2.1), vi ((getd zP65 all1 (w64 ((all1.length : Int) - 1))).2.2.1), vi ((getd zP65 all1 (w64 ((all1.length : Int) - 1))).2.2.2.1), vi ((getd zP65 all1 (w64 ((all1.length : Int) - 1))).2.2.2.2.1), vi ((getd zP65 all1 (w64 ((all1.length : Int) - 1))).2.2.2.2.2)]⟩, ⟨true, [], vS (Instr.indexAt 66 (.slice A2 l1.length c2) (vi i1)), .pointer (some (sAddrK A2 3 i1))⟩, ⟨false, [], vS (Instr.loadAt 126 (.pointer (some (sAddrK A2 3 i1)))), .agg #[vi ((getd ((0, 0, 0) : MvT) l1 i1).1), vi ((getd ((0, 0, 0) : MvT) l1 i1).2.1), vi ((getd ((0, 0, 0) : MvT) l1 i1).2.2)]⟩] [some (.agg #[.slice ((getd rzP65 raw1 (w64 ((all1.length : Int) - 1))).1.1) (((getd zP65 all1 (w64 ((all1.length : Int) - 1))).1).length) ((getd rzP65 raw1 (w64 ((all1.length : Int) - 1))).1.2.2), vi ((getd zP65 all1 (w64 ((all1.length : Int) - 1))).2.1), vi ((getd zP65 all1 (w64 ((all1.length : Int) - 1))).2.2.1), vi ((getd zP65 all1 (w64 ((all1.length : Int) - 1))).2.2.2.1), vi ((getd zP65 all1 (w64 ((all1.length : Int) - 1))).2.2.2.2.1), vi ((getd zP65 all1 (w64 ((all1.length : Int) - 1))).2.2.2.2.2)]), none, none, some (.pointer (some (sAddrK A2 3 i1))), some (.agg #[vi ((getd ((0, 0, 0) : MvT) l1 i1).1), vi ((getd ((0, 0, 0) : MvT) l1 i1).2.1), vi ((getd ((0, 0, 0) : MvT) l1 i1).2.2)])] [1, 4, 8, 9, 10, 11, 34, 39] [pl 1 (.slice A2 l1.length c2), pl 4 (pa g2 0), pl 8 (.slice A4 all1.length c4), pl 9 (vi e1), pl 10 (vi i1), pl 11 (pa g4 0), pl 34 (.agg #[.slice ((getd rzP65 raw1 (w64 ((all1.length : Int) - 1))).1.1) (((getd zP65 all1 (w64 ((all1.length : Int) - 1))).1).length) ((getd rzP65 raw1 (w64 ((all1.length : Int) - 1))).1.2.2), vi ((getd zP65 all1 (w64 ((all1.length : Int) - 1))).2.1), vi ((getd zP65 all1 (w64 ((all1.length : Int) - 1))).2.2.1), vi ((getd zP65 all1 (w64 ((all1.length : Int) - 1))).2.2.2.1), vi ((getd zP65 all1 (w64 ((all1.length : Int) - 1))).2.2.2.2.1), vi ((getd zP65 all1 (w64 ((all1.length : Int) - 1))).2.2.2.2.2)]), pl 39 (.agg #[vi ((getd ((0, 0, 0) : MvT) l1 i1).1), vi ((getd ((0, 0, 0) : MvT) l1 i1).2.1), vi ((getd ((0, 0, 0) : MvT) l1 i1).2.2)])] hF hS Fol (by kernel_rfl) (by kernel_rfl) (by kernel_rfl) (by kernel_rfl) ?_ (fun a w hF hS => ?_)
     ·exact obs_cons (ob_loadA (cs := #[.slice ((getd rzP65 raw1 (w64 ((all1.length : Int) - 1))).1.1) (((getd zP65 all1 (w64 ((all1.length : Int) - 1))).1).length) ((getd rzP65 raw1 (w64 ((all1.length : Int) - 1))).1.2.2), vi ((getd zP65 all1 (w64 ((all1.length : Int) - 1))).2.1), vi ((getd zP65 all1 (w64 ((all1.length : Int) - 1))).2.2.1), vi ((getd zP65 all1 (w64 ((all1.length : Int) - 1))).2.2.2.1), vi ((getd zP65 all1 (w64 ((all1.length : Int) - 1))).2.2.2.2.1), vi ((getd zP65 all1 (w64 ((all1.length : Int) - 1))).2.2.2.2.2)]) (by kernel_rfl) (by kernel_rfl) (fun _ _ hS => (hS.at_ 0 rfl).cellsAt 0 (by rfl))) <| obs_cons (ob_ixK (m := l1) encK126 Und66 hi126 hs126 (hr_l1 _ (hS.dropN 4)) rfl (fun _ => hp2)) <| obs_cons (ob_getK (n := l1.length) (m := l1) encK126 ((0, 0, 0) : MvT) (by kernel_rfl) (by kernel_rfl) (fun _ hS => ⟨_, (hr_l1 _ (hS.dropN 4))⟩) (fun _ hS => rfl) (fun _ => hp2)) <| obs_nil
     refine aq [1] (all_cons ?_ all_nil)
     refine ao (listed' := #[true, true, true, true, true, true, false, false]) ?_
     refine at_call (f := 84) (args := #[.agg #[.slice ((getd rzP65 raw1 (w64 ((all1.length : Int) - 1))).1.1) (((getd zP65 all1 (w64 ((all1.length : Int) - 1))).1).length) ((getd rzP65 raw1 (w64 ((all1.length : Int) - 1))).1.2.2), vi ((getd zP65 all1 (w64 ((all1.length : Int) - 1))).2.1), vi ((getd zP65 all1 (w64 ((all1.length : Int) - 1))).2.2.1), vi ((getd zP65 all1 (w64 ((all1.length : Int) - 1))).2.2.2.1), vi ((getd zP65 all1 (w64 ((all1.length : Int) - 1))).2.2.2.2.1), vi ((getd zP65 all1 (w64 ((all1.length : Int) - 1))).2.2.2.2.2)]]) (d := 35) hF (by kernel_rfl) (by kernel_rfl) Try.func84 (by kernel_rfl) rfl (rf_MovesAll_w hr2 hS (fun _ hS => ((PAll.any RelP65 hg1 (w64 ((all1.length : Int) - 1))).1.2.2.at_ hS 2 rfl)) (PAll.any RelP65 hg1 (w64 ((all1.length : Int) - 1))).1.2.1 rfl) (fun v a w hR hF => ?_)
     clear hS
     obtain ⟨A7, c7, rfl, hS⟩ := hR
     have hS : Sep w0 B w (ownK 126 3 A7 r2.length c7 (List.flatMap enc126 r2) :: blk g4 65 #[.slice ((getd rzP65 raw1 (w64 ((all1.length : Int) - 1))).1.1) (((getd zP65 all1 (w64 ((all1.length : Int) - 1))).1).length) ((getd rzP65 raw1 (w64 ((all1.length : Int) - 1))).1.2.2), vi ((getd zP65 all1 (w64 ((all1.length : Int) - 1))).2.1), vi ((getd zP65 all1 (w64 ((all1.length : Int) - 1))).2.2.1), vi ((getd zP65 all1 (w64 ((all1.length : Int) - 1))).2.2.2.1), vi ((getd zP65 all1 (w64 ((all1.length : Int) - 1))).2.2.2.2.1), vi ((getd zP65 all1 (w64 ((all1.length : Int) - 1))).2.2.2.2.2)] :: blk g2 65 (ca none 0 0 0 0 0 0 0) :: pg1 :: els encP65 Rel65 pg1 65 6 A4 all1.length c4 raw1 all1 :: fs) := hS
     refine any_fin rfl (hS.pickN 5 [1, 2, 3, 4] (by decide)) ?_
     refine aq [6] (all_cons ?_ all_nil)
     refine ao (listed' := #[true, true, true, true, true, true, true, false]) ?_
     refine ar 1 [⟨false, [], callFunc 83 #[.slice A7 r2.length c7, .agg #[vi ((getd ((0, 0, 0) : MvT) l1 i1).1), vi ((getd ((0, 0, 0) : MvT) l1 i1).2.1), vi ((getd ((0, 0, 0) : MvT) l1 i1).2.2)]], vi r3⟩] [some (vi r3)] [1, 4, 8, 9, 10, 11, 40] [pl 1 (.slice A2 l1.length c2), pl 4 (pa g2 0), pl 8 (.slice A4 all1.length c4), pl 9 (vi e1), pl 10 (vi i1), pl 11 (pa g4 0), pl 40 (vi r3)] hF hS ?_ (fun a w hF hS => ?_)
     ·exact obs_cons (ob_call Try.func83 (by kernel_rfl) rfl (fun _ _ hS => rf_MoveAt_w hr3 hS (fun _ hS => (hS.at_ 0 rfl).rdK) ((hS.at_ 0 rfl).capK encK126) rfl)) <| obs_nil
     refine any_fin rfl (hS.pickN 5 [1, 2, 3, 4] (by decide)) ?_
     refine aq [7] (all_cons ?_ all_nil)
     refine ao (listed' := #[true, true, true, true, true, true, true, true]) ?_
     refine aw 1 [] [] [1, 4, 8, 9, 10, 11, 41] [pl 1 (.slice A2 l1.length c2), pl 4 (pa g2 0), pl 8 (.slice A4 all1.length c4), pl 9 (vi e1), pl 10 (vi i1), pl 11 (pa g4 0), pl 41 (.bool (decide (r3 < 0)))] hF hS obs_nil (fun a hF => ?_)
     refine any_finI rfl (fun h => h) ?_
     refine any_end (by kernel_rfl) (np_n (then_n ?_))
     have hS := hS.pickN 5 [2, 3, 4, 1] (by decide)
     exact ⟨(decide (r3 < 0)), hF.wk [1, 4, 8, 9, 10, 11, 41], hS, hm⟩
  ·refine rg [] [] [1, 4, 8, 9, 10, 25] [pl 1 (.slice A2 l1.length c2), pl 4 (pa g2 0), pl 8 (.slice A4 all1.length c4), pl 9 (vi e1), pl 10 (vi i1), pl 25 (.bool ((decide (i1 < (l1.length : Int))) && (e1 == 0)))] hF hS obs_nil (fun a w hF hS => ?_)
   refine ce (t := 25) (b := (decide (i1 < (l1.length : Int))) && (e1 == 0)) hF (fun hb => ?_) (fun hb => ?_)
   ·replace hm := if_t hm hb
    refine wpIn_skip ?_
    refine then_n ?_
    exact ⟨hF.wk [1, 4, 8, 9, 10], hS, hm⟩
   ·replace hm := if_f hm hb
    refine wpIn_exit ?_
    refine then_e (then_e (block_e (then_n ?_)))
    rw [← hφ1] at hm
    replace hm := done_b hm
    unfold rf_PlayMoves_K1 at hm
    try dsimp only at hm
    have hm : (rf_PlayMoves_J1 all1 e1).bind some = some r := hm
    exact ⟨all1, e1, pg1, raw1, A4, c4, hF.wk [4, 8, 9], hS, hm⟩

def rf_SameChess_m  (a1 : List Int) (a2 a3 : Int) (a4 a5 a6 : Int) (b1 : List Int) (b2 b3 : Int) (b4 b5 b6 : Int) : Option Bool :=
 (rf_sameInts_m a1 b1).bind fun r1 => some (((((r1 && (a2 == b2)) && (a3 == b3)) && (a4 == b4)) && (a5 == b5)) && (a6 == b6))

theorem rf_SameChess_w  {A1 : Option Addr} {c1 n1 : Nat} {a1 : List Int} {a2 a3 : Int} {a4 a5 a6 : Int} {A2 : Option Addr} {c2 n2 : Nat} {b1 : List Int} {b2 b3 : Int} {b4 b5 b6 : Int} {r : Bool} {w0 w : World} {B : Nat} {fs : List HP} (hm : rf_SameChess_m a1 a2 a3 a4 a5 a6 b1 b2 b3 b4 b5 b6 = some r) (hS : Sep w0 B w (fs)) (hr_a1 : RdF w0 B fs A1 (vI a1)) (_hc_a1 : a1.length ≤ c1) (_hn_a1 : n1 = a1.length) (hr_b1 : RdF w0 B fs A2 (vI b1)) (_hc_b1 : b1.length ≤ c2) (_hn_b1 : n2 = b1.length) :
  Calls Try.prog 34 #[.agg (ca A1 n1 c1 a2 a3 a4 a5 a6), .agg (ca A2 n2 c2 b2 b3 b4 b5 b6)] w fun e w' => e = .returned (.bool r) ∧ Sep w0 B w' (fs) := by
 obtain ⟨i3, hi3, hz3, hs3, hb3⟩ := info_parts Info3
 obtain rfl := _hn_a1
 obtain rfl := _hn_b1
 unfold rf_SameChess_m at hm
 replace hm := start_b hm
 refine enter (l := [.agg (ca A1 a1.length c1 a2 a3 a4 a5 a6), .agg (ca A2 b1.length c2 b2 b3 b4 b5 b6)]) (n := 45) Try.func34 rfl rfl (by simp) (fun a hF => ?_)
 refine seqR ?_
 refine at_do (d := 2) (s := vS (Instr.box 65 (.agg (ca A1 a1.length c1 a2 a3 a4 a5 a6)))) (v := pa w.heap.size 0) (w' := w.alloc (.cells (ca A1 a1.length c1 a2 a3 a4 a5 a6) 65)) hF (by kernel_rfl) (by kernel_rfl) (by kernel_rfl) (fun a hF => ?_)
 have hS : Sep w0 B (w.alloc (.cells (ca A1 a1.length c1 a2 a3 a4 a5 a6) 65)) (blk w.heap.size 65 (ca A1 a1.length c1 a2 a3 a4 a5 a6) :: (fs)) := hS.box 65 (ca A1 a1.length c1 a2 a3 a4 a5 a6)
 generalize w.heap.size = g1 at hF hS
 generalize w.alloc (.cells (ca A1 a1.length c1 a2 a3 a4 a5 a6) 65) = w at hS ⊢
 refine at_do (d := 3) (s := vS (Instr.box 65 (.agg (ca A2 b1.length c2 b2 b3 b4 b5 b6)))) (v := pa w.heap.size 0) (w' := w.alloc (.cells (ca A2 b1.length c2 b2 b3 b4 b5 b6) 65)) hF (by kernel_rfl) (by kernel_rfl) (by kernel_rfl) (fun a hF => ?_)
 have hS : Sep w0 B (w.alloc (.cells (ca A2 b1.length c2 b2 b3 b4 b5 b6) 65)) (blk w.heap.size 65 (ca A2 b1.length c2 b2 b3 b4 b5 b6) :: (blk g1 65 (ca A1 a1.length c1 a2 a3 a4 a5 a6) :: fs)) := hS.box 65 (ca A2 b1.length c2 b2 b3 b4 b5 b6)
 generalize w.heap.size = g2 at hF hS
 generalize w.alloc (.cells (ca A2 b1.length c2 b2 b3 b4 b5 b6) 65) = w at hS ⊢
 refine ar 1 [] [] [2, 3] [pl 2 (pa g1 0), pl 3 (pa g2 0)] hF hS obs_nil (fun a w hF hS => ?_)
 refine ae [2, 3] [pl 2 (pa g1 0), pl 3 (pa g2 0)] hF rfl (fun hF => ?_)
 refine then_n ?_
 obtain ⟨r1, hr1, hm⟩ := call_b hm
 refine rg [⟨false, [], vS (Instr.loadAt 22 (pa g1 0)), .slice A1 a1.length c1⟩, ⟨false, [], vS (Instr.loadAt 22 (pa g2 0)), .slice A2 b1.length c2⟩, ⟨false, [], callFunc 64 #[.slice A1 a1.length c1, .slice A2 b1.length c2], .bool r1⟩, ⟨false, [(r1, true)], vS (Instr.loadAt 3 (pa g1 1)), vi a2⟩, ⟨false, [(r1, true)], vS (Instr.loadAt 3 (pa g2 1)), vi b2⟩, ⟨false, [(r1 && (a2 == b2), true)], vS (Instr.loadAt 3 (pa g1 2)), vi a3⟩, ⟨false, [(r1 && (a2 == b2), true)], vS (Instr.loadAt 3 (pa g2 2)), vi b3⟩, ⟨false, [((r1 && (a2 == b2)) && (a3 == b3), true)], vS (Instr.loadAt 3 (pa g1 3)), vi a4⟩, ⟨false, [((r1 && (a2 == b2)) && (a3 == b3), true)], vS (Instr.loadAt 3 (pa g2 3)), vi b4⟩, ⟨false, [(((r1 && (a2 == b2)) && (a3 == b3)) && (a4 == b4), true)], vS (Instr.loadAt 3 (pa g1 4)), vi a5⟩, ⟨false, [(((r1 && (a2 == b2)) && (a3 == b3)) && (a4 == b4), true)], vS (Instr.loadAt 3 (pa g2 4)), vi b5⟩, ⟨false, [((((r1 && (a2 == b2)) && (a3 == b3)) && (a4 == b4)) && (a5 == b5), true)], vS (Instr.loadAt 3 (pa g1 5)), vi a6⟩, ⟨false, [((((r1 && (a2 == b2)) && (a3 == b3)) && (a4 == b4)) && (a5 == b5), true)], vS (Instr.loadAt 3 (pa g2 5)), vi b6⟩] [none, some (.slice A1 a1.length c1), none, some (.slice A2 b1.length c2), some (.bool r1), none, none, some (vi a2), none, some (vi b2), none, none, none, none, some (vi a3), none, some (vi b3), none, none, none, none, some (vi a4), none, some (vi b4), none, none, none, none, some (vi a5), none, some (vi b5), none, none, none, none, some (vi a6), none, some (vi b6), none, none, none] [4] [pl 4 (.bool (((((r1 && (a2 == b2)) && (a3 == b3)) && (a4 == b4)) && (a5 == b5)) && (a6 == b6)))] hF hS ?_ (fun a w hF hS => ?_)
 ·exact obs_cons (ob_load Agg22 (fun _ _ hS => (hS.at_ 1 rfl).cell rfl)) <| obs_cons (ob_load Agg22 (fun _ _ hS => (hS.at_ 0 rfl).cell rfl)) <| obs_cons (ob_call Try.func64 (by kernel_rfl) rfl (fun _ _ hS => rf_sameInts_w hr1 hS (fun _ hS => (hr_a1 _ (hS.dropN 2))) _hc_a1 rfl (fun _ hS => (hr_b1 _ (hS.dropN 2))) _hc_b1 rfl)) <| obs_cons (ob_load Agg3 (fun _ _ hS => (hS.at_ 1 rfl).cell rfl)) <| obs_cons (ob_load Agg3 (fun _ _ hS => (hS.at_ 0 rfl).cell rfl)) <| obs_cons (ob_load Agg3 (fun _ _ hS => (hS.at_ 1 rfl).cell rfl)) <| obs_cons (ob_load Agg3 (fun _ _ hS => (hS.at_ 0 rfl).cell rfl)) <| obs_cons (ob_load Agg3 (fun _ _ hS => (hS.at_ 1 rfl).cell rfl)) <| obs_cons (ob_load Agg3 (fun _ _ hS => (hS.at_ 0 rfl).cell rfl)) <| obs_cons (ob_load Agg3 (fun _ _ hS => (hS.at_ 1 rfl).cell rfl)) <| obs_cons (ob_load Agg3 (fun _ _ hS => (hS.at_ 0 rfl).cell rfl)) <| obs_cons (ob_load Agg3 (fun _ _ hS => (hS.at_ 1 rfl).cell rfl)) <| obs_cons (ob_load Agg3 (fun _ _ hS => (hS.at_ 0 rfl).cell rfl)) <| obs_nil
 refine wpIn_ret ?_
 have hS := hS.pickN 2 [] (by decide)
 have hm : some (((((r1 && (a2 == b2)) && (a3 == b3)) && (a4 == b4)) && (a5 == b5)) && (a6 == b6)) = some r := hm
 obtain rfl := Option.some.inj hm
 exact retV (rs := [.tmp 4]) (vs := [.bool (((((r1 && (a2 == b2)) && (a3 == b3)) && (a4 == b4)) && (a5 == b5)) && (a6 == b6))]) hF rfl rv1 rfl ⟨rfl, hS⟩

def lw_MovesPlays_J2  (p1 : List Int) (p2 p3 : Int) (p4 p5 p6 : Int) (l1 : List MvT) (r3 : (List Int × Int × Int × Int × Int × Int × Int × Int × Int)) : Option Bool :=
 (rf_PlayMoves_m p1 p2 p3 p4 p5 p6 l1).bind fun r6 => ((if (((r3.2.2.2.2.2.2.2.2 == r6.2.2.2.2.2.2.2.2) && (r3.2.2.2.2.2.2.1 == r6.2.2.2.2.2.2.1)) && (r3.2.2.2.2.2.2.2.1 == r6.2.2.2.2.2.2.2.1)) then rf_SameChess_m r3.1 r3.2.1 r3.2.2.1 r3.2.2.2.1 r3.2.2.2.2.1 r3.2.2.2.2.2.1 r6.1 r6.2.1 r6.2.2.1 r6.2.2.2.1 r6.2.2.2.2.1 r6.2.2.2.2.2.1 else some false)).bind fun r7 => some ((((r3.2.2.2.2.2.2.2.2 == r6.2.2.2.2.2.2.2.2) && (r3.2.2.2.2.2.2.1 == r6.2.2.2.2.2.2.1)) && (r3.2.2.2.2.2.2.2.1 == r6.2.2.2.2.2.2.2.1)) && r7)

def lw_MovesPlays_J1  (p1 : List Int) (p2 p3 : Int) (p4 p5 p6 : Int) (l1 : List MvT) (r3 : (List Int × Int × Int × Int × Int × Int × Int × Int × Int)) (no1 : Int) : Option Bool :=
 if (no1 != 0) then (((if (r3.2.2.2.2.2.2.2.2 == no1) then lw_noChess_m r3.1 r3.2.1 r3.2.2.1 r3.2.2.2.1 r3.2.2.2.2.1 r3.2.2.2.2.2.1 else some false)).bind fun r5 => some ((((r3.2.2.2.2.2.2.2.2 == no1) && r5) && (r3.2.2.2.2.2.2.1 == 0)) && (r3.2.2.2.2.2.2.2.1 == 0))) else ((lw_MovesPlays_J2 p1 p2 p3 p4 p5 p6 l1 r3))

def lw_MovesPlays_m  (p1 : List Int) (p2 p3 : Int) (p4 p5 p6 : Int) (l1 : List MvT) : Option Bool :=
 (rf_ChessOf_m p1 p2 p3 p4 p5 p6).bind fun r1 => (lw_list_m l1).bind fun r2 => (moves_Play_m r1.1 r1.2.1 r1.2.2.1 r1.2.2.2.1 r1.2.2.2.2.1 r1.2.2.2.2.2 r2).bind fun r3 => (rf_ChessMay_m p1 p2 p3 p4 p5 p6).bind fun r4 => if (!r4) then ((lw_MovesPlays_J1 p1 p2 p3 p4 p5 p6 l1 r3) 12) else (if (decide ((200 : Int) < (l1.length : Int))) then ((lw_MovesPlays_J1 p1 p2 p3 p4 p5 p6 l1 r3) 11) else ((lw_MovesPlays_J1 p1 p2 p3 p4 p5 p6 l1 r3) 0))

theorem lw_MovesPlays_w  {A1 : Option Addr} {c1 n1 : Nat} {p1 : List Int} {p2 p3 : Int} {p4 p5 p6 : Int} {A2 : Option Addr} {c2 n2 : Nat} {l1 : List MvT} {r : Bool} {w0 w : World} {B : Nat} {fs : List HP} (hm : lw_MovesPlays_m p1 p2 p3 p4 p5 p6 l1 = some r) (hS : Sep w0 B w (fs)) (hr_p1 : RdF w0 B fs A1 (vI p1)) (_hc_p1 : p1.length ≤ c1) (_hn_p1 : n1 = p1.length) (hr_l1 : RdF w0 B fs A2 ((List.flatMap enc126 l1))) (_hc_l1 : l1.length ≤ c2) (_hn_l1 : n2 = l1.length) :
  Calls Try.prog 6 #[.agg (ca A1 n1 c1 p2 p3 p4 p5 p6), .slice A2 n2 c2] w fun e w' => e = .returned (.bool r) ∧ Sep w0 B w' (fs) := by
 obtain ⟨i3, hi3, hz3, hs3, hb3⟩ := info_parts Info3
 obtain ⟨i126, hi126, hz126, hs126, hb126⟩ := info_parts Info126
 obtain rfl := _hn_p1
 obtain rfl := _hn_l1
 unfold lw_MovesPlays_m at hm
 replace hm := start_b hm
 refine enter (l := [.agg (ca A1 p1.length c1 p2 p3 p4 p5 p6), .slice A2 l1.length c2]) (n := 73) Try.func6 rfl rfl (by simp) (fun a hF => ?_)
 refine seqR ?_
 refine at_do (d := 2) (s := vS (Instr.box 65 (.agg (ca A1 p1.length c1 p2 p3 p4 p5 p6)))) (v := pa w.heap.size 0) (w' := w.alloc (.cells (ca A1 p1.length c1 p2 p3 p4 p5 p6) 65)) hF (by kernel_rfl) (by kernel_rfl) (by kernel_rfl) (fun a hF => ?_)
 have hS : Sep w0 B (w.alloc (.cells (ca A1 p1.length c1 p2 p3 p4 p5 p6) 65)) (blk w.heap.size 65 (ca A1 p1.length c1 p2 p3 p4 p5 p6) :: (fs)) := hS.box 65 (ca A1 p1.length c1 p2 p3 p4 p5 p6)
 generalize w.heap.size = g1 at hF hS
 generalize w.alloc (.cells (ca A1 p1.length c1 p2 p3 p4 p5 p6) 65) = w at hS ⊢
 refine ar 1 [] [] [1, 2] [pl 1 (.slice A2 l1.length c2), pl 2 (pa g1 0)] hF hS obs_nil (fun a w hF hS => ?_)
 refine ae [1, 2] [pl 1 (.slice A2 l1.length c2), pl 2 (pa g1 0)] hF rfl (fun hF => ?_)
 refine then_n (seqR ?_)
 obtain ⟨r1, hr1, hm⟩ := call_b hm
 obtain ⟨r2, hr2, hm⟩ := call_b hm
 obtain ⟨r3, hr3, hm⟩ := call_b hm
 refine ar 1 [⟨false, [], vS (Instr.loadAt 65 (pa g1 0)), .agg (ca A1 p1.length c1 p2 p3 p4 p5 p6)⟩] [some (.agg (ca A1 p1.length c1 p2 p3 p4 p5 p6))] [1, 2, 15] [pl 1 (.slice A2 l1.length c2), pl 2 (pa g1 0), pl 15 (.agg (ca A1 p1.length c1 p2 p3 p4 p5 p6))] hF hS ?_ (fun a w hF hS => ?_)
 ·exact obs_cons (oA (cs := (ca A1 p1.length c1 p2 p3 p4 p5 p6)) (fun _ _ hS => (hS.at_ 0 rfl).cellsAt 0 (by rfl))) <| obs_nil
 refine at_call (f := 29) (args := #[.agg (ca A1 p1.length c1 p2 p3 p4 p5 p6)]) (d := 16) hF (by kernel_rfl) (by kernel_rfl) Try.func29 (by kernel_rfl) rfl (rf_ChessOf_w hr1 hS (fun _ hS => (hr_p1 _ (hS.dropN 1))) _hc_p1 rfl) (fun v a w hR hF => ?_)
 clear hS
 obtain ⟨A3, c3, rfl, hS⟩ := hR
 have hS : Sep w0 B w (own 3 (.slice A3 r1.1.length c3) (vI r1.1) :: blk g1 65 (ca A1 p1.length c1 p2 p3 p4 p5 p6) :: fs) := hS
 refine ar 1 [] [] [1, 2, 16, 17] [pl 1 (.slice A2 l1.length c2), pl 2 (pa g1 0), pl 16 (.agg (ca A3 r1.1.length c3 r1.2.1 r1.2.2.1 r1.2.2.2.1 r1.2.2.2.2.1 r1.2.2.2.2.2)), pl 17 (.slice A2 l1.length c2)] hF hS obs_nil (fun a w hF hS => ?_)
 refine at_call (f := 30) (args := #[.slice A2 l1.length c2]) (d := 18) hF (by kernel_rfl) (by kernel_rfl) Try.func30 (by kernel_rfl) rfl (lw_list_w hr2 hS (fun _ hS => (hr_l1 _ (hS.dropN 2))) _hc_l1 rfl) (fun v a w hR hF => ?_)
 clear hS
 obtain ⟨A4, c4, rfl, hS⟩ := hR
 have hS : Sep w0 B w (ownK 126 3 A4 r2.length c4 (List.flatMap enc126 r2) :: own 3 (.slice A3 r1.1.length c3) (vI r1.1) :: blk g1 65 (ca A1 p1.length c1 p2 p3 p4 p5 p6) :: fs) := hS
 refine at_call (f := 28) (args := #[.agg (ca A3 r1.1.length c3 r1.2.1 r1.2.2.1 r1.2.2.2.1 r1.2.2.2.2.1 r1.2.2.2.2.2), .slice A4 r2.length c4]) (d := 19) hF (by kernel_rfl) (by kernel_rfl) Try.func28 (by kernel_rfl) rfl (moves_Play_w hr3 hS (fun _ hS => (hS.at_ 1 rfl).rd) ((hS.at_ 1 rfl).cap1) rfl (fun _ hS => (hS.at_ 0 rfl).rdK) ((hS.at_ 0 rfl).capK encK126) rfl) (fun v a w hR hF => ?_)
 clear hS
 obtain ⟨A5, c5, rfl, hS⟩ := hR
 have hS : Sep w0 B w (own 3 (.slice A5 r3.1.length c5) (vI r3.1) :: ownK 126 3 A4 r2.length c4 (List.flatMap enc126 r2) :: own 3 (.slice A3 r1.1.length c3) (vI r1.1) :: blk g1 65 (ca A1 p1.length c1 p2 p3 p4 p5 p6) :: fs) := hS
 refine ar 5 [] [] [1, 2, 20, 21, 22, 23] [pl 1 (.slice A2 l1.length c2), pl 2 (pa g1 0), pl 20 (.agg (ca A5 r3.1.length c5 r3.2.1 r3.2.2.1 r3.2.2.2.1 r3.2.2.2.2.1 r3.2.2.2.2.2.1)), pl 21 (vi r3.2.2.2.2.2.2.1), pl 22 (vi r3.2.2.2.2.2.2.2.1), pl 23 (vi r3.2.2.2.2.2.2.2.2)] hF hS obs_nil (fun a w hF hS => ?_)
 refine at_do (d := 5) (s := vS (Instr.alloc 65 true (.tuple #[]))) (v := pa w.heap.size 0) (w' := w.alloc (.cells (ca none 0 0 0 0 0 0 0) 65)) hF (by kernel_rfl) (by kernel_rfl) (by kernel_rfl) (fun a hF => ?_)
 have hS : Sep w0 B (w.alloc (.cells (ca none 0 0 0 0 0 0 0) 65)) (blk w.heap.size 65 (ca none 0 0 0 0 0 0 0) :: (own 3 (.slice A5 r3.1.length c5) (vI r3.1) :: ownK 126 3 A4 r2.length c4 (List.flatMap enc126 r2) :: own 3 (.slice A3 r1.1.length c3) (vI r1.1) :: blk g1 65 (ca A1 p1.length c1 p2 p3 p4 p5 p6) :: fs)) := hS.box 65 (ca none 0 0 0 0 0 0 0)
 generalize w.heap.size = g2 at hF hS
 generalize w.alloc (.cells (ca none 0 0 0 0 0 0 0) 65) = w at hS ⊢
 obtain ⟨w, hrun, hS⟩ := run_putA (P := Try.prog) (t := 65) (us := (ca A5 r3.1.length c5 r3.2.1 r3.2.2.1 r3.2.2.2.1 r3.2.2.2.2.1 r3.2.2.2.2.2.1)) (o := 0) (hS.at_ 0 rfl) (by kernel_rfl) (all_one (by kernel_rfl)) (Nat.le_of_ble_eq_true (by kernel_rfl))
 refine at_s hF hrun ?_
 have hS : Sep w0 B w (blk g2 65 (ca A5 r3.1.length c5 r3.2.1 r3.2.2.1 r3.2.2.2.1 r3.2.2.2.2.1 r3.2.2.2.2.2.1) :: own 3 (.slice A5 r3.1.length c5) (vI r3.1) :: ownK 126 3 A4 r2.length c4 (List.flatMap enc126 r2) :: own 3 (.slice A3 r1.1.length c3) (vI r1.1) :: blk g1 65 (ca A1 p1.length c1 p2 p3 p4 p5 p6) :: fs) := hS
 refine ar 3 [] [] [1, 2, 5, 6, 7, 8] [pl 1 (.slice A2 l1.length c2), pl 2 (pa g1 0), pl 5 (pa g2 0), pl 6 (vi r3.2.2.2.2.2.2.1), pl 7 (vi r3.2.2.2.2.2.2.2.1), pl 8 (vi r3.2.2.2.2.2.2.2.2)] hF hS obs_nil (fun a w hF hS => ?_)
 refine ae [1, 2, 5, 6, 7, 8] [pl 1 (.slice A2 l1.length c2), pl 2 (pa g1 0), pl 5 (pa g2 0), pl 6 (vi r3.2.2.2.2.2.2.1), pl 7 (vi r3.2.2.2.2.2.2.2.1), pl 8 (vi r3.2.2.2.2.2.2.2.2)] hF rfl (fun hF => ?_)
 refine then_n ?_
 refine rg [] [] [1, 2, 5, 6, 7, 8, 9] [pl 1 (.slice A2 l1.length c2), pl 2 (pa g1 0), pl 5 (pa g2 0), pl 6 (vi r3.2.2.2.2.2.2.1), pl 7 (vi r3.2.2.2.2.2.2.2.1), pl 8 (vi r3.2.2.2.2.2.2.2.2), pl 9 (vi 0)] hF hS obs_nil (fun a w hF hS => ?_)
 refine seq_cut (fun a w => ∃ (no1 : Int), Fr 73 [pl 1 (.slice A2 l1.length c2), pl 2 (pa g1 0), pl 5 (pa g2 0), pl 6 (vi r3.2.2.2.2.2.2.1), pl 7 (vi r3.2.2.2.2.2.2.2.1), pl 8 (vi r3.2.2.2.2.2.2.2.2), pl 9 (vi no1)] a ∧ Sep w0 B w (blk g1 65 (ca A1 p1.length c1 p2 p3 p4 p5 p6) :: blk g2 65 (ca A5 r3.1.length c5 r3.2.1 r3.2.2.1 r3.2.2.2.1 r3.2.2.2.2.1 r3.2.2.2.2.2.1) :: own 3 (.slice A5 r3.1.length c5) (vI r3.1) :: fs) ∧ ((lw_MovesPlays_J1 p1 p2 p3 p4 p5 p6 l1 r3) no1).bind some = some r) ?_ ?_
 ·rintro a w ⟨no1, hF, hS, hm⟩
  unfold lw_MovesPlays_J1 at hm
  refine seq_cut (fun a w => Fr 73 [pl 1 (.slice A2 l1.length c2), pl 2 (pa g1 0), pl 5 (pa g2 0), pl 6 (vi r3.2.2.2.2.2.2.1), pl 7 (vi r3.2.2.2.2.2.2.2.1), pl 8 (vi r3.2.2.2.2.2.2.2.2)] a ∧ Sep w0 B w (blk g1 65 (ca A1 p1.length c1 p2 p3 p4 p5 p6) :: blk g2 65 (ca A5 r3.1.length c5 r3.2.1 r3.2.2.1 r3.2.2.2.1 r3.2.2.2.2.1 r3.2.2.2.2.2.1) :: own 3 (.slice A5 r3.1.length c5) (vI r3.1) :: fs) ∧ ((lw_MovesPlays_J2 p1 p2 p3 p4 p5 p6 l1 r3)).bind some = some r) ?_ ?_
  ·rintro a w ⟨hF, hS, hm⟩
   unfold lw_MovesPlays_J2 at hm
   refine seqR ?_
   obtain ⟨r6, hr6, hm⟩ := call_b hm
   refine ar 2 [⟨false, [], vS (Instr.loadAt 65 (pa g1 0)), .agg (ca A1 p1.length c1 p2 p3 p4 p5 p6)⟩] [some (.agg (ca A1 p1.length c1 p2 p3 p4 p5 p6)), none] [5, 6, 7, 8, 48, 49] [pl 5 (pa g2 0), pl 6 (vi r3.2.2.2.2.2.2.1), pl 7 (vi r3.2.2.2.2.2.2.2.1), pl 8 (vi r3.2.2.2.2.2.2.2.2), pl 48 (.agg (ca A1 p1.length c1 p2 p3 p4 p5 p6)), pl 49 (.slice A2 l1.length c2)] hF hS ?_ (fun a w hF hS => ?_)
   ·exact obs_cons (oA (cs := (ca A1 p1.length c1 p2 p3 p4 p5 p6)) (fun _ _ hS => (hS.at_ 0 rfl).cellsAt 0 (by rfl))) <| obs_nil
   refine at_call (f := 33) (args := #[.agg (ca A1 p1.length c1 p2 p3 p4 p5 p6), .slice A2 l1.length c2]) (d := 50) hF (by kernel_rfl) (by kernel_rfl) Try.func33 (by kernel_rfl) rfl (rf_PlayMoves_w hr6 hS (fun _ hS => (hr_p1 _ (hS.dropN 3))) _hc_p1 rfl (fun _ hS => (hr_l1 _ (hS.dropN 3))) _hc_l1 rfl) (fun v a w hR hF => ?_)
   clear hS
   obtain ⟨pg1, A6, c6, rfl, hp1, hc1, hS⟩ := hR
   have hS : Sep w0 B w (pg1 :: blk g1 65 (ca A1 p1.length c1 p2 p3 p4 p5 p6) :: blk g2 65 (ca A5 r3.1.length c5 r3.2.1 r3.2.2.1 r3.2.2.2.1 r3.2.2.2.2.1 r3.2.2.2.2.2.1) :: own 3 (.slice A5 r3.1.length c5) (vI r3.1) :: fs) := hS
   refine ar 5 [] [] [5, 6, 7, 8, 51, 52, 53, 54] [pl 5 (pa g2 0), pl 6 (vi r3.2.2.2.2.2.2.1), pl 7 (vi r3.2.2.2.2.2.2.2.1), pl 8 (vi r3.2.2.2.2.2.2.2.2), pl 51 (.agg (ca A6 r6.1.length c6 r6.2.1 r6.2.2.1 r6.2.2.2.1 r6.2.2.2.2.1 r6.2.2.2.2.2.1)), pl 52 (vi r6.2.2.2.2.2.2.1), pl 53 (vi r6.2.2.2.2.2.2.2.1), pl 54 (vi r6.2.2.2.2.2.2.2.2)] hF hS obs_nil (fun a w hF hS => ?_)
   refine at_do (d := 10) (s := vS (Instr.alloc 65 true (.tuple #[]))) (v := pa w.heap.size 0) (w' := w.alloc (.cells (ca none 0 0 0 0 0 0 0) 65)) hF (by kernel_rfl) (by kernel_rfl) (by kernel_rfl) (fun a hF => ?_)
   have hS : Sep w0 B (w.alloc (.cells (ca none 0 0 0 0 0 0 0) 65)) (blk w.heap.size 65 (ca none 0 0 0 0 0 0 0) :: (pg1 :: blk g1 65 (ca A1 p1.length c1 p2 p3 p4 p5 p6) :: blk g2 65 (ca A5 r3.1.length c5 r3.2.1 r3.2.2.1 r3.2.2.2.1 r3.2.2.2.2.1 r3.2.2.2.2.2.1) :: own 3 (.slice A5 r3.1.length c5) (vI r3.1) :: fs)) := hS.box 65 (ca none 0 0 0 0 0 0 0)
   generalize w.heap.size = g3 at hF hS
   generalize w.alloc (.cells (ca none 0 0 0 0 0 0 0) 65) = w at hS ⊢
   obtain ⟨w, hrun, hS⟩ := run_putA (P := Try.prog) (t := 65) (us := (ca A6 r6.1.length c6 r6.2.1 r6.2.2.1 r6.2.2.2.1 r6.2.2.2.2.1 r6.2.2.2.2.2.1)) (o := 0) (hS.at_ 0 rfl) (by kernel_rfl) (all_one (by kernel_rfl)) (Nat.le_of_ble_eq_true (by kernel_rfl))
   refine at_s hF hrun ?_
   have hS : Sep w0 B w (blk g3 65 (ca A6 r6.1.length c6 r6.2.1 r6.2.2.1 r6.2.2.2.1 r6.2.2.2.2.1 r6.2.2.2.2.2.1) :: pg1 :: blk g1 65 (ca A1 p1.length c1 p2 p3 p4 p5 p6) :: blk g2 65 (ca A5 r3.1.length c5 r3.2.1 r3.2.2.1 r3.2.2.2.1 r3.2.2.2.2.1 r3.2.2.2.2.2.1) :: own 3 (.slice A5 r3.1.length c5) (vI r3.1) :: fs) := hS
   refine ar 3 [] [] [5, 6, 7, 8, 10, 11, 12, 13] [pl 5 (pa g2 0), pl 6 (vi r3.2.2.2.2.2.2.1), pl 7 (vi r3.2.2.2.2.2.2.2.1), pl 8 (vi r3.2.2.2.2.2.2.2.2), pl 10 (pa g3 0), pl 11 (vi r6.2.2.2.2.2.2.1), pl 12 (vi r6.2.2.2.2.2.2.2.1), pl 13 (vi r6.2.2.2.2.2.2.2.2)] hF hS obs_nil (fun a w hF hS => ?_)
   refine ae [5, 6, 7, 8, 10, 11, 12, 13] [pl 5 (pa g2 0), pl 6 (vi r3.2.2.2.2.2.2.1), pl 7 (vi r3.2.2.2.2.2.2.2.1), pl 8 (vi r3.2.2.2.2.2.2.2.2), pl 10 (pa g3 0), pl 11 (vi r6.2.2.2.2.2.2.1), pl 12 (vi r6.2.2.2.2.2.2.2.1), pl 13 (vi r6.2.2.2.2.2.2.2.2)] hF rfl (fun hF => ?_)
   refine then_n ?_
   obtain ⟨r7, hr7, hm⟩ := call_b hm
   refine rg [⟨false, [(((r3.2.2.2.2.2.2.2.2 == r6.2.2.2.2.2.2.2.2) && (r3.2.2.2.2.2.2.1 == r6.2.2.2.2.2.2.1)) && (r3.2.2.2.2.2.2.2.1 == r6.2.2.2.2.2.2.2.1), true)], vS (Instr.loadAt 65 (pa g2 0)), .agg (ca A5 r3.1.length c5 r3.2.1 r3.2.2.1 r3.2.2.2.1 r3.2.2.2.2.1 r3.2.2.2.2.2.1)⟩, ⟨false, [(((r3.2.2.2.2.2.2.2.2 == r6.2.2.2.2.2.2.2.2) && (r3.2.2.2.2.2.2.1 == r6.2.2.2.2.2.2.1)) && (r3.2.2.2.2.2.2.2.1 == r6.2.2.2.2.2.2.2.1), true)], vS (Instr.loadAt 65 (pa g3 0)), .agg (ca A6 r6.1.length c6 r6.2.1 r6.2.2.1 r6.2.2.2.1 r6.2.2.2.2.1 r6.2.2.2.2.2.1)⟩, ⟨false, [(((r3.2.2.2.2.2.2.2.2 == r6.2.2.2.2.2.2.2.2) && (r3.2.2.2.2.2.2.1 == r6.2.2.2.2.2.2.1)) && (r3.2.2.2.2.2.2.2.1 == r6.2.2.2.2.2.2.2.1), true)], callFunc 34 #[.agg (ca A5 r3.1.length c5 r3.2.1 r3.2.2.1 r3.2.2.2.1 r3.2.2.2.2.1 r3.2.2.2.2.2.1), .agg (ca A6 r6.1.length c6 r6.2.1 r6.2.2.1 r6.2.2.2.1 r6.2.2.2.2.1 r6.2.2.2.2.2.1)], .bool r7⟩] [none, none, none, none, none, none, none, none, none, none, none, none, none, none, some (.agg (ca A5 r3.1.length c5 r3.2.1 r3.2.2.1 r3.2.2.2.1 r3.2.2.2.2.1 r3.2.2.2.2.2.1)), some (.agg (ca A6 r6.1.length c6 r6.2.1 r6.2.2.1 r6.2.2.2.1 r6.2.2.2.2.1 r6.2.2.2.2.2.1)), some (.bool r7), none, none] [4] [pl 4 (.bool ((((r3.2.2.2.2.2.2.2.2 == r6.2.2.2.2.2.2.2.2) && (r3.2.2.2.2.2.2.1 == r6.2.2.2.2.2.2.1)) && (r3.2.2.2.2.2.2.2.1 == r6.2.2.2.2.2.2.2.1)) && r7))] hF hS ?_ (fun a w hF hS => ?_)
   ·exact obs_cons (oA (cs := (ca A5 r3.1.length c5 r3.2.1 r3.2.2.1 r3.2.2.2.1 r3.2.2.2.2.1 r3.2.2.2.2.2.1)) (fun _ _ hS => (hS.at_ 3 rfl).cellsAt 0 (by rfl))) <| obs_cons (oA (cs := (ca A6 r6.1.length c6 r6.2.1 r6.2.2.1 r6.2.2.2.1 r6.2.2.2.2.1 r6.2.2.2.2.2.1)) (fun _ _ hS => (hS.at_ 0 rfl).cellsAt 0 (by rfl))) <| obs_cons (ob_call Try.func34 (by kernel_rfl) rfl (fun hy _ hS => rf_SameChess_w (ite_some hr7 (by rw [show (((r3.2.2.2.2.2.2.2.2 == r6.2.2.2.2.2.2.2.2) && (r3.2.2.2.2.2.2.1 == r6.2.2.2.2.2.2.1)) && (r3.2.2.2.2.2.2.2.1 == r6.2.2.2.2.2.2.2.1)) = true from hy (((r3.2.2.2.2.2.2.2.2 == r6.2.2.2.2.2.2.2.2) && (r3.2.2.2.2.2.2.1 == r6.2.2.2.2.2.2.1)) && (r3.2.2.2.2.2.2.2.1 == r6.2.2.2.2.2.2.2.1), true) (by simp)]; try rfl)) hS (fun _ hS => (hS.at_ 4 rfl).rd) ((hS.at_ 4 rfl).cap1) rfl (fun _ hS => (hp1.at_ hS 1 rfl)) hc1 rfl)) <| obs_nil
   refine wpIn_ret ?_
   have hS := hS.pickN 5 [] (by decide)
   have hm : some ((((r3.2.2.2.2.2.2.2.2 == r6.2.2.2.2.2.2.2.2) && (r3.2.2.2.2.2.2.1 == r6.2.2.2.2.2.2.1)) && (r3.2.2.2.2.2.2.2.1 == r6.2.2.2.2.2.2.2.1)) && r7) = some r := hm
   obtain rfl := Option.some.inj hm
   exact retV (rs := [.tmp 4]) (vs := [.bool ((((r3.2.2.2.2.2.2.2.2 == r6.2.2.2.2.2.2.2.2) && (r3.2.2.2.2.2.2.1 == r6.2.2.2.2.2.2.1)) && (r3.2.2.2.2.2.2.2.1 == r6.2.2.2.2.2.2.2.1)) && r7)]) hF rfl rv1 rfl ⟨rfl, hS⟩
  ·refine rg [] [] [1, 2, 5, 6, 7, 8, 9, 31] [pl 1 (.slice A2 l1.length c2), pl 2 (pa g1 0), pl 5 (pa g2 0), pl 6 (vi r3.2.2.2.2.2.2.1), pl 7 (vi r3.2.2.2.2.2.2.2.1), pl 8 (vi r3.2.2.2.2.2.2.2.2), pl 9 (vi no1), pl 31 (.bool (no1 != 0))] hF hS obs_nil (fun a w hF hS => ?_)
   refine ce (t := 31) (b := (no1 != 0)) hF (fun hb => ?_) (fun hb => ?_)
   ·replace hm := if_t hm hb
    obtain ⟨r5, hr5, hm⟩ := call_b hm
    refine rg [⟨false, [((r3.2.2.2.2.2.2.2.2 == no1), true)], vS (Instr.loadAt 65 (pa g2 0)), .agg (ca A5 r3.1.length c5 r3.2.1 r3.2.2.1 r3.2.2.2.1 r3.2.2.2.2.1 r3.2.2.2.2.2.1)⟩, ⟨false, [((r3.2.2.2.2.2.2.2.2 == no1), true)], callFunc 32 #[.agg (ca A5 r3.1.length c5 r3.2.1 r3.2.2.1 r3.2.2.2.1 r3.2.2.2.2.1 r3.2.2.2.2.2.1)], .bool r5⟩] [none, none, none, none, some (.agg (ca A5 r3.1.length c5 r3.2.1 r3.2.2.1 r3.2.2.2.1 r3.2.2.2.2.1 r3.2.2.2.2.2.1)), some (.bool r5), none, none, none, none, none, none, none, none, none, none] [4] [pl 4 (.bool ((((r3.2.2.2.2.2.2.2.2 == no1) && r5) && (r3.2.2.2.2.2.2.1 == 0)) && (r3.2.2.2.2.2.2.2.1 == 0)))] hF hS ?_ (fun a w hF hS => ?_)
    ·exact obs_cons (oA (cs := (ca A5 r3.1.length c5 r3.2.1 r3.2.2.1 r3.2.2.2.1 r3.2.2.2.2.1 r3.2.2.2.2.2.1)) (fun _ _ hS => (hS.at_ 1 rfl).cellsAt 0 (by rfl))) <| obs_cons (ob_call Try.func32 (by kernel_rfl) rfl (fun hy _ hS => lw_noChess_w (ite_some hr5 (by rw [show (r3.2.2.2.2.2.2.2.2 == no1) = true from hy ((r3.2.2.2.2.2.2.2.2 == no1), true) (by simp)]; try rfl)) hS (fun _ hS => (hS.at_ 2 rfl).rd) ((hS.at_ 2 rfl).cap1) rfl)) <| obs_nil
    refine wpIn_ret ?_
    refine then_r ?_
    have hS := hS.pickN 3 [] (by decide)
    have hm : some ((((r3.2.2.2.2.2.2.2.2 == no1) && r5) && (r3.2.2.2.2.2.2.1 == 0)) && (r3.2.2.2.2.2.2.2.1 == 0)) = some r := hm
    obtain rfl := Option.some.inj hm
    exact retV (rs := [.tmp 4]) (vs := [.bool ((((r3.2.2.2.2.2.2.2.2 == no1) && r5) && (r3.2.2.2.2.2.2.1 == 0)) && (r3.2.2.2.2.2.2.2.1 == 0))]) hF rfl rv1 rfl ⟨rfl, hS⟩
   ·replace hm := if_f hm hb
    refine wpIn_skip ?_
    refine then_n ?_
    exact ⟨hF.wk [1, 2, 5, 6, 7, 8], hS, hm⟩
 ·obtain ⟨r4, hr4, hm⟩ := call_b hm
  refine rg [⟨false, [], vS (Instr.loadAt 65 (pa g1 0)), .agg (ca A1 p1.length c1 p2 p3 p4 p5 p6)⟩, ⟨false, [], callFunc 31 #[.agg (ca A1 p1.length c1 p2 p3 p4 p5 p6)], .bool r4⟩] [some (.agg (ca A1 p1.length c1 p2 p3 p4 p5 p6)), some (.bool r4), none] [1, 2, 5, 6, 7, 8, 9, 26] [pl 1 (.slice A2 l1.length c2), pl 2 (pa g1 0), pl 5 (pa g2 0), pl 6 (vi r3.2.2.2.2.2.2.1), pl 7 (vi r3.2.2.2.2.2.2.2.1), pl 8 (vi r3.2.2.2.2.2.2.2.2), pl 9 (vi 0), pl 26 (.bool (!r4))] hF hS ?_ (fun a w hF hS => ?_)
  ·exact obs_cons (oA (cs := (ca A1 p1.length c1 p2 p3 p4 p5 p6)) (fun _ _ hS => (hS.at_ 4 rfl).cellsAt 0 (by rfl))) <| obs_cons (ob_call Try.func31 (by kernel_rfl) rfl (fun _ _ hS => rf_ChessMay_w hr4 hS (fun _ hS => (hr_p1 _ (hS.dropN 5))) _hc_p1 rfl)) <| obs_nil
  refine ce (t := 26) (b := !r4) hF (fun hb => ?_) (fun hb => ?_)
  ·replace hm := if_t hm hb
   refine rg1 [] [] [1, 2, 5, 6, 7, 8, 9] [pl 1 (.slice A2 l1.length c2), pl 2 (pa g1 0), pl 5 (pa g2 0), pl 6 (vi r3.2.2.2.2.2.2.1), pl 7 (vi r3.2.2.2.2.2.2.2.1), pl 8 (vi r3.2.2.2.2.2.2.2.2), pl 9 (vi 12)] hF hS obs_nil (fun a w hF hS => ?_)
   refine then_n ?_
   have hS := hS.pickN 5 [4, 0, 1] (by decide)
   exact ⟨12, hF.wk [1, 2, 5, 6, 7, 8, 9], hS, hm⟩
  ·replace hm := if_f hm hb
   refine rg [] [] [1, 2, 5, 6, 7, 8, 9, 29] [pl 1 (.slice A2 l1.length c2), pl 2 (pa g1 0), pl 5 (pa g2 0), pl 6 (vi r3.2.2.2.2.2.2.1), pl 7 (vi r3.2.2.2.2.2.2.2.1), pl 8 (vi r3.2.2.2.2.2.2.2.2), pl 9 (vi 0), pl 29 (.bool (decide ((200 : Int) < (l1.length : Int))))] hF hS obs_nil (fun a w hF hS => ?_)
   refine ce (t := 29) (b := decide ((200 : Int) < (l1.length : Int))) hF (fun hb => ?_) (fun hb => ?_)
   ·replace hm := if_t hm hb
    refine rg1 [] [] [1, 2, 5, 6, 7, 8, 9] [pl 1 (.slice A2 l1.length c2), pl 2 (pa g1 0), pl 5 (pa g2 0), pl 6 (vi r3.2.2.2.2.2.2.1), pl 7 (vi r3.2.2.2.2.2.2.2.1), pl 8 (vi r3.2.2.2.2.2.2.2.2), pl 9 (vi 11)] hF hS obs_nil (fun a w hF hS => ?_)
    refine then_n ?_
    have hS := hS.pickN 5 [4, 0, 1] (by decide)
    exact ⟨11, hF.wk [1, 2, 5, 6, 7, 8, 9], hS, hm⟩
   ·replace hm := if_f hm hb
    refine wpIn_skip ?_
    refine then_n ?_
    have hS := hS.pickN 5 [4, 0, 1] (by decide)
    exact ⟨0, hF.wk [1, 2, 5, 6, 7, 8, 9], hS, hm⟩

end Go.Proofs.Ytkpkkdpfcbnfdaa
