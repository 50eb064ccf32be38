/-
  Models and walks, printed by our own program (wip/gen).
-/
import Derived.Test.YtfmmlmiakkjaiaaVI
import Derived.Test.YtfmmlmiakkjaiaaFB
import Derived.Test.YtfmmlmiakkjaiaaLibAP
import Derived.Test.YtfmmlmiakkjaiaaLibRF
import Derived.Test.YtfmmlmiakkjaiaaSF
import Derived.Test.YtfmmlmiakkjaiaaNMCc
namespace Go.Proofs.Ytfmmlmiakkjaiaa
open Go Go.GL Go.RowKit
set_option maxRecDepth 100000
set_option maxHeartbeats 4000000

noncomputable def rf_MovesAll_m  (p1 : List Int) (p2 p3 : Int) (p4 p5 p6 : Int) : Option (List MvT) :=
  (loop (rf_MovesAll_L1 p1 p2 p3 p4 p5 p6) (([] : List MvT), 0)).bind rf_MovesAll_K1

theorem rf_MovesAll_w {A1 : Option Addr} {c1 n1 : Nat} {p1 : List Int} {p2 p3 : Int} {p4 p5 p6 : Int} {r : (List MvT)} {w0 w : World} {B : Nat} {fs : List HP} (hm : rf_MovesAll_m p1 p2 p3 p4 p5 p6 = some r) (hS : Sep w0 B w (fs)) (hr_p1 : RdF w0 B fs A1 (vI p1)) (_hc_p1 : p1.length ≤ c1) (_hn_p1 : n1 = p1.length) :
    Calls Try.prog 58 #[.agg (ca A1 n1 c1 p2 p3 p4 p5 p6)] w fun e w' => ∃ v, e = .returned v ∧ ∃ (A12 : Option Addr) (c12 : Nat), v = .slice A12 r.length c12 ∧ Sep w0 B w' (ownK 88 3 A12 r.length c12 (List.flatMap enc88 r) :: fs) := by
  obtain ⟨i3, hi3, hz3, hs3, hb3⟩ := info_parts Info3
  obtain ⟨i88, hi88, hz88, hs88, hb88⟩ := info_parts Info88
  obtain rfl := _hn_p1
  unfold rf_MovesAll_m at hm
  replace hm := start_b hm
  refine enter (l := [.agg (ca A1 p1.length c1 p2 p3 p4 p5 p6)]) (n := 97) Try.func58 rfl rfl (by simp) (fun a hF => ?_)
  refine seqR ?_
  refine at_do (d := 1) (s := vS (Instr.box 75 (.agg (ca A1 p1.length c1 p2 p3 p4 p5 p6)))) (v := pa w.heap.size 0) (w' := w.alloc (.cells (ca A1 p1.length c1 p2 p3 p4 p5 p6) 75)) hF (by kernel_rfl) (by kernel_rfl) (by kernel_rfl) (fun a hF => ?_)
  have hS : Sep w0 B (w.alloc (.cells (ca A1 p1.length c1 p2 p3 p4 p5 p6) 75)) (blk w.heap.size 75 (ca A1 p1.length c1 p2 p3 p4 p5 p6) :: (fs)) := hS.box 75 (ca A1 p1.length c1 p2 p3 p4 p5 p6)
  generalize w.heap.size = g1 at hF hS
  generalize w.alloc (.cells (ca A1 p1.length c1 p2 p3 p4 p5 p6) 75) = w at hS ⊢
  refine at_run 1 [] [] [1] [pl 1 (pa g1 0)] hF hS (by kernel_rfl) (by kernel_rfl) obs_nil (fun a w hF hS => ?_)
  refine at_end [1] [pl 1 (pa g1 0)] hF rfl (by kernel_rfl) (fun hF => ?_)
  refine then_n ?_
  refine reg [] [] [1, 3] [pl 1 (pa g1 0), pl 3 (.slice none 0 0)] hF hS Fol (by kernel_rfl) (by kernel_rfl) (by kernel_rfl) obs_nil (fun a w hF hS => ?_)
  refine seq_cut (fun a w => ∃ (l2 : List MvT) (A3 : Option Addr) (c3 : Nat), Fr 97 [pl 3 (.slice A3 l2.length c3)] a ∧ Sep w0 B w (ownK 88 3 A3 l2.length c3 (List.flatMap enc88 l2) :: fs) ∧ (rf_MovesAll_J1 l2).bind some = some r) ?_ ?_
  · rintro a w ⟨l2, A3, c3, hF, hS, hm⟩
    unfold rf_MovesAll_J1 at hm
    refine reg [] [] [2] [pl 2 (.slice A3 l2.length c3)] hF hS Fol (by kernel_rfl) (by kernel_rfl) (by kernel_rfl) obs_nil (fun a w hF hS => ?_)
    refine wpIn_ret ?_
    have hm : some l2 = some r := hm
    obtain rfl := Option.some.inj hm
    exact retV (rs := [.tmp 2]) (vs := [.slice A3 l2.length c3]) hF rfl (rv_t (by kernel_rfl) <| rv_nil) rfl ⟨_, rfl, A3, c3, rfl, hS⟩
  · refine reg [] [] [1, 3, 4] [pl 1 (pa g1 0), pl 3 (.slice none 0 0), pl 4 (vi 0)] hF hS Fol (by kernel_rfl) (by kernel_rfl) (by kernel_rfl) obs_nil (fun a w hF hS => ?_)
    refine wpIn_block ?_
    have hS : Sep w0 B w (ownK 88 3 none 0 0 (List.flatMap enc88 ([] : List MvT)) :: blk g1 75 (ca A1 p1.length c1 p2 p3 p4 p5 p6) :: fs) := hS.nilK 88 3 enc88
    have hl1 := (hS.at_ 0 rfl).lenK encK88
    have hS := (hS.at_ 0 rfl).reNK hl1
    have hS : Sep w0 B w (ownK 88 3 none (([] : List MvT).length) 0 (List.flatMap enc88 ([] : List MvT)) :: blk g1 75 (ca A1 p1.length c1 p2 p3 p4 p5 p6) :: fs) := hS
    have hF := hF.cast (t := 3) (v := .slice none 0 0) (v' := .slice none (([] : List MvT).length) 0) rfl rfl (congrArg (fun k => Value.slice none k 0) hl1)
    have hS := hS.pickN 2 [1, 0] (by decide)
    refine wp_loop_model (S := (List MvT × Int)) (R := (List MvT)) (rf_MovesAll_L1 p1 p2 p3 p4 p5 p6) (fun x => (rf_MovesAll_K1 x).bind some) r (fun (x : (List MvT × Int)) a w => ∃ (A2 : Option Addr) (c2 : Nat), Fr 97 [pl 1 (pa g1 0), pl 3 (.slice A2 x.1.length c2), pl 4 (vi x.2)] a ∧ Sep w0 B w (blk g1 75 (ca A1 p1.length c1 p2 p3 p4 p5 p6) :: ownK 88 3 A2 x.1.length c2 (List.flatMap enc88 x.1) :: fs)) (assoc_b hm) ⟨none, 0, hF.weak [1, 3, 4] (by kernel_rfl), hS⟩ ?_
    clear hF hS hm
    rintro nn1 ⟨l1, from1⟩ a w ⟨A2, c2, hF, hS⟩ hm
    generalize hφ1 : stK (rf_MovesAll_L1 p1 p2 p3 p4 p5 p6) nn1 (fun x => (rf_MovesAll_K1 x).bind some) = φ1 at hm
    unfold rf_MovesAll_L1 at hm
    dsimp only at hF hS hm
    refine seq_cut (fun a w => Fr 97 [pl 1 (pa g1 0), pl 3 (.slice A2 l1.length c2), pl 4 (vi from1)] a ∧ Sep w0 B w (blk g1 75 (ca A1 p1.length c1 p2 p3 p4 p5 p6) :: ownK 88 3 A2 l1.length c2 (List.flatMap enc88 l1) :: fs) ∧ ((rf_MovesAll_J2 p1 p2 p3 p4 p5 p6 l1 from1)).bind φ1 = some r) ?_ ?_
    · rintro a w ⟨hF, hS, hm⟩
      unfold rf_MovesAll_J2 at hm
      refine seq_cut (fun a w => ∃ (l3 : List MvT) (A4 : Option Addr) (c4 : Nat), Fr 97 [pl 1 (pa g1 0), pl 3 (.slice A4 l3.length c4), pl 4 (vi from1)] a ∧ Sep w0 B w (blk g1 75 (ca A1 p1.length c1 p2 p3 p4 p5 p6) :: ownK 88 3 A4 l3.length c4 (List.flatMap enc88 l3) :: fs) ∧ ((rf_MovesAll_J3 from1) l3).bind φ1 = some r) ?_ ?_
      · rintro a w ⟨l3, A4, c4, hF, hS, hm⟩
        unfold rf_MovesAll_J3 at hm
        refine reg1 [] [] [1, 3, 4] [pl 1 (pa g1 0), pl 3 (.slice A4 l3.length c4), pl 4 (vi (w64 (from1 + 1)))] hF hS Fol (by kernel_rfl) (by kernel_rfl) (by kernel_rfl) obs_nil (fun a w hF hS => ?_)
        refine then_n ?_
        rw [← hφ1] at hm
        exact ⟨(l3, (w64 (from1 + 1))), ⟨A4, c4, hF.weak [1, 3, 4] (by kernel_rfl), hS⟩, hm⟩
      · refine wpIn_block ?_
        refine seq_cut (fun a w => Fr 97 [pl 1 (pa g1 0), pl 3 (.slice A2 l1.length c2), pl 4 (vi from1)] a ∧ Sep w0 B w (blk g1 75 (ca A1 p1.length c1 p2 p3 p4 p5 p6) :: ownK 88 3 A2 l1.length c2 (List.flatMap enc88 l1) :: fs) ∧ ((rf_MovesAll_J4 p1 p2 p3 p4 p5 p6 l1 from1)).bind φ1 = some r) ?_ ?_
        · rintro a w ⟨hF, hS, hm⟩
          unfold rf_MovesAll_J4 at hm
          refine reg [] [] [1, 3, 4, 5] [pl 1 (pa g1 0), pl 3 (.slice A2 l1.length c2), pl 4 (vi from1), pl 5 (vi 0)] hF hS Fol (by kernel_rfl) (by kernel_rfl) (by kernel_rfl) obs_nil (fun a w hF hS => ?_)
          refine wpIn_block ?_
          refine wp_loop_model (S := (List MvT × Int)) (R := (List MvT)) (rf_MovesAll_L2 p1 p2 p3 p4 p5 p6 from1) (fun x => ((rf_MovesAll_K2 from1) x).bind φ1) r (fun (x : (List MvT × Int)) a w => ∃ (A5 : Option Addr) (c5 : Nat), Fr 97 [pl 1 (pa g1 0), pl 3 (.slice A5 x.1.length c5), pl 4 (vi from1), pl 5 (vi x.2)] a ∧ Sep w0 B w (blk g1 75 (ca A1 p1.length c1 p2 p3 p4 p5 p6) :: ownK 88 3 A5 x.1.length c5 (List.flatMap enc88 x.1) :: fs)) (assoc_b hm) ⟨A2, c2, hF.weak [1, 3, 4, 5] (by kernel_rfl), hS⟩ ?_
          clear hF hS hm
          rintro nn2 ⟨l4, to1⟩ a w ⟨A5, c5, hF, hS⟩ hm
          generalize hφ2 : stK (rf_MovesAll_L2 p1 p2 p3 p4 p5 p6 from1) nn2 (fun x => ((rf_MovesAll_K2 from1) x).bind φ1) = φ2 at hm
          unfold rf_MovesAll_L2 at hm
          dsimp only at hF hS hm
          refine seq_cut (fun a w => Fr 97 [pl 1 (pa g1 0), pl 3 (.slice A5 l4.length c5), pl 4 (vi from1), pl 5 (vi to1)] a ∧ Sep w0 B w (blk g1 75 (ca A1 p1.length c1 p2 p3 p4 p5 p6) :: ownK 88 3 A5 l4.length c5 (List.flatMap enc88 l4) :: fs) ∧ ((rf_MovesAll_J5 p1 p2 p3 p4 p5 p6 from1 l4 to1)).bind φ2 = some r) ?_ ?_
          · rintro a w ⟨hF, hS, hm⟩
            unfold rf_MovesAll_J5 at hm
            refine seq_cut (fun a w => ∃ (l5 : List MvT) (A7 : Option Addr) (c7 : Nat), Fr 97 [pl 1 (pa g1 0), pl 3 (.slice A7 l5.length c7), pl 4 (vi from1), pl 5 (vi to1)] a ∧ Sep w0 B w (blk g1 75 (ca A1 p1.length c1 p2 p3 p4 p5 p6) :: ownK 88 3 A7 l5.length c7 (List.flatMap enc88 l5) :: fs) ∧ ((rf_MovesAll_J6 to1) l5).bind φ2 = some r) ?_ ?_
            · rintro a w ⟨l5, A7, c7, hF, hS, hm⟩
              unfold rf_MovesAll_J6 at hm
              refine reg1 [] [] [1, 3, 4, 5] [pl 1 (pa g1 0), pl 3 (.slice A7 l5.length c7), pl 4 (vi from1), pl 5 (vi (w64 (to1 + 1)))] hF hS Fol (by kernel_rfl) (by kernel_rfl) (by kernel_rfl) obs_nil (fun a w hF hS => ?_)
              refine then_n ?_
              rw [← hφ2] at hm
              exact ⟨(l5, (w64 (to1 + 1))), ⟨A7, c7, hF.weak [1, 3, 4, 5] (by kernel_rfl), hS⟩, hm⟩
            · refine wpIn_block ?_
              obtain ⟨r2, hr2, hm⟩ := call_b hm
              refine reg [⟨false, [], vS (Instr.loadAt 75 (pa g1 0)), .agg (ca A1 p1.length c1 p2 p3 p4 p5 p6)⟩, ⟨false, [], callFunc 139 #[.agg (ca A1 p1.length c1 p2 p3 p4 p5 p6), vi from1, vi to1], .bool r2⟩] [some (.agg (ca A1 p1.length c1 p2 p3 p4 p5 p6)), none, none, some (.bool r2), none] [1, 3, 4, 5, 6] [pl 1 (pa g1 0), pl 3 (.slice A5 l4.length c5), pl 4 (vi from1), pl 5 (vi to1), pl 6 (.bool r2)] hF hS Fol (by kernel_rfl) (by kernel_rfl) (by kernel_rfl) ?_ (fun a w hF hS => ?_)
              · exact obs_cons (ob_loadA (cs := (ca A1 p1.length c1 p2 p3 p4 p5 p6)) (by kernel_rfl) (by kernel_rfl) (fun _ _ hS => (hS.at_ 0 rfl).cellsAt 0 (by rfl))) <| obs_cons (ob_call Try.func139 (by kernel_rfl) rfl (fun _ _ hS => rf_mayGo_w hr2 hS (fun _ hS => (hr_p1 _ (hS.dropN 2))) _hc_p1 rfl)) <| obs_nil
              refine seq_cut (fun a w => ∃ (ok2 : Bool), Fr 97 [pl 1 (pa g1 0), pl 3 (.slice A5 l4.length c5), pl 4 (vi from1), pl 5 (vi to1), pl 6 (.bool ok2)] a ∧ Sep w0 B w (blk g1 75 (ca A1 p1.length c1 p2 p3 p4 p5 p6) :: ownK 88 3 A5 l4.length c5 (List.flatMap enc88 l4) :: fs) ∧ ((rf_MovesAll_J7 p1 p2 p3 p4 p5 p6 from1 l4 to1) ok2).bind φ2 = some r) ?_ ?_
              · rintro a w ⟨ok2, hF, hS, hm⟩
                unfold rf_MovesAll_J7 at hm
                refine seq_cut (fun a w => Fr 97 [pl 1 (pa g1 0), pl 3 (.slice A5 l4.length c5), pl 4 (vi from1), pl 5 (vi to1)] a ∧ Sep w0 B w (blk g1 75 (ca A1 p1.length c1 p2 p3 p4 p5 p6) :: ownK 88 3 A5 l4.length c5 (List.flatMap enc88 l4) :: fs) ∧ ((rf_MovesAll_J10 p1 from1 l4 to1)).bind φ2 = some r) ?_ ?_
                · rintro a w ⟨hF, hS, hm⟩
                  unfold rf_MovesAll_J10 at hm
                  obtain ⟨hp3, hm⟩ := asrt_b hm
                  obtain ⟨r8, hr8, hm⟩ := call_b hm
                  refine reg [⟨false, [], vS (Instr.loadAt 27 (pa g1 0)), .slice A1 p1.length c1⟩, ⟨true, [], vS (Instr.indexAt 27 (.slice A1 p1.length c1) (vi from1)), .pointer (some (sAddr A1 from1))⟩, ⟨false, [], vS (Instr.loadAt 3 (.pointer (some (sAddr A1 from1)))), vi (geti p1 from1)⟩, ⟨false, [], callFunc 129 #[vi (geti p1 from1)], vi r8⟩] [none, some (.slice A1 p1.length c1), none, some (.pointer (some (sAddr A1 from1))), some (vi (geti p1 from1)), some (vi r8), none, none, none, none, none, none, none, none, none] [1, 3, 4, 5, 78] [pl 1 (pa g1 0), pl 3 (.slice A5 l4.length c5), pl 4 (vi from1), pl 5 (vi to1), pl 78 (.bool ((r8 == 1) && ((decide (to1 < 8)) || (decide ((55 : Int) < to1)))))] hF hS Fol (by kernel_rfl) (by kernel_rfl) (by kernel_rfl) ?_ (fun a w hF hS => ?_)
                  · exact obs_cons (ob_load Agg27 (fun _ _ hS => (hS.at_ 0 rfl).cell rfl)) <| obs_cons (ob_ix1 (f := (Value.int .i64)) (m := p1) Und27 hi3 hs3 (hr_p1 _ (hS.dropN 2)) rfl (fun _ => hp3)) <| obs_cons (ob_get1 (n := p1.length) (m := p1) (Value.int .i64) (0 : Int) Agg3 (fun _ hS => ⟨_, (hr_p1 _ (hS.dropN 2))⟩) (fun _ hS => rfl) (fun _ => hp3)) <| obs_cons (ob_call Try.func129 (by kernel_rfl) rfl (fun _ _ hS => rf_size_w hr8 hS )) <| obs_nil
                  refine cond_ev (t := 78) (b := (r8 == 1) && ((decide (to1 < 8)) || (decide ((55 : Int) < to1)))) hF (by kernel_rfl) (fun hb => ?_) (fun hb => ?_)
                  · replace hm := if_t hm hb
                    refine reg [] [] [1, 3, 4, 5, 8] [pl 1 (pa g1 0), pl 3 (.slice A5 l4.length c5), pl 4 (vi from1), pl 5 (vi to1), pl 8 (vi 2)] hF hS Fol (by kernel_rfl) (by kernel_rfl) (by kernel_rfl) obs_nil (fun a w hF hS => ?_)
                    refine wpIn_block ?_
                    refine wp_loop_model (S := (List MvT × Int)) (R := (List MvT)) (rf_MovesAll_L4 from1 to1) (fun x => ((rf_MovesAll_K4 to1) x).bind φ2) r (fun (x : (List MvT × Int)) a w => ∃ (A8 : Option Addr) (c8 : Nat), Fr 97 [pl 1 (pa g1 0), pl 3 (.slice A8 x.1.length c8), pl 4 (vi from1), pl 5 (vi to1), pl 8 (vi x.2)] a ∧ Sep w0 B w (blk g1 75 (ca A1 p1.length c1 p2 p3 p4 p5 p6) :: ownK 88 3 A8 x.1.length c8 (List.flatMap enc88 x.1) :: fs)) (assoc_b hm) ⟨A5, c5, hF.weak [1, 3, 4, 5, 8] (by kernel_rfl), hS⟩ ?_
                    clear hF hS hm
                    rintro nn4 ⟨l6, into1⟩ a w ⟨A8, c8, hF, hS⟩ hm
                    generalize hφ4 : stK (rf_MovesAll_L4 from1 to1) nn4 (fun x => ((rf_MovesAll_K4 to1) x).bind φ2) = φ4 at hm
                    unfold rf_MovesAll_L4 at hm
                    dsimp only at hF hS hm
                    refine seq_cut (fun a w => Fr 97 [pl 1 (pa g1 0), pl 3 (.slice A8 l6.length c8), pl 4 (vi from1), pl 5 (vi to1), pl 8 (vi into1)] a ∧ Sep w0 B w (blk g1 75 (ca A1 p1.length c1 p2 p3 p4 p5 p6) :: ownK 88 3 A8 l6.length c8 (List.flatMap enc88 l6) :: fs) ∧ ((rf_MovesAll_J12 from1 to1 l6 into1)).bind φ4 = some r) ?_ ?_
                    · rintro a w ⟨hF, hS, hm⟩
                      unfold rf_MovesAll_J12 at hm
                      refine seq_cut (fun a w => ∃ (l7 : List MvT) (A10 : Option Addr) (c10 : Nat), Fr 97 [pl 1 (pa g1 0), pl 3 (.slice A10 l7.length c10), pl 4 (vi from1), pl 5 (vi to1), pl 8 (vi into1)] a ∧ Sep w0 B w (blk g1 75 (ca A1 p1.length c1 p2 p3 p4 p5 p6) :: ownK 88 3 A10 l7.length c10 (List.flatMap enc88 l7) :: fs) ∧ ((rf_MovesAll_J13 into1) l7).bind φ4 = some r) ?_ ?_
                      · rintro a w ⟨l7, A10, c10, hF, hS, hm⟩
                        unfold rf_MovesAll_J13 at hm
                        refine reg1 [] [] [1, 3, 4, 5, 8] [pl 1 (pa g1 0), pl 3 (.slice A10 l7.length c10), pl 4 (vi from1), pl 5 (vi to1), pl 8 (vi (w64 (into1 + 1)))] hF hS Fol (by kernel_rfl) (by kernel_rfl) (by kernel_rfl) obs_nil (fun a w hF hS => ?_)
                        refine then_n ?_
                        rw [← hφ4] at hm
                        exact ⟨(l7, (w64 (into1 + 1))), ⟨A10, c10, hF.weak [1, 3, 4, 5, 8] (by kernel_rfl), hS⟩, hm⟩
                      · refine wpIn_block ?_
                        refine oneR ?_
                        obtain ⟨hp4, hm⟩ := asrt_b hm
                        refine at_run 5 [] [] [1, 4, 5, 8, 83, 87] [pl 1 (pa g1 0), pl 4 (vi from1), pl 5 (vi to1), pl 8 (vi into1), pl 83 (.slice A8 l6.length c8), pl 87 (.agg #[vi from1, vi to1, vi into1])] hF hS (by kernel_rfl) (by kernel_rfl) obs_nil (fun a w hF hS => ?_)
                        refine at_do (d := 88) (s := vS (Instr.buildSlice 81 1 #[(0, .agg #[vi from1, vi to1, vi into1])])) (v := .slice (some ⟨w.heap.size, 0, none⟩) 1 1) (w' := w.alloc (.cells #[vi from1, vi to1, vi into1] 88)) hF (by kernel_rfl) (by kernel_rfl) (by kernel_rfl) (fun a hF => ?_)
                        have hS : Sep w0 B (w.alloc (.cells #[vi from1, vi to1, vi into1] 88)) (ownK 88 3 (some (⟨w.heap.size, 0, none⟩ : Addr)) 1 1 (List.flatMap enc88 ([(from1, to1, into1)] : List MvT)) :: (blk g1 75 (ca A1 p1.length c1 p2 p3 p4 p5 p6) :: ownK 88 3 A8 l6.length c8 (List.flatMap enc88 l6) :: fs)) := hS.litK 88 3 #[vi from1, vi to1, vi into1] 1 rfl (by omega)
                        generalize (some (⟨w.heap.size, 0, none⟩ : Addr)) = g2 at hF hS
                        generalize w.alloc (.cells #[vi from1, vi to1, vi into1] 88) = w at hS ⊢
                        obtain ⟨A9, c9, w, hrun, hS⟩ := run_appK (P := Try.prog) (t := 81) (m := l6) (ys := ([(from1, to1, into1)] : List MvT)) (A2 := g2) (m2 := 1) (c2 := 1) encK88 (hS.at_ 2 rfl) (hS.at_ 0 rfl).rdK ((hS.at_ 0 rfl).lenK encK88) 81 Und81 hi88 hz88 hs88 rfl (by omega) hp4
                        have hS : Sep w0 B w (ownK 88 3 g2 1 1 (List.flatMap enc88 ([(from1, to1, into1)] : List MvT)) :: blk g1 75 (ca A1 p1.length c1 p2 p3 p4 p5 p6) :: ownK 88 3 A9 ((l6 ++ ([(from1, to1, into1)] : List MvT)).length) c9 (List.flatMap enc88 (l6 ++ ([(from1, to1, into1)] : List MvT))) :: fs) := hS
                        refine at_do (d := 89) hF (by kernel_rfl) (by kernel_rfl) hrun (fun a hF => ?_)
                        refine at_run 1 [] [] [1, 3, 4, 5, 8] [pl 1 (pa g1 0), pl 3 (.slice A9 ((l6 ++ ([(from1, to1, into1)] : List MvT)).length) c9), pl 4 (vi from1), pl 5 (vi to1), pl 8 (vi into1)] hF hS (by kernel_rfl) (by kernel_rfl) obs_nil (fun a w hF hS => ?_)
                        refine at_end [1, 3, 4, 5, 8] [pl 1 (pa g1 0), pl 3 (.slice A9 ((l6 ++ ([(from1, to1, into1)] : List MvT)).length) c9), pl 4 (vi from1), pl 5 (vi to1), pl 8 (vi into1)] hF rfl (by kernel_rfl) (fun hF => ?_)
                        refine block_n ?_
                        refine then_n ?_
                        have hS := hS.pickN 3 [1, 2] (by decide)
                        exact ⟨(l6 ++ ([(from1, to1, into1)] : List MvT)), A9, c9, hF.weak [1, 3, 4, 5, 8] (by kernel_rfl), hS, hm⟩
                    · refine reg [] [] [1, 3, 4, 5, 8, 80] [pl 1 (pa g1 0), pl 3 (.slice A8 l6.length c8), pl 4 (vi from1), pl 5 (vi to1), pl 8 (vi into1), pl 80 (.bool (decide (into1 ≤ 5)))] hF hS Fol (by kernel_rfl) (by kernel_rfl) (by kernel_rfl) obs_nil (fun a w hF hS => ?_)
                      refine cond_ev (t := 80) (b := decide (into1 ≤ 5)) hF (by kernel_rfl) (fun hb => ?_) (fun hb => ?_)
                      · replace hm := if_t hm hb
                        refine wpIn_skip ?_
                        refine then_n ?_
                        exact ⟨hF.weak [1, 3, 4, 5, 8] (by kernel_rfl), hS, hm⟩
                      · replace hm := if_f hm hb
                        refine wpIn_exit ?_
                        refine then_e (then_e (block_e (block_n (then_n ?_))))
                        rw [← hφ4] at hm
                        replace hm := done_b hm
                        unfold rf_MovesAll_K4 at hm
                        try dsimp only at hm
                        have hm : ((rf_MovesAll_J6 to1) l6).bind φ2 = some r := hm
                        exact ⟨l6, A8, c8, hF.weak [1, 3, 4, 5] (by kernel_rfl), hS, hm⟩
                  · replace hm := if_f hm hb
                    refine oneR ?_
                    obtain ⟨hp5, hm⟩ := asrt_b hm
                    refine at_run 4 [] [] [1, 4, 5, 90, 93] [pl 1 (pa g1 0), pl 4 (vi from1), pl 5 (vi to1), pl 90 (.slice A5 l4.length c5), pl 93 (.agg #[vi from1, vi to1, vi 0])] hF hS (by kernel_rfl) (by kernel_rfl) obs_nil (fun a w hF hS => ?_)
                    refine at_do (d := 94) (s := vS (Instr.buildSlice 81 1 #[(0, .agg #[vi from1, vi to1, vi 0])])) (v := .slice (some ⟨w.heap.size, 0, none⟩) 1 1) (w' := w.alloc (.cells #[vi from1, vi to1, vi 0] 88)) hF (by kernel_rfl) (by kernel_rfl) (by kernel_rfl) (fun a hF => ?_)
                    have hS : Sep w0 B (w.alloc (.cells #[vi from1, vi to1, vi 0] 88)) (ownK 88 3 (some (⟨w.heap.size, 0, none⟩ : Addr)) 1 1 (List.flatMap enc88 ([(from1, to1, 0)] : List MvT)) :: (blk g1 75 (ca A1 p1.length c1 p2 p3 p4 p5 p6) :: ownK 88 3 A5 l4.length c5 (List.flatMap enc88 l4) :: fs)) := hS.litK 88 3 #[vi from1, vi to1, vi 0] 1 rfl (by omega)
                    generalize (some (⟨w.heap.size, 0, none⟩ : Addr)) = g3 at hF hS
                    generalize w.alloc (.cells #[vi from1, vi to1, vi 0] 88) = w at hS ⊢
                    obtain ⟨A11, c11, w, hrun, hS⟩ := run_appK (P := Try.prog) (t := 81) (m := l4) (ys := ([(from1, to1, 0)] : List MvT)) (A2 := g3) (m2 := 1) (c2 := 1) encK88 (hS.at_ 2 rfl) (hS.at_ 0 rfl).rdK ((hS.at_ 0 rfl).lenK encK88) 81 Und81 hi88 hz88 hs88 rfl (by omega) hp5
                    have hS : Sep w0 B w (ownK 88 3 g3 1 1 (List.flatMap enc88 ([(from1, to1, 0)] : List MvT)) :: blk g1 75 (ca A1 p1.length c1 p2 p3 p4 p5 p6) :: ownK 88 3 A11 ((l4 ++ ([(from1, to1, 0)] : List MvT)).length) c11 (List.flatMap enc88 (l4 ++ ([(from1, to1, 0)] : List MvT))) :: fs) := hS
                    refine at_do (d := 95) hF (by kernel_rfl) (by kernel_rfl) hrun (fun a hF => ?_)
                    refine at_run 1 [] [] [1, 3, 4, 5] [pl 1 (pa g1 0), pl 3 (.slice A11 ((l4 ++ ([(from1, to1, 0)] : List MvT)).length) c11), pl 4 (vi from1), pl 5 (vi to1)] hF hS (by kernel_rfl) (by kernel_rfl) obs_nil (fun a w hF hS => ?_)
                    refine at_end [1, 3, 4, 5] [pl 1 (pa g1 0), pl 3 (.slice A11 ((l4 ++ ([(from1, to1, 0)] : List MvT)).length) c11), pl 4 (vi from1), pl 5 (vi to1)] hF rfl (by kernel_rfl) (fun hF => ?_)
                    refine block_n ?_
                    refine then_n ?_
                    have hS := hS.pickN 3 [1, 2] (by decide)
                    exact ⟨(l4 ++ ([(from1, to1, 0)] : List MvT)), A11, c11, hF.weak [1, 3, 4, 5] (by kernel_rfl), hS, hm⟩
                · refine seq_cut (fun a w => ∃ (z1 : Bool), Fr 97 [pl 1 (pa g1 0), pl 3 (.slice A5 l4.length c5), pl 4 (vi from1), pl 5 (vi to1), pl 63 (.bool z1)] a ∧ Sep w0 B w (blk g1 75 (ca A1 p1.length c1 p2 p3 p4 p5 p6) :: ownK 88 3 A5 l4.length c5 (List.flatMap enc88 l4) :: fs) ∧ ((rf_MovesAll_J11 p1 from1 l4 to1) z1).bind φ2 = some r) ?_ ?_
                  · rintro a w ⟨z1, hF, hS, hm⟩
                    unfold rf_MovesAll_J11 at hm
                    refine cond_ev (t := 63) (b := z1) hF (by kernel_rfl) (fun hb => ?_) (fun hb => ?_)
                    · replace hm := if_t hm hb
                      refine wpIn_exit ?_
                      refine then_e (block_e (then_n ?_))
                      exact ⟨l4, A5, c5, hF.weak [1, 3, 4, 5] (by kernel_rfl), hS, hm⟩
                    · replace hm := if_f hm hb
                      refine wpIn_skip ?_
                      refine then_n ?_
                      exact ⟨hF.weak [1, 3, 4, 5] (by kernel_rfl), hS, hm⟩
                  · refine regMix3 [0, 1, 2, 3, 4, 5, 6, 9, 10] 7 [8, 11, 12] [⟨false, [(!ok2, false)], vS (Instr.loadAt 75 (pa g1 0)), .agg (ca A1 p1.length c1 p2 p3 p4 p5 p6)⟩, ⟨false, [(!ok2, false)], vS (Instr.loadAt 3 (pa g1 1)), vi p2⟩] [none, none, none, some (.agg (ca A1 p1.length c1 p2 p3 p4 p5 p6)), none, none, none, none, some (vi p2)] [1, 3, 4, 5, 53, 54, 57, 61] [pl 1 (pa g1 0), pl 3 (.slice A5 l4.length c5), pl 4 (vi from1), pl 5 (vi to1), pl 53 (.bool (!ok2)), ⟨54, [(53, false)], .agg (ca A1 p1.length c1 p2 p3 p4 p5 p6)⟩, ⟨57, [(53, false)], .agg #[vi from1, vi to1, vi 0]⟩, ⟨61, [(53, false)], vi p2⟩] hF hS Fol (by kernel_rfl) (by kernel_rfl) (by kernel_rfl) (by kernel_rfl) (by kernel_rfl) (by kernel_rfl) ?_ (fun a w hF hS => ?_)
                    · exact obs_cons (ob_loadA (cs := (ca A1 p1.length c1 p2 p3 p4 p5 p6)) (by kernel_rfl) (by kernel_rfl) (fun _ _ hS => (hS.at_ 0 rfl).cellsAt 0 (by rfl))) <| obs_cons (ob_load Agg3 (fun _ _ hS => (hS.at_ 0 rfl).cell rfl)) <| obs_nil
                    rcases Bool.eq_false_or_eq_true (!ok2) with hg1 | hg1
                    · replace hm := if_t hm hg1
                      obtain ⟨r5, hr5, hm⟩ := call_b hm
                      refine at_gskip (d := 58) (v := .agg (ca none 0 0 0 0 0 0 0)) (hs := [(!ok2, false)]) (ctx := [(53, false)]) hF (by kernel_rfl) (by kernel_rfl) (fun h => absurd (h (!ok2, false) (by simp)) (by simp [hg1])) (fun a hF => ?_)
                      refine at_fin3 rfl (hS) ?_
                      refine at_run 3 [⟨false, [(!ok2, false)], callFunc 130 #[.slice none 0 0, vi p2], .bool r5⟩] [none, some (.bool r5), none] [1, 3, 4, 5, 63] [pl 1 (pa g1 0), pl 3 (.slice A5 l4.length c5), pl 4 (vi from1), pl 5 (vi to1), pl 63 (.bool ((!ok2) || r5))] hF hS (by kernel_rfl) (by kernel_rfl) ?_ (fun a w hF hS => ?_)
                      · exact obs_cons (Ob.vac (fun h => absurd (h (!ok2, false) (by simp)) (by simp [hg1]))) <| obs_nil
                      refine at_end [1, 3, 4, 5, 63] [pl 1 (pa g1 0), pl 3 (.slice A5 l4.length c5), pl 4 (vi from1), pl 5 (vi to1), pl 63 (.bool ((!ok2) || r5))] hF rfl (by kernel_rfl) (fun hF => ?_)
                      refine np_n ?_
                      refine then_n ?_
                      exact ⟨((!ok2) || r5), hF.weak [1, 3, 4, 5, 63] (by kernel_rfl), hS, hm⟩
                    · replace hm := if_f hm hg1
                      obtain ⟨r6, hr6, hm⟩ := call_b hm
                      obtain ⟨r7, hr7, hm⟩ := call_b hm
                      refine at_gcall (hs := [(!ok2, false)]) (fun y hy => by simp only [List.mem_cons, List.not_mem_nil, or_false] at hy; subst hy; first | exact hg1) (f := 62) (args := #[.agg (ca A1 p1.length c1 p2 p3 p4 p5 p6), .agg #[vi from1, vi to1, vi 0]]) (d := 58) hF (by kernel_rfl) (by kernel_rfl) Try.func62 (by kernel_rfl) rfl (rf_MoveDone_w hr6 hS (fun _ hS => (hr_p1 _ (hS.dropN 2))) _hc_p1 rfl) (fun v a w hR hF => ?_)
                      clear hS
                      obtain ⟨A6, c6, rfl, hS⟩ := hR
                      have hS : Sep w0 B w (own 3 (.slice A6 r6.1.length c6) (vI r6.1) :: blk g1 75 (ca A1 p1.length c1 p2 p3 p4 p5 p6) :: ownK 88 3 A5 l4.length c5 (List.flatMap enc88 l4) :: fs) := hS
                      refine at_fin3 rfl (hS.pickN 3 [1, 2] (by decide)) ?_
                      refine at_run 3 [⟨false, [(!ok2, false)], callFunc 130 #[.slice A6 r6.1.length c6, vi p2], .bool r7⟩] [none, some (.bool r7), none] [1, 3, 4, 5, 63] [pl 1 (pa g1 0), pl 3 (.slice A5 l4.length c5), pl 4 (vi from1), pl 5 (vi to1), pl 63 (.bool ((!ok2) || r7))] hF hS (by kernel_rfl) (by kernel_rfl) ?_ (fun a w hF hS => ?_)
                      · exact obs_cons (ob_call Try.func130 (by kernel_rfl) rfl (fun hy _ hS => rf_InCheck_w (ite_some hr7 (by rw [show (!ok2) = false from hy (!ok2, false) (by simp)]; try rfl)) hS (fun _ hS => (hS.at_ 0 rfl).rd) ((hS.at_ 0 rfl).cap1) rfl)) <| obs_nil
                      refine at_end [1, 3, 4, 5, 63] [pl 1 (pa g1 0), pl 3 (.slice A5 l4.length c5), pl 4 (vi from1), pl 5 (vi to1), pl 63 (.bool ((!ok2) || r7))] hF rfl (by kernel_rfl) (fun hF => ?_)
                      refine np_n ?_
                      refine then_n ?_
                      have hS := hS.pickN 3 [1, 2] (by decide)
                      exact ⟨((!ok2) || r7), hF.weak [1, 3, 4, 5, 63] (by kernel_rfl), hS, hm⟩
              · refine reg [] [] [1, 3, 4, 5, 6, 7] [pl 1 (pa g1 0), pl 3 (.slice A5 l4.length c5), pl 4 (vi from1), pl 5 (vi to1), pl 6 (.bool r2), pl 7 (vi 0)] hF hS Fol (by kernel_rfl) (by kernel_rfl) (by kernel_rfl) obs_nil (fun a w hF hS => ?_)
                refine wpIn_block ?_
                refine wp_loop_model (S := (Bool × Int)) (R := Bool) (rf_MovesAll_L3 p1 p2 p3 p4 p5 p6 from1 to1) (fun x => ((rf_MovesAll_K3 p1 p2 p3 p4 p5 p6 from1 l4 to1) x).bind φ2) r (fun (x : (Bool × Int)) a w => Fr 97 [pl 1 (pa g1 0), pl 3 (.slice A5 l4.length c5), pl 4 (vi from1), pl 5 (vi to1), pl 6 (.bool x.1), pl 7 (vi x.2)] a ∧ Sep w0 B w (blk g1 75 (ca A1 p1.length c1 p2 p3 p4 p5 p6) :: ownK 88 3 A5 l4.length c5 (List.flatMap enc88 l4) :: fs)) (assoc_b hm) ⟨hF.weak [1, 3, 4, 5, 6, 7] (by kernel_rfl), hS⟩ ?_
                clear hF hS hm
                rintro nn3 ⟨ok1, n2⟩ a w ⟨hF, hS⟩ hm
                generalize hφ3 : stK (rf_MovesAll_L3 p1 p2 p3 p4 p5 p6 from1 to1) nn3 (fun x => ((rf_MovesAll_K3 p1 p2 p3 p4 p5 p6 from1 l4 to1) x).bind φ2) = φ3 at hm
                unfold rf_MovesAll_L3 at hm
                dsimp only at hF hS hm
                refine seq_cut (fun a w => Fr 97 [pl 1 (pa g1 0), pl 3 (.slice A5 l4.length c5), pl 4 (vi from1), pl 5 (vi to1), pl 6 (.bool ok1), pl 7 (vi n2)] a ∧ Sep w0 B w (blk g1 75 (ca A1 p1.length c1 p2 p3 p4 p5 p6) :: ownK 88 3 A5 l4.length c5 (List.flatMap enc88 l4) :: fs) ∧ ((rf_MovesAll_J8 p1 p2 p3 p4 p5 p6 to1 ok1 n2)).bind φ3 = some r) ?_ ?_
                · rintro a w ⟨hF, hS, hm⟩
                  unfold rf_MovesAll_J8 at hm
                  refine seq_cut (fun a w => ∃ (ok3 : Bool), Fr 97 [pl 1 (pa g1 0), pl 3 (.slice A5 l4.length c5), pl 4 (vi from1), pl 5 (vi to1), pl 6 (.bool ok3), pl 7 (vi n2)] a ∧ Sep w0 B w (blk g1 75 (ca A1 p1.length c1 p2 p3 p4 p5 p6) :: ownK 88 3 A5 l4.length c5 (List.flatMap enc88 l4) :: fs) ∧ ((rf_MovesAll_J9 n2) ok3).bind φ3 = some r) ?_ ?_
                  · rintro a w ⟨ok3, hF, hS, hm⟩
                    unfold rf_MovesAll_J9 at hm
                    refine reg1 [] [] [1, 3, 4, 5, 6, 7] [pl 1 (pa g1 0), pl 3 (.slice A5 l4.length c5), pl 4 (vi from1), pl 5 (vi to1), pl 6 (.bool ok3), pl 7 (vi (w64 (n2 + 1)))] hF hS Fol (by kernel_rfl) (by kernel_rfl) (by kernel_rfl) obs_nil (fun a w hF hS => ?_)
                    refine then_n ?_
                    rw [← hφ3] at hm
                    exact ⟨(ok3, (w64 (n2 + 1))), ⟨hF.weak [1, 3, 4, 5, 6, 7] (by kernel_rfl), hS⟩, hm⟩
                  · refine wpIn_block ?_
                    obtain ⟨r4, hr4, hm⟩ := call_b hm
                    refine reg1 [⟨false, [(ok1, false)], vS (Instr.loadAt 75 (pa g1 0)), .agg (ca A1 p1.length c1 p2 p3 p4 p5 p6)⟩, ⟨false, [(ok1, false)], callFunc 140 #[.agg (ca A1 p1.length c1 p2 p3 p4 p5 p6), vi n2], vi r4⟩] [none, none, some (.agg (ca A1 p1.length c1 p2 p3 p4 p5 p6)), none, some (vi r4), none, none, none, none] [1, 3, 4, 5, 6, 7] [pl 1 (pa g1 0), pl 3 (.slice A5 l4.length c5), pl 4 (vi from1), pl 5 (vi to1), pl 6 (.bool (ok1 || (r4 == to1))), pl 7 (vi n2)] hF hS Fol (by kernel_rfl) (by kernel_rfl) (by kernel_rfl) ?_ (fun a w hF hS => ?_)
                    · exact obs_cons (ob_loadA (cs := (ca A1 p1.length c1 p2 p3 p4 p5 p6)) (by kernel_rfl) (by kernel_rfl) (fun _ _ hS => (hS.at_ 0 rfl).cellsAt 0 (by rfl))) <| obs_cons (ob_call Try.func140 (by kernel_rfl) rfl (fun hy _ hS => rf_castleTo_w (ite_some hr4 (by rw [show ok1 = false from hy (ok1, false) (by simp)]; try rfl)) hS (fun _ hS => (hr_p1 _ (hS.dropN 2))) _hc_p1 rfl)) <| obs_nil
                    refine block_n ?_
                    refine then_n ?_
                    exact ⟨(ok1 || (r4 == to1)), hF.weak [1, 3, 4, 5, 6, 7] (by kernel_rfl), hS, hm⟩
                · obtain ⟨hp2, hm⟩ := asrt_b hm
                  obtain ⟨r3, hr3, hm⟩ := call_b hm
                  refine reg [⟨false, [(decide (n2 < 4), true)], vS (Instr.loadAt 27 (pa g1 0)), .slice A1 p1.length c1⟩, ⟨true, [(decide (n2 < 4), true)], vS (Instr.indexAt 27 (.slice A1 p1.length c1) (vi from1)), .pointer (some (sAddr A1 from1))⟩, ⟨false, [(decide (n2 < 4), true)], vS (Instr.loadAt 3 (.pointer (some (sAddr A1 from1)))), vi (geti p1 from1)⟩, ⟨false, [(decide (n2 < 4), true)], callFunc 129 #[vi (geti p1 from1)], vi r3⟩] [none, none, none, none, some (.slice A1 p1.length c1), none, some (.pointer (some (sAddr A1 from1))), some (vi (geti p1 from1)), some (vi r3), none, none] [1, 3, 4, 5, 6, 7, 40] [pl 1 (pa g1 0), pl 3 (.slice A5 l4.length c5), pl 4 (vi from1), pl 5 (vi to1), pl 6 (.bool ok1), pl 7 (vi n2), pl 40 (.bool ((decide (n2 < 4)) && (r3 == 6)))] hF hS Fol (by kernel_rfl) (by kernel_rfl) (by kernel_rfl) ?_ (fun a w hF hS => ?_)
                  · exact obs_cons (ob_load Agg27 (fun _ _ hS => (hS.at_ 0 rfl).cell rfl)) <| obs_cons (ob_ix1 (f := (Value.int .i64)) (m := p1) Und27 hi3 hs3 (hr_p1 _ (hS.dropN 2)) rfl (fun hy => hp2 (hy (decide (n2 < 4), true) (by simp)))) <| obs_cons (ob_get1 (n := p1.length) (m := p1) (Value.int .i64) (0 : Int) Agg3 (fun _ hS => ⟨_, (hr_p1 _ (hS.dropN 2))⟩) (fun _ hS => rfl) (fun hy => hp2 (hy (decide (n2 < 4), true) (by simp)))) <| obs_cons (ob_call Try.func129 (by kernel_rfl) rfl (fun hy _ hS => rf_size_w (ite_some hr3 (by rw [show (decide (n2 < 4)) = true from hy (decide (n2 < 4), true) (by simp)]; try rfl)) hS )) <| obs_nil
                  refine cond_ev (t := 40) (b := (decide (n2 < 4)) && (r3 == 6)) hF (by kernel_rfl) (fun hb => ?_) (fun hb => ?_)
                  · replace hm := if_t hm hb
                    refine wpIn_skip ?_
                    refine then_n ?_
                    exact ⟨hF.weak [1, 3, 4, 5, 6, 7] (by kernel_rfl), hS, hm⟩
                  · replace hm := if_f hm hb
                    refine wpIn_exit ?_
                    refine then_e (then_e (block_e (then_n ?_)))
                    rw [← hφ3] at hm
                    replace hm := done_b hm
                    unfold rf_MovesAll_K3 at hm
                    try dsimp only at hm
                    have hm : ((rf_MovesAll_J7 p1 p2 p3 p4 p5 p6 from1 l4 to1) ok1).bind φ2 = some r := hm
                    exact ⟨ok1, hF.weak [1, 3, 4, 5, 6] (by kernel_rfl), hS, hm⟩
          · refine reg [] [] [1, 3, 4, 5, 23] [pl 1 (pa g1 0), pl 3 (.slice A5 l4.length c5), pl 4 (vi from1), pl 5 (vi to1), pl 23 (.bool (decide (to1 < 64)))] hF hS Fol (by kernel_rfl) (by kernel_rfl) (by kernel_rfl) obs_nil (fun a w hF hS => ?_)
            refine cond_ev (t := 23) (b := decide (to1 < 64)) hF (by kernel_rfl) (fun hb => ?_) (fun hb => ?_)
            · replace hm := if_t hm hb
              refine wpIn_skip ?_
              refine then_n ?_
              exact ⟨hF.weak [1, 3, 4, 5] (by kernel_rfl), hS, hm⟩
            · replace hm := if_f hm hb
              refine wpIn_exit ?_
              refine then_e (then_e (block_e (block_n (then_n ?_))))
              rw [← hφ2] at hm
              replace hm := done_b hm
              unfold rf_MovesAll_K2 at hm
              try dsimp only at hm
              have hm : ((rf_MovesAll_J3 from1) l4).bind φ1 = some r := hm
              exact ⟨l4, A5, c5, hF.weak [1, 3, 4] (by kernel_rfl), hS, hm⟩
        · obtain ⟨hp1, hm⟩ := asrt_b hm
          obtain ⟨r1, hr1, hm⟩ := call_b hm
          refine reg [⟨false, [], vS (Instr.loadAt 27 (pa g1 0)), .slice A1 p1.length c1⟩, ⟨true, [], vS (Instr.indexAt 27 (.slice A1 p1.length c1) (vi from1)), .pointer (some (sAddr A1 from1))⟩, ⟨false, [], vS (Instr.loadAt 3 (.pointer (some (sAddr A1 from1)))), vi (geti p1 from1)⟩, ⟨false, [], callFunc 138 #[vi (geti p1 from1)], vi r1⟩, ⟨false, [], vS (Instr.loadAt 3 (pa g1 1)), vi p2⟩] [none, some (.slice A1 p1.length c1), none, some (.pointer (some (sAddr A1 from1))), some (vi (geti p1 from1)), some (vi r1), none, some (vi p2), none] [1, 3, 4, 21] [pl 1 (pa g1 0), pl 3 (.slice A2 l1.length c2), pl 4 (vi from1), pl 21 (.bool (r1 != p2))] hF hS Fol (by kernel_rfl) (by kernel_rfl) (by kernel_rfl) ?_ (fun a w hF hS => ?_)
          · exact obs_cons (ob_load Agg27 (fun _ _ hS => (hS.at_ 0 rfl).cell rfl)) <| obs_cons (ob_ix1 (f := (Value.int .i64)) (m := p1) Und27 hi3 hs3 (hr_p1 _ (hS.dropN 2)) rfl (fun _ => hp1)) <| obs_cons (ob_get1 (n := p1.length) (m := p1) (Value.int .i64) (0 : Int) Agg3 (fun _ hS => ⟨_, (hr_p1 _ (hS.dropN 2))⟩) (fun _ hS => rfl) (fun _ => hp1)) <| obs_cons (ob_call Try.func138 (by kernel_rfl) rfl (fun _ _ hS => rf_pieceSide_w hr1 hS )) <| obs_cons (ob_load Agg3 (fun _ _ hS => (hS.at_ 0 rfl).cell rfl)) <| obs_nil
          refine cond_ev (t := 21) (b := (r1 != p2)) hF (by kernel_rfl) (fun hb => ?_) (fun hb => ?_)
          · replace hm := if_t hm hb
            refine wpIn_exit ?_
            refine then_e (block_e (then_n ?_))
            exact ⟨l1, A2, c2, hF.weak [1, 3, 4] (by kernel_rfl), hS, hm⟩
          · replace hm := if_f hm hb
            refine wpIn_skip ?_
            refine then_n ?_
            exact ⟨hF.weak [1, 3, 4] (by kernel_rfl), hS, hm⟩
    · refine reg [] [] [1, 3, 4, 10] [pl 1 (pa g1 0), pl 3 (.slice A2 l1.length c2), pl 4 (vi from1), pl 10 (.bool (decide (from1 < 64)))] hF hS Fol (by kernel_rfl) (by kernel_rfl) (by kernel_rfl) obs_nil (fun a w hF hS => ?_)
      refine cond_ev (t := 10) (b := decide (from1 < 64)) hF (by kernel_rfl) (fun hb => ?_) (fun hb => ?_)
      · replace hm := if_t hm hb
        refine wpIn_skip ?_
        refine then_n ?_
        exact ⟨hF.weak [1, 3, 4] (by kernel_rfl), hS, hm⟩
      · replace hm := if_f hm hb
        refine wpIn_exit ?_
        refine then_e (then_e (block_e (then_n ?_)))
        have hS := hS.pickN 2 [1] (by decide)
        rw [← hφ1] at hm
        replace hm := done_b hm
        unfold rf_MovesAll_K1 at hm
        try dsimp only at hm
        have hm : (rf_MovesAll_J1 l1).bind some = some r := hm
        exact ⟨l1, A2, c2, hF.weak [3] (by kernel_rfl), hS, hm⟩

end Go.Proofs.Ytfmmlmiakkjaiaa
