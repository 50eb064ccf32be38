/-
  Models and walks, printed by our own program (wip/gen).
-/
import Derived.Test.YtogecbgngnjhgaaFB
import Derived.Test.YtogecbgngnjhgaaNBc
namespace Go.Proofs.Ytogecbgngnjhgaa
open Go Go.GL Go.RowKit

noncomputable def gameroomref_BestDrop_m (g1 : Int) (g2 : Int) (g3 : List Int) (k1 : Int) (deep1 : Int) (who1 : Int) (ply1 : Int) : Option (Int × Int) :=
  recM fun n => gameroomref_BestDrop_mF n g1 g2 g3 k1 deep1 who1 ply1

set_option maxRecDepth 100000 in
set_option maxHeartbeats 4000000 in
theorem gameroomref_BestDrop_wB {rec_gameroomref_BestDrop : Int → Int → List Int → Int → Int → Int → Int → Option (Int × Int)} (ih_gameroomref_BestDrop : ∀ {g1 : Int} {g2 : Int} {A1 : Option Addr} {c1 : Nat} {n1 : Nat} {g3 : List Int} {k1 : Int} {deep1 : Int} {who1 : Int} {ply1 : Int} {r : (Int × Int)} {w0 w : World} {B : Nat} {fs : List HP} (_ : rec_gameroomref_BestDrop g1 g2 g3 k1 deep1 who1 ply1 = some r) (_ : Sep w0 B w (fs)) (hr_g3 : RdF w0 B fs A1 (vI g3)) (_hc_g3 : g3.length ≤ c1) (_hn_g3 : n1 = g3.length), Calls Try.prog 36 #[.agg #[.int .i64 g1, .int .i64 g2, .slice A1 n1 c1], .int .i64 k1, .int .i64 deep1, .int .i64 who1, .int .i64 ply1] w fun e w' => e = .returned (.tuple #[.int .i64 r.1, .int .i64 r.2]) ∧ Sep w0 B w' (fs)) {g1 : Int} {g2 : Int} {A1 : Option Addr} {c1 : Nat} {n1 : Nat} {g3 : List Int} {k1 : Int} {deep1 : Int} {who1 : Int} {ply1 : Int} {r : (Int × Int)} {w0 w : World} {B : Nat} {fs : List HP} (hm : gameroomref_BestDrop_B rec_gameroomref_BestDrop g1 g2 g3 k1 deep1 who1 ply1 = some r) (hS : Sep w0 B w (fs)) (hr_g3 : RdF w0 B fs A1 (vI g3)) (_hc_g3 : g3.length ≤ c1) (_hn_g3 : n1 = g3.length) :
    Calls Try.prog 36 #[.agg #[.int .i64 g1, .int .i64 g2, .slice A1 n1 c1], .int .i64 k1, .int .i64 deep1, .int .i64 who1, .int .i64 ply1] w fun e w' => e = .returned (.tuple #[.int .i64 r.1, .int .i64 r.2]) ∧ Sep w0 B w' (fs) := by
  obtain ⟨i3, hi3, hz3, hs3, hb3⟩ := info_parts Info3
  obtain rfl := _hn_g3
  unfold gameroomref_BestDrop_B at hm
  replace hm := start_b hm
  refine enter (l := [.agg #[.int .i64 g1, .int .i64 g2, .slice A1 g3.length c1], .int .i64 k1, .int .i64 deep1, .int .i64 who1, .int .i64 ply1]) (n := 79) Try.func36 rfl rfl (by simp) (fun a hF => ?_)
  refine seqR ?_
  refine at_do (d := 5) (s := vS (Instr.box 24 (.agg #[.int .i64 g1, .int .i64 g2, .slice A1 g3.length c1]))) (v := .pointer (some ⟨w.heap.size, 0, none⟩)) (w' := w.alloc (.cells #[.int .i64 g1, .int .i64 g2, .slice A1 g3.length c1] 24)) hF (by kernel_rfl) (by kernel_rfl) (by kernel_rfl) (fun a hF => ?_)
  have hS : Sep w0 B (w.alloc (.cells #[.int .i64 g1, .int .i64 g2, .slice A1 g3.length c1] 24)) (blk w.heap.size 24 #[.int .i64 g1, .int .i64 g2, .slice A1 g3.length c1] :: (fs)) := hS.box 24 #[.int .i64 g1, .int .i64 g2, .slice A1 g3.length c1]
  generalize w.heap.size = g4 at hF hS
  generalize w.alloc (.cells #[.int .i64 g1, .int .i64 g2, .slice A1 g3.length c1] 24) = w at hS ⊢
  refine at_run 2 [] [] [1, 2, 3, 4, 5] [pl 1 (.int .i64 k1), pl 2 (.int .i64 deep1), pl 3 (.int .i64 who1), pl 4 (.int .i64 ply1), pl 5 (.pointer (some ⟨g4, 0, none⟩))] hF hS (by kernel_rfl) (by kernel_rfl) ?_ (fun a w hF hS => ?_)
  · exact obs_nil
  refine at_end [1, 2, 3, 4, 5] [pl 1 (.int .i64 k1), pl 2 (.int .i64 deep1), pl 3 (.int .i64 who1), pl 4 (.int .i64 ply1), pl 5 (.pointer (some ⟨g4, 0, none⟩))] hF rfl (by kernel_rfl) (fun hF => ?_)
  refine then_n ?_
  refine seqR ?_
  obtain ⟨r1, hr1, hm⟩ := call_b hm
  refine at_run 2 [⟨false, [], vS (Instr.loadAt 24 (.pointer (some ⟨g4, 0, none⟩))), .agg #[.int .i64 g1, .int .i64 g2, .slice A1 g3.length c1]⟩] [some (.agg #[.int .i64 g1, .int .i64 g2, .slice A1 g3.length c1]), none] [1, 2, 3, 4, 5, 22, 23] [pl 1 (.int .i64 k1), pl 2 (.int .i64 deep1), pl 3 (.int .i64 who1), pl 4 (.int .i64 ply1), pl 5 (.pointer (some ⟨g4, 0, none⟩)), pl 22 (.agg #[.int .i64 g1, .int .i64 g2, .slice A1 g3.length c1]), pl 23 (.int .i64 k1)] hF hS (by kernel_rfl) (by kernel_rfl) ?_ (fun a w hF hS => ?_)
  · exact obs_cons (ob_loadA (cs := #[.int .i64 g1, .int .i64 g2, .slice A1 g3.length c1]) (by kernel_rfl) (by kernel_rfl) (fun _ _ hS => (hS.at_ 0 rfl).cellsAt 0 (by rfl))) <| obs_nil
  refine at_call (f := 79) (args := #[.agg #[.int .i64 g1, .int .i64 g2, .slice A1 g3.length c1], .int .i64 k1]) (d := 24) hF (by kernel_rfl) (by kernel_rfl) Try.func79 (by kernel_rfl) rfl (gameroomref_WonOf_w hr1 hS (fun _ hS => (hr_g3 _ (hS.dropN 1))) _hc_g3 rfl) (fun v a w hR hF => ?_)
  clear hS
  obtain ⟨A2, c2, rfl, hS⟩ := hR
  have hS : Sep w0 B w (own 3 (.slice A2 r1.2.length c2) (vI r1.2) :: blk g4 24 #[.int .i64 g1, .int .i64 g2, .slice A1 g3.length c1] :: fs) := hS
  refine at_run 5 [] [] [1, 2, 3, 4, 5, 12] [pl 1 (.int .i64 k1), pl 2 (.int .i64 deep1), pl 3 (.int .i64 who1), pl 4 (.int .i64 ply1), pl 5 (.pointer (some ⟨g4, 0, none⟩)), pl 12 (.int .i64 r1.1)] hF hS (by kernel_rfl) (by kernel_rfl) ?_ (fun a w hF hS => ?_)
  · exact obs_nil
  refine at_end [1, 2, 3, 4, 5, 12] [pl 1 (.int .i64 k1), pl 2 (.int .i64 deep1), pl 3 (.int .i64 who1), pl 4 (.int .i64 ply1), pl 5 (.pointer (some ⟨g4, 0, none⟩)), pl 12 (.int .i64 r1.1)] hF rfl (by kernel_rfl) (fun hF => ?_)
  refine then_n ?_
  refine seq_cut (fun a w => Fr 79 [pl 1 (.int .i64 k1), pl 2 (.int .i64 deep1), pl 3 (.int .i64 who1), pl 4 (.int .i64 ply1), pl 5 (.pointer (some ⟨g4, 0, none⟩)), pl 12 (.int .i64 r1.1)] a ∧ Sep w0 B w (blk g4 24 #[.int .i64 g1, .int .i64 g2, .slice A1 g3.length c1] :: fs) ∧ ((gameroomref_BestDrop_J1 rec_gameroomref_BestDrop g1 g2 g3 k1 deep1 who1 ply1 r1)).bind some = some r) ?_ ?_
  · rintro a w ⟨hF, hS, hm⟩
    unfold gameroomref_BestDrop_J1 at hm
    refine seq_cut (fun a w => Fr 79 [pl 1 (.int .i64 k1), pl 2 (.int .i64 deep1), pl 3 (.int .i64 who1), pl 4 (.int .i64 ply1), pl 5 (.pointer (some ⟨g4, 0, none⟩))] a ∧ Sep w0 B w (blk g4 24 #[.int .i64 g1, .int .i64 g2, .slice A1 g3.length c1] :: fs) ∧ ((gameroomref_BestDrop_J2 rec_gameroomref_BestDrop g1 g2 g3 k1 deep1 who1 ply1)).bind some = some r) ?_ ?_
    · rintro a w ⟨hF, hS, hm⟩
      unfold gameroomref_BestDrop_J2 at hm
      refine seq_cut (fun a w => Fr 79 [pl 1 (.int .i64 k1), pl 2 (.int .i64 deep1), pl 3 (.int .i64 who1), pl 4 (.int .i64 ply1), pl 5 (.pointer (some ⟨g4, 0, none⟩))] a ∧ Sep w0 B w (blk g4 24 #[.int .i64 g1, .int .i64 g2, .slice A1 g3.length c1] :: fs) ∧ ((gameroomref_BestDrop_J3 rec_gameroomref_BestDrop g1 g2 g3 k1 deep1 who1 ply1)).bind some = some r) ?_ ?_
      · rintro a w ⟨hF, hS, hm⟩
        unfold gameroomref_BestDrop_J3 at hm
        refine reg [] [] [1, 2, 3, 4, 5, 14, 15] [pl 1 (.int .i64 k1), pl 2 (.int .i64 deep1), pl 3 (.int .i64 who1), pl 4 (.int .i64 ply1), pl 5 (.pointer (some ⟨g4, 0, none⟩)), pl 14 (.int .i64 (-1000)), pl 15 (.int .i64 (-1))] hF hS Fol (by kernel_rfl) (by kernel_rfl) (by kernel_rfl) ?_ (fun a w hF hS => ?_)
        · exact obs_nil
        refine seq_cut (fun a w => ∃ (best2 : Int) (where2 : Int), Fr 79 [pl 14 (.int .i64 best2), pl 15 (.int .i64 where2)] a ∧ Sep w0 B w (fs) ∧ (gameroomref_BestDrop_J4 best2 where2).bind some = some r) ?_ ?_
        · rintro a w ⟨best2, where2, hF, hS, hm⟩
          unfold gameroomref_BestDrop_J4 at hm
          refine seq_cut (fun a w => Fr 79 [pl 14 (.int .i64 best2), pl 15 (.int .i64 where2)] a ∧ Sep w0 B w (fs) ∧ ((gameroomref_BestDrop_J8 best2 where2)).bind some = some r) ?_ ?_
          · rintro a w ⟨hF, hS, hm⟩
            unfold gameroomref_BestDrop_J8 at hm
            refine reg [] [] [10, 11] [pl 10 (.int .i64 best2), pl 11 (.int .i64 where2)] hF hS Fol (by kernel_rfl) (by kernel_rfl) (by kernel_rfl) ?_ (fun a w hF hS => ?_)
            · exact obs_nil
            refine wp_ret ?_
            have hm : some (best2, where2) = some r := hm
            obtain rfl := Option.some.inj hm
            exact retV (rs := [.tmp 10, .tmp 11]) (vs := [.int .i64 best2, .int .i64 where2]) hF rfl (rv_t (by kernel_rfl) <| rv_t (by kernel_rfl) <| rv_nil) rfl ⟨rfl, hS⟩
          · refine reg [] [] [14, 15, 76] [pl 14 (.int .i64 best2), pl 15 (.int .i64 where2), pl 76 (.bool (decide (where2 < 0)))] hF hS Fol (by kernel_rfl) (by kernel_rfl) (by kernel_rfl) ?_ (fun a w hF hS => ?_)
            · exact obs_nil
            refine cond_ev (t := 76) (b := decide (where2 < 0)) hF (by kernel_rfl) (fun hb => ?_) (fun hb => ?_)
            · replace hm := if_t hm hb
              refine reg [] [] [10, 11] [pl 10 (.int .i64 0), pl 11 (.int .i64 (-1))] hF hS Fol (by kernel_rfl) (by kernel_rfl) (by kernel_rfl) ?_ (fun a w hF hS => ?_)
              · exact obs_nil
              refine wp_ret ?_
              refine then_r ?_
              have hm : some (0, (-1)) = some r := hm
              obtain rfl := Option.some.inj hm
              exact retV (rs := [.tmp 10, .tmp 11]) (vs := [.int .i64 0, .int .i64 (-1)]) hF rfl (rv_t (by kernel_rfl) <| rv_t (by kernel_rfl) <| rv_nil) rfl ⟨rfl, hS⟩
            · replace hm := if_f hm hb
              refine wp_skip ?_
              refine then_n ?_
              exact ⟨hF.weak [14, 15] (by kernel_rfl), hS, hm⟩
        · refine reg [] [] [1, 2, 3, 4, 5, 14, 15, 16] [pl 1 (.int .i64 k1), pl 2 (.int .i64 deep1), pl 3 (.int .i64 who1), pl 4 (.int .i64 ply1), pl 5 (.pointer (some ⟨g4, 0, none⟩)), pl 14 (.int .i64 (-1000)), pl 15 (.int .i64 (-1)), pl 16 (.int .i64 0)] hF hS Fol (by kernel_rfl) (by kernel_rfl) (by kernel_rfl) ?_ (fun a w hF hS => ?_)
          · exact obs_nil
          refine wp_block ?_
          refine wp_loop_model (S := (Int × Int × Int)) (R := (Int × Int)) (gameroomref_BestDrop_L1 rec_gameroomref_BestDrop g1 g2 g3 k1 deep1 who1 ply1) (fun x => (gameroomref_BestDrop_K1 x).bind some) r (fun (x : (Int × Int × Int)) a w => Fr 79 [pl 1 (.int .i64 k1), pl 2 (.int .i64 deep1), pl 3 (.int .i64 who1), pl 4 (.int .i64 ply1), pl 5 (.pointer (some ⟨g4, 0, none⟩)), pl 14 (.int .i64 x.1), pl 15 (.int .i64 x.2.1), pl 16 (.int .i64 x.2.2)] a ∧ Sep w0 B w (blk g4 24 #[.int .i64 g1, .int .i64 g2, .slice A1 g3.length c1] :: fs)) (assoc_b hm) ⟨hF.weak [1, 2, 3, 4, 5, 14, 15, 16] (by kernel_rfl), hS⟩ ?_
          clear hF hS hm
          rintro nn1 ⟨best1, where1, c3⟩ a w ⟨hF, hS⟩ hm
          generalize hφ1 : stK (gameroomref_BestDrop_L1 rec_gameroomref_BestDrop g1 g2 g3 k1 deep1 who1 ply1) nn1 (fun x => (gameroomref_BestDrop_K1 x).bind some) = φ1 at hm
          unfold gameroomref_BestDrop_L1 at hm
          dsimp only at hF hS hm
          refine seq_cut (fun a w => Fr 79 [pl 1 (.int .i64 k1), pl 2 (.int .i64 deep1), pl 3 (.int .i64 who1), pl 4 (.int .i64 ply1), pl 5 (.pointer (some ⟨g4, 0, none⟩)), pl 14 (.int .i64 best1), pl 15 (.int .i64 where1), pl 16 (.int .i64 c3)] a ∧ Sep w0 B w (blk g4 24 #[.int .i64 g1, .int .i64 g2, .slice A1 g3.length c1] :: fs) ∧ ((gameroomref_BestDrop_J5 rec_gameroomref_BestDrop g1 g2 g3 k1 deep1 who1 ply1 best1 where1 c3)).bind φ1 = some r) ?_ ?_
          · rintro a w ⟨hF, hS, hm⟩
            unfold gameroomref_BestDrop_J5 at hm
            refine seq_cut (fun a w => ∃ (best3 : Int) (where3 : Int), Fr 79 [pl 1 (.int .i64 k1), pl 2 (.int .i64 deep1), pl 3 (.int .i64 who1), pl 4 (.int .i64 ply1), pl 5 (.pointer (some ⟨g4, 0, none⟩)), pl 14 (.int .i64 best3), pl 15 (.int .i64 where3), pl 16 (.int .i64 c3)] a ∧ Sep w0 B w (blk g4 24 #[.int .i64 g1, .int .i64 g2, .slice A1 g3.length c1] :: fs) ∧ ((gameroomref_BestDrop_J6 c3) best3 where3).bind φ1 = some r) ?_ ?_
            · rintro a w ⟨best3, where3, hF, hS, hm⟩
              unfold gameroomref_BestDrop_J6 at hm
              refine reg1 [] [] [1, 2, 3, 4, 5, 14, 15, 16] [pl 1 (.int .i64 k1), pl 2 (.int .i64 deep1), pl 3 (.int .i64 who1), pl 4 (.int .i64 ply1), pl 5 (.pointer (some ⟨g4, 0, none⟩)), pl 14 (.int .i64 best3), pl 15 (.int .i64 where3), pl 16 (.int .i64 (w64 (c3 + 1)))] hF hS Fol (by kernel_rfl) (by kernel_rfl) (by kernel_rfl) ?_ (fun a w hF hS => ?_)
              · exact obs_nil
              refine then_n ?_
              rw [← hφ1] at hm
              exact ⟨(best3, where3, (w64 (c3 + 1))), ⟨hF.weak [1, 2, 3, 4, 5, 14, 15, 16] (by kernel_rfl), hS⟩, hm⟩
            · refine wp_block ?_
              obtain ⟨r2, hr2, hm⟩ := call_b hm
              refine reg [⟨false, [], vS (Instr.loadAt 24 (.pointer (some ⟨g4, 0, none⟩))), .agg #[.int .i64 g1, .int .i64 g2, .slice A1 g3.length c1]⟩, ⟨false, [], callFunc 80 #[.agg #[.int .i64 g1, .int .i64 g2, .slice A1 g3.length c1], .int .i64 c3], .int .i64 r2⟩] [some (.agg #[.int .i64 g1, .int .i64 g2, .slice A1 g3.length c1]), none, some (.int .i64 r2), none] [1, 2, 3, 4, 5, 14, 15, 16, 17] [pl 1 (.int .i64 k1), pl 2 (.int .i64 deep1), pl 3 (.int .i64 who1), pl 4 (.int .i64 ply1), pl 5 (.pointer (some ⟨g4, 0, none⟩)), pl 14 (.int .i64 best1), pl 15 (.int .i64 where1), pl 16 (.int .i64 c3), pl 17 (.int .i64 r2)] hF hS Fol (by kernel_rfl) (by kernel_rfl) (by kernel_rfl) ?_ (fun a w hF hS => ?_)
              · exact obs_cons (ob_loadA (cs := #[.int .i64 g1, .int .i64 g2, .slice A1 g3.length c1]) (by kernel_rfl) (by kernel_rfl) (fun _ _ hS => (hS.at_ 0 rfl).cellsAt 0 (by rfl))) <| obs_cons (ob_call Try.func80 (by kernel_rfl) rfl (fun _ _ hS => gameroomref_fallTo_w hr2 hS (fun _ hS => (hr_g3 _ (hS.dropN 1))) _hc_g3 rfl)) <| obs_nil
              refine seq_cut (fun a w => Fr 79 [pl 1 (.int .i64 k1), pl 2 (.int .i64 deep1), pl 3 (.int .i64 who1), pl 4 (.int .i64 ply1), pl 5 (.pointer (some ⟨g4, 0, none⟩)), pl 14 (.int .i64 best1), pl 15 (.int .i64 where1), pl 16 (.int .i64 c3), pl 17 (.int .i64 r2)] a ∧ Sep w0 B w (blk g4 24 #[.int .i64 g1, .int .i64 g2, .slice A1 g3.length c1] :: fs) ∧ ((gameroomref_BestDrop_J7 rec_gameroomref_BestDrop g1 g2 g3 k1 deep1 who1 ply1 best1 where1 c3 r2)).bind φ1 = some r) ?_ ?_
              · rintro a w ⟨hF, hS, hm⟩
                unfold gameroomref_BestDrop_J7 at hm
                refine seqR ?_
                obtain ⟨r3, hr3, hm⟩ := call_b hm
                refine at_run 1 [⟨false, [], vS (Instr.loadAt 24 (.pointer (some ⟨g4, 0, none⟩))), .agg #[.int .i64 g1, .int .i64 g2, .slice A1 g3.length c1]⟩] [some (.agg #[.int .i64 g1, .int .i64 g2, .slice A1 g3.length c1])] [1, 2, 3, 4, 5, 14, 15, 16, 17, 50] [pl 1 (.int .i64 k1), pl 2 (.int .i64 deep1), pl 3 (.int .i64 who1), pl 4 (.int .i64 ply1), pl 5 (.pointer (some ⟨g4, 0, none⟩)), pl 14 (.int .i64 best1), pl 15 (.int .i64 where1), pl 16 (.int .i64 c3), pl 17 (.int .i64 r2), pl 50 (.agg #[.int .i64 g1, .int .i64 g2, .slice A1 g3.length c1])] hF hS (by kernel_rfl) (by kernel_rfl) ?_ (fun a w hF hS => ?_)
                · exact obs_cons (ob_loadA (cs := #[.int .i64 g1, .int .i64 g2, .slice A1 g3.length c1]) (by kernel_rfl) (by kernel_rfl) (fun _ _ hS => (hS.at_ 0 rfl).cellsAt 0 (by rfl))) <| obs_nil
                refine at_call (f := 13) (args := #[.agg #[.int .i64 g1, .int .i64 g2, .slice A1 g3.length c1]]) (d := 51) hF (by kernel_rfl) (by kernel_rfl) Try.func13 (by kernel_rfl) rfl (gameroomref_GridOf_w hr3 hS (fun _ hS => (hr_g3 _ (hS.dropN 1))) _hc_g3 rfl) (fun v a w hR hF => ?_)
                clear hS
                obtain ⟨A3, c4, rfl, hS⟩ := hR
                have hS : Sep w0 B w (own 3 (.slice A3 r3.2.2.length c4) (vI r3.2.2) :: blk g4 24 #[.int .i64 g1, .int .i64 g2, .slice A1 g3.length c1] :: fs) := hS
                refine at_do (d := 18) (s := vS (Instr.alloc 24 true (.tuple #[]))) (v := .pointer (some ⟨w.heap.size, 0, none⟩)) (w' := w.alloc (.cells #[.int .i64 0, .int .i64 0, .slice none 0 0] 24)) hF (by kernel_rfl) (by kernel_rfl) (by kernel_rfl) (fun a hF => ?_)
                have hS : Sep w0 B (w.alloc (.cells #[.int .i64 0, .int .i64 0, .slice none 0 0] 24)) (blk w.heap.size 24 #[.int .i64 0, .int .i64 0, .slice none 0 0] :: (own 3 (.slice A3 r3.2.2.length c4) (vI r3.2.2) :: blk g4 24 #[.int .i64 g1, .int .i64 g2, .slice A1 g3.length c1] :: fs)) := hS.box 24 #[.int .i64 0, .int .i64 0, .slice none 0 0]
                generalize w.heap.size = g5 at hF hS
                generalize w.alloc (.cells #[.int .i64 0, .int .i64 0, .slice none 0 0] 24) = w at hS ⊢
                obtain ⟨w, hrun, hS⟩ := run_putA (P := Try.prog) (t := 24) (us := #[.int .i64 r3.1, .int .i64 r3.2.1, .slice A3 r3.2.2.length c4]) (o := 0) (hS.at_ 0 rfl) (by kernel_rfl) (all_one (by kernel_rfl)) (Nat.le_of_ble_eq_true (by kernel_rfl))
                refine at_skip hF (by kernel_rfl) hrun ?_
                have hS : Sep w0 B w (blk g5 24 #[.int .i64 r3.1, .int .i64 r3.2.1, .slice A3 r3.2.2.length c4] :: own 3 (.slice A3 r3.2.2.length c4) (vI r3.2.2) :: blk g4 24 #[.int .i64 g1, .int .i64 g2, .slice A1 g3.length c1] :: fs) := hS
                refine at_end [1, 2, 3, 4, 5, 14, 15, 16, 17, 18] [pl 1 (.int .i64 k1), pl 2 (.int .i64 deep1), pl 3 (.int .i64 who1), pl 4 (.int .i64 ply1), pl 5 (.pointer (some ⟨g4, 0, none⟩)), pl 14 (.int .i64 best1), pl 15 (.int .i64 where1), pl 16 (.int .i64 c3), pl 17 (.int .i64 r2), pl 18 (.pointer (some ⟨g5, 0, none⟩))] hF rfl (by kernel_rfl) (fun hF => ?_)
                refine then_n ?_
                refine seqR ?_
                obtain ⟨hp1, hm⟩ := asrt_b hm
                refine at_run 5 [⟨false, [], vS (Instr.loadAt 22 (.pointer (some ⟨g5, 2, none⟩))), .slice A3 r3.2.2.length c4⟩, ⟨true, [], vS (Instr.indexAt 22 (.slice A3 r3.2.2.length c4) (.int .i64 r2)), .pointer (some (sAddr A3 r2))⟩] [none, some (.slice A3 r3.2.2.length c4), none, none, some (.pointer (some (sAddr A3 r2)))] [1, 2, 3, 4, 5, 14, 15, 16, 18, 55, 56] [pl 1 (.int .i64 k1), pl 2 (.int .i64 deep1), pl 3 (.int .i64 who1), pl 4 (.int .i64 ply1), pl 5 (.pointer (some ⟨g4, 0, none⟩)), pl 14 (.int .i64 best1), pl 15 (.int .i64 where1), pl 16 (.int .i64 c3), pl 18 (.pointer (some ⟨g5, 0, none⟩)), pl 55 (.int .i64 who1), pl 56 (.pointer (some (sAddr A3 r2)))] hF hS (by kernel_rfl) (by kernel_rfl) ?_ (fun a w hF hS => ?_)
                · exact obs_cons (ob_load Agg22 (fun _ _ hS => (hS.at_ 0 rfl).cell rfl)) <| obs_cons (ob_ix1 (f := (Value.int .i64)) (m := r3.2.2) Und22 hi3 hs3 (hS.at_ 1 rfl).rd rfl (fun _ => hp1)) <| obs_nil
                obtain ⟨w, hrun, hS⟩ := run_set1 (P := Try.prog) (t := 3) (x := who1) (Value.int .i64) (hS.at_ 1 rfl) hi3 hs3 rfl rfl hp1
                refine at_skip hF (by kernel_rfl) hrun ?_
                have hS : Sep w0 B w (blk g5 24 #[.int .i64 r3.1, .int .i64 r3.2.1, .slice A3 r3.2.2.length c4] :: own 3 (.slice A3 r3.2.2.length c4) (vI (r3.2.2.set (Int.toNat r2) who1)) :: blk g4 24 #[.int .i64 g1, .int .i64 g2, .slice A1 g3.length c1] :: fs) := hS
                refine at_end [1, 2, 3, 4, 5, 14, 15, 16, 18] [pl 1 (.int .i64 k1), pl 2 (.int .i64 deep1), pl 3 (.int .i64 who1), pl 4 (.int .i64 ply1), pl 5 (.pointer (some ⟨g4, 0, none⟩)), pl 14 (.int .i64 best1), pl 15 (.int .i64 where1), pl 16 (.int .i64 c3), pl 18 (.pointer (some ⟨g5, 0, none⟩))] hF rfl (by kernel_rfl) (fun hF => ?_)
                refine then_n ?_
                obtain ⟨r4, hr4, hm⟩ := call_b hm
                refine reg [⟨false, [], vS (Instr.loadAt 24 (.pointer (some ⟨g5, 0, none⟩))), .agg #[.int .i64 r3.1, .int .i64 r3.2.1, .slice A3 r3.2.2.length c4]⟩, ⟨false, [], callFunc 36 #[.agg #[.int .i64 r3.1, .int .i64 r3.2.1, .slice A3 r3.2.2.length c4], .int .i64 k1, .int .i64 deep1, .int .i64 (w64 (3 - who1)), .int .i64 (w64 (ply1 + 1))], .tuple #[.int .i64 r4.1, .int .i64 r4.2]⟩] [some (.agg #[.int .i64 r3.1, .int .i64 r3.2.1, .slice A3 r3.2.2.length c4]), none, none, none, none, none, none, some (.tuple #[.int .i64 r4.1, .int .i64 r4.2]), none, none, none, none, none] [1, 2, 3, 4, 5, 14, 15, 16, 19] [pl 1 (.int .i64 k1), pl 2 (.int .i64 deep1), pl 3 (.int .i64 who1), pl 4 (.int .i64 ply1), pl 5 (.pointer (some ⟨g4, 0, none⟩)), pl 14 (.int .i64 best1), pl 15 (.int .i64 where1), pl 16 (.int .i64 c3), pl 19 (.int .i64 r4.1)] hF hS Fol (by kernel_rfl) (by kernel_rfl) (by kernel_rfl) ?_ (fun a w hF hS => ?_)
                · exact obs_cons (ob_loadA (cs := #[.int .i64 r3.1, .int .i64 r3.2.1, .slice A3 r3.2.2.length c4]) (by kernel_rfl) (by kernel_rfl) (fun _ _ hS => (hS.at_ 0 rfl).cellsAt 0 (by rfl))) <| obs_cons (ob_call Try.func36 (by kernel_rfl) rfl (fun _ _ hS => ih_gameroomref_BestDrop hr4 hS (fun _ hS => (hS.at_ 1 rfl).rd) ((hS.at_ 1 rfl).cap1) ((hS.at_ 1 rfl).len1))) <| obs_nil
                refine reg [] [] [1, 2, 3, 4, 5, 14, 15, 16, 19, 71] [pl 1 (.int .i64 k1), pl 2 (.int .i64 deep1), pl 3 (.int .i64 who1), pl 4 (.int .i64 ply1), pl 5 (.pointer (some ⟨g4, 0, none⟩)), pl 14 (.int .i64 best1), pl 15 (.int .i64 where1), pl 16 (.int .i64 c3), pl 19 (.int .i64 r4.1), pl 71 (.bool (decide (best1 < (w64 (0 - r4.1)))))] hF hS Fol (by kernel_rfl) (by kernel_rfl) (by kernel_rfl) ?_ (fun a w hF hS => ?_)
                · exact obs_nil
                refine cond_ev (t := 71) (b := decide (best1 < (w64 (0 - r4.1)))) hF (by kernel_rfl) (fun hb => ?_) (fun hb => ?_)
                · replace hm := if_t hm hb
                  refine reg [] [] [1, 2, 3, 4, 5, 14, 16] [pl 1 (.int .i64 k1), pl 2 (.int .i64 deep1), pl 3 (.int .i64 who1), pl 4 (.int .i64 ply1), pl 5 (.pointer (some ⟨g4, 0, none⟩)), pl 14 (.int .i64 (w64 (0 - r4.1))), pl 16 (.int .i64 c3)] hF hS Fol (by kernel_rfl) (by kernel_rfl) (by kernel_rfl) ?_ (fun a w hF hS => ?_)
                  · exact obs_nil
                  refine reg1 [] [] [1, 2, 3, 4, 5, 14, 15, 16] [pl 1 (.int .i64 k1), pl 2 (.int .i64 deep1), pl 3 (.int .i64 who1), pl 4 (.int .i64 ply1), pl 5 (.pointer (some ⟨g4, 0, none⟩)), pl 14 (.int .i64 (w64 (0 - r4.1))), pl 15 (.int .i64 c3), pl 16 (.int .i64 c3)] hF hS Fol (by kernel_rfl) (by kernel_rfl) (by kernel_rfl) ?_ (fun a w hF hS => ?_)
                  · exact obs_nil
                  refine block_n ?_
                  refine then_n ?_
                  have hS := hS.pickN 3 [2] (by decide)
                  exact ⟨(w64 (0 - r4.1)), c3, hF.weak [1, 2, 3, 4, 5, 14, 15, 16] (by kernel_rfl), hS, hm⟩
                · replace hm := if_f hm hb
                  refine wp_skip ?_
                  refine block_n ?_
                  refine then_n ?_
                  have hS := hS.pickN 3 [2] (by decide)
                  exact ⟨best1, where1, hF.weak [1, 2, 3, 4, 5, 14, 15, 16] (by kernel_rfl), hS, hm⟩
              · refine reg [] [] [1, 2, 3, 4, 5, 14, 15, 16, 17, 49] [pl 1 (.int .i64 k1), pl 2 (.int .i64 deep1), pl 3 (.int .i64 who1), pl 4 (.int .i64 ply1), pl 5 (.pointer (some ⟨g4, 0, none⟩)), pl 14 (.int .i64 best1), pl 15 (.int .i64 where1), pl 16 (.int .i64 c3), pl 17 (.int .i64 r2), pl 49 (.bool (decide (r2 < 0)))] hF hS Fol (by kernel_rfl) (by kernel_rfl) (by kernel_rfl) ?_ (fun a w hF hS => ?_)
                · exact obs_nil
                refine cond_ev (t := 49) (b := decide (r2 < 0)) hF (by kernel_rfl) (fun hb => ?_) (fun hb => ?_)
                · replace hm := if_t hm hb
                  refine wp_exit ?_
                  refine then_e (block_e (then_n ?_))
                  exact ⟨best1, where1, hF.weak [1, 2, 3, 4, 5, 14, 15, 16] (by kernel_rfl), hS, hm⟩
                · replace hm := if_f hm hb
                  refine wp_skip ?_
                  refine then_n ?_
                  exact ⟨hF.weak [1, 2, 3, 4, 5, 14, 15, 16, 17] (by kernel_rfl), hS, hm⟩
          · refine reg [⟨false, [], vS (Instr.loadAt 3 (.pointer (some ⟨g4, 0, none⟩))), .int .i64 g1⟩] [none, none, some (.int .i64 g1), none] [1, 2, 3, 4, 5, 14, 15, 16, 42] [pl 1 (.int .i64 k1), pl 2 (.int .i64 deep1), pl 3 (.int .i64 who1), pl 4 (.int .i64 ply1), pl 5 (.pointer (some ⟨g4, 0, none⟩)), pl 14 (.int .i64 best1), pl 15 (.int .i64 where1), pl 16 (.int .i64 c3), pl 42 (.bool (decide (c3 < g1)))] hF hS Fol (by kernel_rfl) (by kernel_rfl) (by kernel_rfl) ?_ (fun a w hF hS => ?_)
            · exact obs_cons (ob_load Agg3 (fun _ _ hS => (hS.at_ 0 rfl).cell rfl)) <| obs_nil
            refine cond_ev (t := 42) (b := decide (c3 < g1)) hF (by kernel_rfl) (fun hb => ?_) (fun hb => ?_)
            · replace hm := if_t hm hb
              refine wp_skip ?_
              refine then_n ?_
              exact ⟨hF.weak [1, 2, 3, 4, 5, 14, 15, 16] (by kernel_rfl), hS, hm⟩
            · replace hm := if_f hm hb
              refine wp_exit ?_
              refine then_e (then_e (block_e (then_n ?_)))
              have hS := hS.pickN 1 [] (by decide)
              rw [← hφ1] at hm
              replace hm := done_b hm
              unfold gameroomref_BestDrop_K1 at hm
              try dsimp only at hm
              have hm : (gameroomref_BestDrop_J4 best1 where1).bind some = some r := hm
              exact ⟨best1, where1, hF.weak [14, 15] (by kernel_rfl), hS, hm⟩
      · refine reg [] [] [1, 2, 3, 4, 5, 38] [pl 1 (.int .i64 k1), pl 2 (.int .i64 deep1), pl 3 (.int .i64 who1), pl 4 (.int .i64 ply1), pl 5 (.pointer (some ⟨g4, 0, none⟩)), pl 38 (.bool (ply1 == deep1))] hF hS Fol (by kernel_rfl) (by kernel_rfl) (by kernel_rfl) ?_ (fun a w hF hS => ?_)
        · exact obs_nil
        refine cond_ev (t := 38) (b := (ply1 == deep1)) hF (by kernel_rfl) (fun hb => ?_) (fun hb => ?_)
        · replace hm := if_t hm hb
          refine reg [] [] [10, 11] [pl 10 (.int .i64 0), pl 11 (.int .i64 (-1))] hF hS Fol (by kernel_rfl) (by kernel_rfl) (by kernel_rfl) ?_ (fun a w hF hS => ?_)
          · exact obs_nil
          refine wp_ret ?_
          refine then_r ?_
          have hS := hS.pickN 1 [] (by decide)
          have hm : some (0, (-1)) = some r := hm
          obtain rfl := Option.some.inj hm
          exact retV (rs := [.tmp 10, .tmp 11]) (vs := [.int .i64 0, .int .i64 (-1)]) hF rfl (rv_t (by kernel_rfl) <| rv_t (by kernel_rfl) <| rv_nil) rfl ⟨rfl, hS⟩
        · replace hm := if_f hm hb
          refine wp_skip ?_
          refine then_n ?_
          exact ⟨hF.weak [1, 2, 3, 4, 5] (by kernel_rfl), hS, hm⟩
    · refine reg [] [] [1, 2, 3, 4, 5, 33] [pl 1 (.int .i64 k1), pl 2 (.int .i64 deep1), pl 3 (.int .i64 who1), pl 4 (.int .i64 ply1), pl 5 (.pointer (some ⟨g4, 0, none⟩)), pl 33 (.bool (decide ((0 : Int) < r1.1)))] hF hS Fol (by kernel_rfl) (by kernel_rfl) (by kernel_rfl) ?_ (fun a w hF hS => ?_)
      · exact obs_nil
      refine cond_ev (t := 33) (b := decide ((0 : Int) < r1.1)) hF (by kernel_rfl) (fun hb => ?_) (fun hb => ?_)
      · replace hm := if_t hm hb
        refine reg [] [] [10, 11] [pl 10 (.int .i64 (w64 (ply1 - 100))), pl 11 (.int .i64 (-1))] hF hS Fol (by kernel_rfl) (by kernel_rfl) (by kernel_rfl) ?_ (fun a w hF hS => ?_)
        · exact obs_nil
        refine wp_ret ?_
        refine then_r ?_
        have hS := hS.pickN 1 [] (by decide)
        have hm : some ((w64 (ply1 - 100)), (-1)) = some r := hm
        obtain rfl := Option.some.inj hm
        exact retV (rs := [.tmp 10, .tmp 11]) (vs := [.int .i64 (w64 (ply1 - 100)), .int .i64 (-1)]) hF rfl (rv_t (by kernel_rfl) <| rv_t (by kernel_rfl) <| rv_nil) rfl ⟨rfl, hS⟩
      · replace hm := if_f hm hb
        refine wp_skip ?_
        refine then_n ?_
        exact ⟨hF.weak [1, 2, 3, 4, 5] (by kernel_rfl), hS, hm⟩
  · refine reg [] [] [1, 2, 3, 4, 5, 12, 29] [pl 1 (.int .i64 k1), pl 2 (.int .i64 deep1), pl 3 (.int .i64 who1), pl 4 (.int .i64 ply1), pl 5 (.pointer (some ⟨g4, 0, none⟩)), pl 12 (.int .i64 r1.1), pl 29 (.bool (r1.1 == who1))] hF hS Fol (by kernel_rfl) (by kernel_rfl) (by kernel_rfl) ?_ (fun a w hF hS => ?_)
    · exact obs_nil
    refine cond_ev (t := 29) (b := (r1.1 == who1)) hF (by kernel_rfl) (fun hb => ?_) (fun hb => ?_)
    · replace hm := if_t hm hb
      refine reg [] [] [10, 11] [pl 10 (.int .i64 (w64 (100 - ply1))), pl 11 (.int .i64 (-1))] hF hS Fol (by kernel_rfl) (by kernel_rfl) (by kernel_rfl) ?_ (fun a w hF hS => ?_)
      · exact obs_nil
      refine wp_ret ?_
      refine then_r ?_
      have hS := hS.pickN 2 [] (by decide)
      have hm : some ((w64 (100 - ply1)), (-1)) = some r := hm
      obtain rfl := Option.some.inj hm
      exact retV (rs := [.tmp 10, .tmp 11]) (vs := [.int .i64 (w64 (100 - ply1)), .int .i64 (-1)]) hF rfl (rv_t (by kernel_rfl) <| rv_t (by kernel_rfl) <| rv_nil) rfl ⟨rfl, hS⟩
    · replace hm := if_f hm hb
      refine wp_skip ?_
      refine then_n ?_
      have hS := hS.pickN 2 [1] (by decide)
      exact ⟨hF.weak [1, 2, 3, 4, 5, 12] (by kernel_rfl), hS, hm⟩

theorem gameroomref_BestDrop_w {g1 : Int} {g2 : Int} {A1 : Option Addr} {c1 : Nat} {n1 : Nat} {g3 : List Int} {k1 : Int} {deep1 : Int} {who1 : Int} {ply1 : Int} {r : (Int × Int)} {w0 w : World} {B : Nat} {fs : List HP} (hm : gameroomref_BestDrop_m g1 g2 g3 k1 deep1 who1 ply1 = some r) (hS : Sep w0 B w (fs)) (hr_g3 : RdF w0 B fs A1 (vI g3)) (_hc_g3 : g3.length ≤ c1) (_hn_g3 : n1 = g3.length) :
    Calls Try.prog 36 #[.agg #[.int .i64 g1, .int .i64 g2, .slice A1 n1 c1], .int .i64 k1, .int .i64 deep1, .int .i64 who1, .int .i64 ply1] w fun e w' => e = .returned (.tuple #[.int .i64 r.1, .int .i64 r.2]) ∧ Sep w0 B w' (fs) := by
  have key : ∀ (n : Nat) {g1 : Int} {g2 : Int} {A1 : Option Addr} {c1 : Nat} {n1 : Nat} {g3 : List Int} {k1 : Int} {deep1 : Int} {who1 : Int} {ply1 : Int} {r : (Int × Int)} {w0 w : World} {B : Nat} {fs : List HP} (_ : gameroomref_BestDrop_mF n g1 g2 g3 k1 deep1 who1 ply1 = some r) (_ : Sep w0 B w (fs)) (hr_g3 : RdF w0 B fs A1 (vI g3)) (_hc_g3 : g3.length ≤ c1) (_hn_g3 : n1 = g3.length), Calls Try.prog 36 #[.agg #[.int .i64 g1, .int .i64 g2, .slice A1 n1 c1], .int .i64 k1, .int .i64 deep1, .int .i64 who1, .int .i64 ply1] w fun e w' => e = .returned (.tuple #[.int .i64 r.1, .int .i64 r.2]) ∧ Sep w0 B w' (fs) := by
    intro n
    induction n with
    | zero => intros; rename_i hm0 _ _ _ _; cases hm0
    | succ n ih => intros; rename_i hm0 hS0 h0 h1 h2; exact gameroomref_BestDrop_wB (rec_gameroomref_BestDrop := gameroomref_BestDrop_mF n) (fun hm hS h0 h1 h2 => ih hm hS h0 h1 h2) hm0 hS0 h0 h1 h2
  obtain ⟨n, hn⟩ := recM_some hm
  exact key n hn hS hr_g3 _hc_g3 _hn_g3

theorem gameroomref_BestDrop_J7_le_gameroomref_BestDrop {rec_gameroomref_BestDrop1 rec_gameroomref_BestDrop2 : Int → Int → List Int → Int → Int → Int → Int → Option (Int × Int)} (h_rec_gameroomref_BestDrop : ∀ a0 a1 a2 a3 a4 a5 a6, Le (rec_gameroomref_BestDrop1 a0 a1 a2 a3 a4 a5 a6) (rec_gameroomref_BestDrop2 a0 a1 a2 a3 a4 a5 a6)) (g1 : Int) (g2 : Int) (g3 : List Int) (k1 : Int) (deep1 : Int) (who1 : Int) (ply1 : Int) (best1 : Int) (where1 : Int) (c3 : Int) (r2 : Int) : Le (gameroomref_BestDrop_J7 rec_gameroomref_BestDrop1 g1 g2 g3 k1 deep1 who1 ply1 best1 where1 c3 r2) (gameroomref_BestDrop_J7 rec_gameroomref_BestDrop2 g1 g2 g3 k1 deep1 who1 ply1 best1 where1 c3 r2) := by
  unfold gameroomref_BestDrop_J7
  repeat' (first | with_reducible exact Le.refl _ | with_reducible exact h_rec_gameroomref_BestDrop _ _ _ _ _ _ _ | refine Le.asrt ?_ | refine Le.ite ?_ ?_ | refine Le.bind ?_ (fun _ => ?_) | refine Le.loop2 (fun _ => ?_) | refine Le.elim2 (fun _ => ?_) (fun _ => ?_))

theorem gameroomref_BestDrop_J5_le_gameroomref_BestDrop {rec_gameroomref_BestDrop1 rec_gameroomref_BestDrop2 : Int → Int → List Int → Int → Int → Int → Int → Option (Int × Int)} (h_rec_gameroomref_BestDrop : ∀ a0 a1 a2 a3 a4 a5 a6, Le (rec_gameroomref_BestDrop1 a0 a1 a2 a3 a4 a5 a6) (rec_gameroomref_BestDrop2 a0 a1 a2 a3 a4 a5 a6)) (g1 : Int) (g2 : Int) (g3 : List Int) (k1 : Int) (deep1 : Int) (who1 : Int) (ply1 : Int) (best1 : Int) (where1 : Int) (c3 : Int) : Le (gameroomref_BestDrop_J5 rec_gameroomref_BestDrop1 g1 g2 g3 k1 deep1 who1 ply1 best1 where1 c3) (gameroomref_BestDrop_J5 rec_gameroomref_BestDrop2 g1 g2 g3 k1 deep1 who1 ply1 best1 where1 c3) := by
  unfold gameroomref_BestDrop_J5
  repeat' (first | with_reducible exact Le.refl _ | with_reducible exact h_rec_gameroomref_BestDrop _ _ _ _ _ _ _ | with_reducible exact gameroomref_BestDrop_J7_le_gameroomref_BestDrop h_rec_gameroomref_BestDrop _ _ _ _ _ _ _ _ _ _ _ | refine Le.asrt ?_ | refine Le.ite ?_ ?_ | refine Le.bind ?_ (fun _ => ?_) | refine Le.loop2 (fun _ => ?_) | refine Le.elim2 (fun _ => ?_) (fun _ => ?_))

theorem gameroomref_BestDrop_L1_le_gameroomref_BestDrop {rec_gameroomref_BestDrop1 rec_gameroomref_BestDrop2 : Int → Int → List Int → Int → Int → Int → Int → Option (Int × Int)} (h_rec_gameroomref_BestDrop : ∀ a0 a1 a2 a3 a4 a5 a6, Le (rec_gameroomref_BestDrop1 a0 a1 a2 a3 a4 a5 a6) (rec_gameroomref_BestDrop2 a0 a1 a2 a3 a4 a5 a6)) (g1 : Int) (g2 : Int) (g3 : List Int) (k1 : Int) (deep1 : Int) (who1 : Int) (ply1 : Int) (x : (Int × Int × Int)) : Le (gameroomref_BestDrop_L1 rec_gameroomref_BestDrop1 g1 g2 g3 k1 deep1 who1 ply1 x) (gameroomref_BestDrop_L1 rec_gameroomref_BestDrop2 g1 g2 g3 k1 deep1 who1 ply1 x) := by
  rcases x with ⟨best1, where1, c3⟩
  all_goals
    unfold gameroomref_BestDrop_L1
    try dsimp only
    repeat' (first | with_reducible exact Le.refl _ | with_reducible exact h_rec_gameroomref_BestDrop _ _ _ _ _ _ _ | with_reducible exact gameroomref_BestDrop_J5_le_gameroomref_BestDrop h_rec_gameroomref_BestDrop _ _ _ _ _ _ _ _ _ _ | refine Le.asrt ?_ | refine Le.ite ?_ ?_ | refine Le.bind ?_ (fun _ => ?_) | refine Le.loop2 (fun _ => ?_) | refine Le.elim2 (fun _ => ?_) (fun _ => ?_))

theorem gameroomref_BestDrop_J3_le_gameroomref_BestDrop {rec_gameroomref_BestDrop1 rec_gameroomref_BestDrop2 : Int → Int → List Int → Int → Int → Int → Int → Option (Int × Int)} (h_rec_gameroomref_BestDrop : ∀ a0 a1 a2 a3 a4 a5 a6, Le (rec_gameroomref_BestDrop1 a0 a1 a2 a3 a4 a5 a6) (rec_gameroomref_BestDrop2 a0 a1 a2 a3 a4 a5 a6)) (g1 : Int) (g2 : Int) (g3 : List Int) (k1 : Int) (deep1 : Int) (who1 : Int) (ply1 : Int) : Le (gameroomref_BestDrop_J3 rec_gameroomref_BestDrop1 g1 g2 g3 k1 deep1 who1 ply1) (gameroomref_BestDrop_J3 rec_gameroomref_BestDrop2 g1 g2 g3 k1 deep1 who1 ply1) := by
  unfold gameroomref_BestDrop_J3
  repeat' (first | with_reducible exact Le.refl _ | with_reducible exact h_rec_gameroomref_BestDrop _ _ _ _ _ _ _ | with_reducible exact gameroomref_BestDrop_L1_le_gameroomref_BestDrop h_rec_gameroomref_BestDrop _ _ _ _ _ _ _ _ | refine Le.asrt ?_ | refine Le.ite ?_ ?_ | refine Le.bind ?_ (fun _ => ?_) | refine Le.loop2 (fun _ => ?_) | refine Le.elim2 (fun _ => ?_) (fun _ => ?_))

theorem gameroomref_BestDrop_J2_le_gameroomref_BestDrop {rec_gameroomref_BestDrop1 rec_gameroomref_BestDrop2 : Int → Int → List Int → Int → Int → Int → Int → Option (Int × Int)} (h_rec_gameroomref_BestDrop : ∀ a0 a1 a2 a3 a4 a5 a6, Le (rec_gameroomref_BestDrop1 a0 a1 a2 a3 a4 a5 a6) (rec_gameroomref_BestDrop2 a0 a1 a2 a3 a4 a5 a6)) (g1 : Int) (g2 : Int) (g3 : List Int) (k1 : Int) (deep1 : Int) (who1 : Int) (ply1 : Int) : Le (gameroomref_BestDrop_J2 rec_gameroomref_BestDrop1 g1 g2 g3 k1 deep1 who1 ply1) (gameroomref_BestDrop_J2 rec_gameroomref_BestDrop2 g1 g2 g3 k1 deep1 who1 ply1) := by
  unfold gameroomref_BestDrop_J2
  repeat' (first | with_reducible exact Le.refl _ | with_reducible exact h_rec_gameroomref_BestDrop _ _ _ _ _ _ _ | with_reducible exact gameroomref_BestDrop_J3_le_gameroomref_BestDrop h_rec_gameroomref_BestDrop _ _ _ _ _ _ _ | refine Le.asrt ?_ | refine Le.ite ?_ ?_ | refine Le.bind ?_ (fun _ => ?_) | refine Le.loop2 (fun _ => ?_) | refine Le.elim2 (fun _ => ?_) (fun _ => ?_))

theorem gameroomref_BestDrop_J1_le_gameroomref_BestDrop {rec_gameroomref_BestDrop1 rec_gameroomref_BestDrop2 : Int → Int → List Int → Int → Int → Int → Int → Option (Int × Int)} (h_rec_gameroomref_BestDrop : ∀ a0 a1 a2 a3 a4 a5 a6, Le (rec_gameroomref_BestDrop1 a0 a1 a2 a3 a4 a5 a6) (rec_gameroomref_BestDrop2 a0 a1 a2 a3 a4 a5 a6)) (g1 : Int) (g2 : Int) (g3 : List Int) (k1 : Int) (deep1 : Int) (who1 : Int) (ply1 : Int) (r1 : (Int × List Int)) : Le (gameroomref_BestDrop_J1 rec_gameroomref_BestDrop1 g1 g2 g3 k1 deep1 who1 ply1 r1) (gameroomref_BestDrop_J1 rec_gameroomref_BestDrop2 g1 g2 g3 k1 deep1 who1 ply1 r1) := by
  unfold gameroomref_BestDrop_J1
  repeat' (first | with_reducible exact Le.refl _ | with_reducible exact h_rec_gameroomref_BestDrop _ _ _ _ _ _ _ | with_reducible exact gameroomref_BestDrop_J2_le_gameroomref_BestDrop h_rec_gameroomref_BestDrop _ _ _ _ _ _ _ | refine Le.asrt ?_ | refine Le.ite ?_ ?_ | refine Le.bind ?_ (fun _ => ?_) | refine Le.loop2 (fun _ => ?_) | refine Le.elim2 (fun _ => ?_) (fun _ => ?_))

theorem gameroomref_BestDrop_B_le {rec_gameroomref_BestDrop1 rec_gameroomref_BestDrop2 : Int → Int → List Int → Int → Int → Int → Int → Option (Int × Int)} (h_rec_gameroomref_BestDrop : ∀ a0 a1 a2 a3 a4 a5 a6, Le (rec_gameroomref_BestDrop1 a0 a1 a2 a3 a4 a5 a6) (rec_gameroomref_BestDrop2 a0 a1 a2 a3 a4 a5 a6)) (g1 : Int) (g2 : Int) (g3 : List Int) (k1 : Int) (deep1 : Int) (who1 : Int) (ply1 : Int) : Le (gameroomref_BestDrop_B rec_gameroomref_BestDrop1 g1 g2 g3 k1 deep1 who1 ply1) (gameroomref_BestDrop_B rec_gameroomref_BestDrop2 g1 g2 g3 k1 deep1 who1 ply1) := by
  unfold gameroomref_BestDrop_B
  repeat' (first | with_reducible exact Le.refl _ | with_reducible exact h_rec_gameroomref_BestDrop _ _ _ _ _ _ _ | with_reducible exact gameroomref_BestDrop_J1_le_gameroomref_BestDrop h_rec_gameroomref_BestDrop _ _ _ _ _ _ _ _ | refine Le.asrt ?_ | refine Le.ite ?_ ?_ | refine Le.bind ?_ (fun _ => ?_) | refine Le.loop2 (fun _ => ?_) | refine Le.elim2 (fun _ => ?_) (fun _ => ?_))

theorem gameroomref_BestDrop_mF_le : ∀ (n : Nat) (g1 : Int) (g2 : Int) (g3 : List Int) (k1 : Int) (deep1 : Int) (who1 : Int) (ply1 : Int), Le (gameroomref_BestDrop_mF n g1 g2 g3 k1 deep1 who1 ply1) (gameroomref_BestDrop_mF (n + 1) g1 g2 g3 k1 deep1 who1 ply1)
  | 0, _, _, _, _, _, _, _ => fun _ h => by cases h
  | n + 1, _, _, _, _, _, _, _ => gameroomref_BestDrop_B_le (fun a0 a1 a2 a3 a4 a5 a6 => gameroomref_BestDrop_mF_le n a0 a1 a2 a3 a4 a5 a6) _ _ _ _ _ _ _

theorem gameroomref_BestDrop_m_of (N : Nat) (g1 : Int) (g2 : Int) (g3 : List Int) (k1 : Int) (deep1 : Int) (who1 : Int) (ply1 : Int) {r : (Int × Int)} (h : gameroomref_BestDrop_mF N g1 g2 g3 k1 deep1 who1 ply1 = some r) : gameroomref_BestDrop_m g1 g2 g3 k1 deep1 who1 ply1 = some r :=
  recM_mono (fun n => gameroomref_BestDrop_mF_le n _ _ _ _ _ _ _) h

noncomputable def gameroomlaw_FourBests_J2 (g1 : Int) (g2 : Int) (g3 : List Int) (k1 : Int) (deep1 : Int) (r2 : (Int × Int × Int)) : Option Bool :=
  (gameroomref_GridMover_m g1 g2 g3).bind fun r5 => (gameroomref_BestDrop_m g1 g2 g3 k1 deep1 r5 0).bind fun r6 => some (((r2.2.2 == 0) && (r2.1 == r6.1)) && (r2.2.1 == r6.2))

noncomputable def gameroomlaw_FourBests_J1 (g1 : Int) (g2 : Int) (g3 : List Int) (k1 : Int) (deep1 : Int) (r2 : (Int × Int × Int)) (no1 : Int) : Option Bool :=
  if (no1 != 0) then (some (((r2.2.2 == no1) && (r2.1 == 0)) && (r2.2.1 == 0))) else ((gameroomlaw_FourBests_J2 g1 g2 g3 k1 deep1 r2))

noncomputable def gameroomlaw_FourBests_m (g1 : Int) (g2 : Int) (g3 : List Int) (k1 : Int) (deep1 : Int) : Option Bool :=
  (gameroomref_GridOf_m g1 g2 g3).bind fun r1 => (four_Best_m r1.1 r1.2.1 r1.2.2 k1 deep1).bind fun r2 => (gameroomref_WellMay_m g1 g2 g3).bind fun r3 => if (!r3) then ((gameroomlaw_FourBests_J1 g1 g2 g3 k1 deep1 r2) 12) else (if ((((decide (k1 < 1)) || (decide ((10 : Int) < k1))) || (decide (deep1 < 0))) || (decide ((6 : Int) < deep1))) then ((gameroomlaw_FourBests_J1 g1 g2 g3 k1 deep1 r2) 3) else ((gameroomref_GridMover_m g1 g2 g3).bind fun r4 => if (r4 == 0) then ((gameroomlaw_FourBests_J1 g1 g2 g3 k1 deep1 r2) 7) else ((gameroomlaw_FourBests_J1 g1 g2 g3 k1 deep1 r2) 0)))

set_option maxRecDepth 100000 in
set_option maxHeartbeats 4000000 in
theorem gameroomlaw_FourBests_w {g1 : Int} {g2 : Int} {A1 : Option Addr} {c1 : Nat} {n1 : Nat} {g3 : List Int} {k1 : Int} {deep1 : Int} {r : Bool} {w0 w : World} {B : Nat} {fs : List HP} (hm : gameroomlaw_FourBests_m g1 g2 g3 k1 deep1 = some r) (hS : Sep w0 B w (fs)) (hr_g3 : RdF w0 B fs A1 (vI g3)) (_hc_g3 : g3.length ≤ c1) (_hn_g3 : n1 = g3.length) :
    Calls Try.prog 6 #[.agg #[.int .i64 g1, .int .i64 g2, .slice A1 n1 c1], .int .i64 k1, .int .i64 deep1] w fun e w' => e = .returned (.bool r) ∧ Sep w0 B w' (fs) := by
  obtain ⟨i3, hi3, hz3, hs3, hb3⟩ := info_parts Info3
  obtain rfl := _hn_g3
  unfold gameroomlaw_FourBests_m at hm
  replace hm := start_b hm
  refine enter (l := [.agg #[.int .i64 g1, .int .i64 g2, .slice A1 g3.length c1], .int .i64 k1, .int .i64 deep1]) (n := 76) Try.func6 rfl rfl (by simp) (fun a hF => ?_)
  refine seqR ?_
  refine at_do (d := 3) (s := vS (Instr.box 24 (.agg #[.int .i64 g1, .int .i64 g2, .slice A1 g3.length c1]))) (v := .pointer (some ⟨w.heap.size, 0, none⟩)) (w' := w.alloc (.cells #[.int .i64 g1, .int .i64 g2, .slice A1 g3.length c1] 24)) hF (by kernel_rfl) (by kernel_rfl) (by kernel_rfl) (fun a hF => ?_)
  have hS : Sep w0 B (w.alloc (.cells #[.int .i64 g1, .int .i64 g2, .slice A1 g3.length c1] 24)) (blk w.heap.size 24 #[.int .i64 g1, .int .i64 g2, .slice A1 g3.length c1] :: (fs)) := hS.box 24 #[.int .i64 g1, .int .i64 g2, .slice A1 g3.length c1]
  generalize w.heap.size = g4 at hF hS
  generalize w.alloc (.cells #[.int .i64 g1, .int .i64 g2, .slice A1 g3.length c1] 24) = w at hS ⊢
  refine at_run 1 [] [] [1, 2, 3] [pl 1 (.int .i64 k1), pl 2 (.int .i64 deep1), pl 3 (.pointer (some ⟨g4, 0, none⟩))] hF hS (by kernel_rfl) (by kernel_rfl) ?_ (fun a w hF hS => ?_)
  · exact obs_nil
  refine at_end [1, 2, 3] [pl 1 (.int .i64 k1), pl 2 (.int .i64 deep1), pl 3 (.pointer (some ⟨g4, 0, none⟩))] hF rfl (by kernel_rfl) (fun hF => ?_)
  refine then_n ?_
  refine seqR ?_
  obtain ⟨r1, hr1, hm⟩ := call_b hm
  obtain ⟨r2, hr2, hm⟩ := call_b hm
  refine at_run 1 [⟨false, [], vS (Instr.loadAt 24 (.pointer (some ⟨g4, 0, none⟩))), .agg #[.int .i64 g1, .int .i64 g2, .slice A1 g3.length c1]⟩] [some (.agg #[.int .i64 g1, .int .i64 g2, .slice A1 g3.length c1])] [1, 2, 3, 14] [pl 1 (.int .i64 k1), pl 2 (.int .i64 deep1), pl 3 (.pointer (some ⟨g4, 0, none⟩)), pl 14 (.agg #[.int .i64 g1, .int .i64 g2, .slice A1 g3.length c1])] hF hS (by kernel_rfl) (by kernel_rfl) ?_ (fun a w hF hS => ?_)
  · exact obs_cons (ob_loadA (cs := #[.int .i64 g1, .int .i64 g2, .slice A1 g3.length c1]) (by kernel_rfl) (by kernel_rfl) (fun _ _ hS => (hS.at_ 0 rfl).cellsAt 0 (by rfl))) <| obs_nil
  refine at_call (f := 13) (args := #[.agg #[.int .i64 g1, .int .i64 g2, .slice A1 g3.length c1]]) (d := 15) hF (by kernel_rfl) (by kernel_rfl) Try.func13 (by kernel_rfl) rfl (gameroomref_GridOf_w hr1 hS (fun _ hS => (hr_g3 _ (hS.dropN 1))) _hc_g3 rfl) (fun v a w hR hF => ?_)
  clear hS
  obtain ⟨A2, c2, rfl, hS⟩ := hR
  have hS : Sep w0 B w (own 3 (.slice A2 r1.2.2.length c2) (vI r1.2.2) :: blk g4 24 #[.int .i64 g1, .int .i64 g2, .slice A1 g3.length c1] :: fs) := hS
  refine at_run 10 [⟨false, [], callFunc 34 #[.agg #[.int .i64 r1.1, .int .i64 r1.2.1, .slice A2 r1.2.2.length c2], .int .i64 k1, .int .i64 deep1], .tuple #[.int .i64 r2.1, .int .i64 r2.2.1, .int .i64 r2.2.2]⟩] [none, none, some (.tuple #[.int .i64 r2.1, .int .i64 r2.2.1, .int .i64 r2.2.2]), none, none, none, none, none, none, none] [1, 2, 3, 7, 8, 9] [pl 1 (.int .i64 k1), pl 2 (.int .i64 deep1), pl 3 (.pointer (some ⟨g4, 0, none⟩)), pl 7 (.int .i64 r2.1), pl 8 (.int .i64 r2.2.1), pl 9 (.int .i64 r2.2.2)] hF hS (by kernel_rfl) (by kernel_rfl) ?_ (fun a w hF hS => ?_)
  · exact obs_cons (ob_call Try.func34 (by kernel_rfl) rfl (fun _ _ hS => four_Best_w hr2 hS (fun _ hS => (hS.at_ 0 rfl).rd) ((hS.at_ 0 rfl).cap1) rfl)) <| obs_nil
  refine at_end [1, 2, 3, 7, 8, 9] [pl 1 (.int .i64 k1), pl 2 (.int .i64 deep1), pl 3 (.pointer (some ⟨g4, 0, none⟩)), pl 7 (.int .i64 r2.1), pl 8 (.int .i64 r2.2.1), pl 9 (.int .i64 r2.2.2)] hF rfl (by kernel_rfl) (fun hF => ?_)
  refine then_n ?_
  refine reg [] [] [1, 2, 3, 7, 8, 9, 10] [pl 1 (.int .i64 k1), pl 2 (.int .i64 deep1), pl 3 (.pointer (some ⟨g4, 0, none⟩)), pl 7 (.int .i64 r2.1), pl 8 (.int .i64 r2.2.1), pl 9 (.int .i64 r2.2.2), pl 10 (.int .i64 0)] hF hS Fol (by kernel_rfl) (by kernel_rfl) (by kernel_rfl) ?_ (fun a w hF hS => ?_)
  · exact obs_nil
  refine seq_cut (fun a w => ∃ (no1 : Int), Fr 76 [pl 1 (.int .i64 k1), pl 2 (.int .i64 deep1), pl 3 (.pointer (some ⟨g4, 0, none⟩)), pl 7 (.int .i64 r2.1), pl 8 (.int .i64 r2.2.1), pl 9 (.int .i64 r2.2.2), pl 10 (.int .i64 no1)] a ∧ Sep w0 B w (blk g4 24 #[.int .i64 g1, .int .i64 g2, .slice A1 g3.length c1] :: fs) ∧ ((gameroomlaw_FourBests_J1 g1 g2 g3 k1 deep1 r2) no1).bind some = some r) ?_ ?_
  · rintro a w ⟨no1, hF, hS, hm⟩
    unfold gameroomlaw_FourBests_J1 at hm
    refine seq_cut (fun a w => Fr 76 [pl 1 (.int .i64 k1), pl 2 (.int .i64 deep1), pl 3 (.pointer (some ⟨g4, 0, none⟩)), pl 7 (.int .i64 r2.1), pl 8 (.int .i64 r2.2.1), pl 9 (.int .i64 r2.2.2)] a ∧ Sep w0 B w (blk g4 24 #[.int .i64 g1, .int .i64 g2, .slice A1 g3.length c1] :: fs) ∧ ((gameroomlaw_FourBests_J2 g1 g2 g3 k1 deep1 r2)).bind some = some r) ?_ ?_
    · rintro a w ⟨hF, hS, hm⟩
      unfold gameroomlaw_FourBests_J2 at hm
      obtain ⟨r5, hr5, hm⟩ := call_b hm
      obtain ⟨r6, hr6, hm⟩ := call_b hm
      refine reg [⟨false, [], vS (Instr.loadAt 24 (.pointer (some ⟨g4, 0, none⟩))), .agg #[.int .i64 g1, .int .i64 g2, .slice A1 g3.length c1]⟩, ⟨false, [], vS (Instr.loadAt 24 (.pointer (some ⟨g4, 0, none⟩))), .agg #[.int .i64 g1, .int .i64 g2, .slice A1 g3.length c1]⟩, ⟨false, [], callFunc 35 #[.agg #[.int .i64 g1, .int .i64 g2, .slice A1 g3.length c1]], .int .i64 r5⟩, ⟨false, [], callFunc 36 #[.agg #[.int .i64 g1, .int .i64 g2, .slice A1 g3.length c1], .int .i64 k1, .int .i64 deep1, .int .i64 r5, .int .i64 0], .tuple #[.int .i64 r6.1, .int .i64 r6.2]⟩] [some (.agg #[.int .i64 g1, .int .i64 g2, .slice A1 g3.length c1]), none, none, some (.agg #[.int .i64 g1, .int .i64 g2, .slice A1 g3.length c1]), some (.int .i64 r5), some (.tuple #[.int .i64 r6.1, .int .i64 r6.2]), none, none, none, none, none] [7, 8, 9, 11, 12] [pl 7 (.int .i64 r2.1), pl 8 (.int .i64 r2.2.1), pl 9 (.int .i64 r2.2.2), pl 11 (.int .i64 r6.1), pl 12 (.int .i64 r6.2)] hF hS Fol (by kernel_rfl) (by kernel_rfl) (by kernel_rfl) ?_ (fun a w hF hS => ?_)
      · exact obs_cons (ob_loadA (cs := #[.int .i64 g1, .int .i64 g2, .slice A1 g3.length c1]) (by kernel_rfl) (by kernel_rfl) (fun _ _ hS => (hS.at_ 0 rfl).cellsAt 0 (by rfl))) <| obs_cons (ob_loadA (cs := #[.int .i64 g1, .int .i64 g2, .slice A1 g3.length c1]) (by kernel_rfl) (by kernel_rfl) (fun _ _ hS => (hS.at_ 0 rfl).cellsAt 0 (by rfl))) <| obs_cons (ob_call Try.func35 (by kernel_rfl) rfl (fun _ _ hS => gameroomref_GridMover_w hr5 hS (fun _ hS => (hr_g3 _ (hS.dropN 1))) _hc_g3 rfl)) <| obs_cons (ob_call Try.func36 (by kernel_rfl) rfl (fun _ _ hS => gameroomref_BestDrop_w hr6 hS (fun _ hS => (hr_g3 _ (hS.dropN 1))) _hc_g3 rfl)) <| obs_nil
      refine reg [] [] [6] [pl 6 (.bool (((r2.2.2 == 0) && (r2.1 == r6.1)) && (r2.2.1 == r6.2)))] hF hS Fol (by kernel_rfl) (by kernel_rfl) (by kernel_rfl) ?_ (fun a w hF hS => ?_)
      · exact obs_nil
      refine wp_ret ?_
      have hS := hS.pickN 1 [] (by decide)
      have hm : some (((r2.2.2 == 0) && (r2.1 == r6.1)) && (r2.2.1 == r6.2)) = some r := hm
      obtain rfl := Option.some.inj hm
      exact retV (rs := [.tmp 6]) (vs := [.bool (((r2.2.2 == 0) && (r2.1 == r6.1)) && (r2.2.1 == r6.2))]) hF rfl (rv_t (by kernel_rfl) <| rv_nil) rfl ⟨rfl, hS⟩
    · refine reg [] [] [1, 2, 3, 7, 8, 9, 10, 43] [pl 1 (.int .i64 k1), pl 2 (.int .i64 deep1), pl 3 (.pointer (some ⟨g4, 0, none⟩)), pl 7 (.int .i64 r2.1), pl 8 (.int .i64 r2.2.1), pl 9 (.int .i64 r2.2.2), pl 10 (.int .i64 no1), pl 43 (.bool (no1 != 0))] hF hS Fol (by kernel_rfl) (by kernel_rfl) (by kernel_rfl) ?_ (fun a w hF hS => ?_)
      · exact obs_nil
      refine cond_ev (t := 43) (b := (no1 != 0)) hF (by kernel_rfl) (fun hb => ?_) (fun hb => ?_)
      · replace hm := if_t hm hb
        refine reg [] [] [6] [pl 6 (.bool (((r2.2.2 == no1) && (r2.1 == 0)) && (r2.2.1 == 0)))] hF hS Fol (by kernel_rfl) (by kernel_rfl) (by kernel_rfl) ?_ (fun a w hF hS => ?_)
        · exact obs_nil
        refine wp_ret ?_
        refine then_r ?_
        have hS := hS.pickN 1 [] (by decide)
        have hm : some (((r2.2.2 == no1) && (r2.1 == 0)) && (r2.2.1 == 0)) = some r := hm
        obtain rfl := Option.some.inj hm
        exact retV (rs := [.tmp 6]) (vs := [.bool (((r2.2.2 == no1) && (r2.1 == 0)) && (r2.2.1 == 0))]) hF rfl (rv_t (by kernel_rfl) <| rv_nil) rfl ⟨rfl, hS⟩
      · replace hm := if_f hm hb
        refine wp_skip ?_
        refine then_n ?_
        exact ⟨hF.weak [1, 2, 3, 7, 8, 9] (by kernel_rfl), hS, hm⟩
  · obtain ⟨r3, hr3, hm⟩ := call_b hm
    refine reg [⟨false, [], vS (Instr.loadAt 24 (.pointer (some ⟨g4, 0, none⟩))), .agg #[.int .i64 g1, .int .i64 g2, .slice A1 g3.length c1]⟩, ⟨false, [], callFunc 31 #[.agg #[.int .i64 g1, .int .i64 g2, .slice A1 g3.length c1]], .bool r3⟩] [some (.agg #[.int .i64 g1, .int .i64 g2, .slice A1 g3.length c1]), some (.bool r3), none] [1, 2, 3, 7, 8, 9, 10, 24] [pl 1 (.int .i64 k1), pl 2 (.int .i64 deep1), pl 3 (.pointer (some ⟨g4, 0, none⟩)), pl 7 (.int .i64 r2.1), pl 8 (.int .i64 r2.2.1), pl 9 (.int .i64 r2.2.2), pl 10 (.int .i64 0), pl 24 (.bool (!r3))] hF hS Fol (by kernel_rfl) (by kernel_rfl) (by kernel_rfl) ?_ (fun a w hF hS => ?_)
    · exact obs_cons (ob_loadA (cs := #[.int .i64 g1, .int .i64 g2, .slice A1 g3.length c1]) (by kernel_rfl) (by kernel_rfl) (fun _ _ hS => (hS.at_ 1 rfl).cellsAt 0 (by rfl))) <| obs_cons (ob_call Try.func31 (by kernel_rfl) rfl (fun _ _ hS => gameroomref_WellMay_w hr3 hS (fun _ hS => (hr_g3 _ (hS.dropN 2))) _hc_g3 rfl)) <| obs_nil
    refine cond_ev (t := 24) (b := !r3) hF (by kernel_rfl) (fun hb => ?_) (fun hb => ?_)
    · replace hm := if_t hm hb
      refine reg1 [] [] [1, 2, 3, 7, 8, 9, 10] [pl 1 (.int .i64 k1), pl 2 (.int .i64 deep1), pl 3 (.pointer (some ⟨g4, 0, none⟩)), pl 7 (.int .i64 r2.1), pl 8 (.int .i64 r2.2.1), pl 9 (.int .i64 r2.2.2), pl 10 (.int .i64 12)] hF hS Fol (by kernel_rfl) (by kernel_rfl) (by kernel_rfl) ?_ (fun a w hF hS => ?_)
      · exact obs_nil
      refine then_n ?_
      have hS := hS.pickN 2 [1] (by decide)
      exact ⟨12, hF.weak [1, 2, 3, 7, 8, 9, 10] (by kernel_rfl), hS, hm⟩
    · replace hm := if_f hm hb
      refine reg [] [] [1, 2, 3, 7, 8, 9, 10, 38] [pl 1 (.int .i64 k1), pl 2 (.int .i64 deep1), pl 3 (.pointer (some ⟨g4, 0, none⟩)), pl 7 (.int .i64 r2.1), pl 8 (.int .i64 r2.2.1), pl 9 (.int .i64 r2.2.2), pl 10 (.int .i64 0), pl 38 (.bool ((((decide (k1 < 1)) || (decide ((10 : Int) < k1))) || (decide (deep1 < 0))) || (decide ((6 : Int) < deep1))))] hF hS Fol (by kernel_rfl) (by kernel_rfl) (by kernel_rfl) ?_ (fun a w hF hS => ?_)
      · exact obs_nil
      refine cond_ev (t := 38) (b := (((decide (k1 < 1)) || (decide ((10 : Int) < k1))) || (decide (deep1 < 0))) || (decide ((6 : Int) < deep1))) hF (by kernel_rfl) (fun hb => ?_) (fun hb => ?_)
      · replace hm := if_t hm hb
        refine reg1 [] [] [1, 2, 3, 7, 8, 9, 10] [pl 1 (.int .i64 k1), pl 2 (.int .i64 deep1), pl 3 (.pointer (some ⟨g4, 0, none⟩)), pl 7 (.int .i64 r2.1), pl 8 (.int .i64 r2.2.1), pl 9 (.int .i64 r2.2.2), pl 10 (.int .i64 3)] hF hS Fol (by kernel_rfl) (by kernel_rfl) (by kernel_rfl) ?_ (fun a w hF hS => ?_)
        · exact obs_nil
        refine then_n ?_
        have hS := hS.pickN 2 [1] (by decide)
        exact ⟨3, hF.weak [1, 2, 3, 7, 8, 9, 10] (by kernel_rfl), hS, hm⟩
      · replace hm := if_f hm hb
        obtain ⟨r4, hr4, hm⟩ := call_b hm
        refine reg [⟨false, [], vS (Instr.loadAt 24 (.pointer (some ⟨g4, 0, none⟩))), .agg #[.int .i64 g1, .int .i64 g2, .slice A1 g3.length c1]⟩, ⟨false, [], callFunc 35 #[.agg #[.int .i64 g1, .int .i64 g2, .slice A1 g3.length c1]], .int .i64 r4⟩] [some (.agg #[.int .i64 g1, .int .i64 g2, .slice A1 g3.length c1]), some (.int .i64 r4), none] [1, 2, 3, 7, 8, 9, 10, 41] [pl 1 (.int .i64 k1), pl 2 (.int .i64 deep1), pl 3 (.pointer (some ⟨g4, 0, none⟩)), pl 7 (.int .i64 r2.1), pl 8 (.int .i64 r2.2.1), pl 9 (.int .i64 r2.2.2), pl 10 (.int .i64 0), pl 41 (.bool (r4 == 0))] hF hS Fol (by kernel_rfl) (by kernel_rfl) (by kernel_rfl) ?_ (fun a w hF hS => ?_)
        · exact obs_cons (ob_loadA (cs := #[.int .i64 g1, .int .i64 g2, .slice A1 g3.length c1]) (by kernel_rfl) (by kernel_rfl) (fun _ _ hS => (hS.at_ 1 rfl).cellsAt 0 (by rfl))) <| obs_cons (ob_call Try.func35 (by kernel_rfl) rfl (fun _ _ hS => gameroomref_GridMover_w hr4 hS (fun _ hS => (hr_g3 _ (hS.dropN 2))) _hc_g3 rfl)) <| obs_nil
        refine cond_ev (t := 41) (b := (r4 == 0)) hF (by kernel_rfl) (fun hb => ?_) (fun hb => ?_)
        · replace hm := if_t hm hb
          refine reg1 [] [] [1, 2, 3, 7, 8, 9, 10] [pl 1 (.int .i64 k1), pl 2 (.int .i64 deep1), pl 3 (.pointer (some ⟨g4, 0, none⟩)), pl 7 (.int .i64 r2.1), pl 8 (.int .i64 r2.2.1), pl 9 (.int .i64 r2.2.2), pl 10 (.int .i64 7)] hF hS Fol (by kernel_rfl) (by kernel_rfl) (by kernel_rfl) ?_ (fun a w hF hS => ?_)
          · exact obs_nil
          refine then_n ?_
          have hS := hS.pickN 2 [1] (by decide)
          exact ⟨7, hF.weak [1, 2, 3, 7, 8, 9, 10] (by kernel_rfl), hS, hm⟩
        · replace hm := if_f hm hb
          refine wp_skip ?_
          refine then_n ?_
          have hS := hS.pickN 2 [1] (by decide)
          exact ⟨0, hF.weak [1, 2, 3, 7, 8, 9, 10] (by kernel_rfl), hS, hm⟩

end Go.Proofs.Ytogecbgngnjhgaa
