/-
  Models and walks, printed by our own program (wip/gen).
-/
import Derived.Test.YtogecbgngnjhgaaFB
import Derived.Test.YtogecbgngnjhgaaNPa
namespace Go.Proofs.Ytogecbgngnjhgaa
open Go Go.GL Go.RowKit

noncomputable def gameroomref_OthelloNew_m (w1 : Int) (h1 : Int) : Option (Int × Int × List Int) :=
  (loop (gameroomref_OthelloNew_L1 w1 h1) (([] : List Int), 0)).bind (gameroomref_OthelloNew_K1 w1 h1)

set_option maxRecDepth 100000 in
set_option maxHeartbeats 4000000 in
theorem gameroomref_OthelloNew_w {w1 : Int} {h1 : Int} {r : (Int × Int × List Int)} {w0 w : World} {B : Nat} {fs : List HP} (hm : gameroomref_OthelloNew_m w1 h1 = some r) (hS : Sep w0 B w (fs)) :
    Calls Try.prog 18 #[.int .i64 w1, .int .i64 h1] w fun e w' => ∃ v, e = .returned v ∧ ∃ (A7 : Option Addr) (c8 : Nat), v = .agg #[.int .i64 r.1, .int .i64 r.2.1, .slice A7 r.2.2.length c8] ∧ Sep w0 B w' (own 3 (.slice A7 r.2.2.length c8) (vI r.2.2) :: fs) := by
  obtain ⟨i3, hi3, hz3, hs3, hb3⟩ := info_parts Info3
  obtain ⟨i22, hi22, hz22, hs22, hb22⟩ := info_parts Info22
  unfold gameroomref_OthelloNew_m at hm
  replace hm := start_b hm
  refine enter (l := [.int .i64 w1, .int .i64 h1]) (n := 62) Try.func18 rfl rfl (by simp) (fun a hF => ?_)
  refine seqR ?_
  refine at_do (d := 4) (s := vS (Instr.alloc 24 true (.tuple #[]))) (v := .pointer (some ⟨w.heap.size, 0, none⟩)) (w' := w.alloc (.cells #[.int .i64 0, .int .i64 0, .slice none 0 0] 24)) hF (by kernel_rfl) (by kernel_rfl) (by kernel_rfl) (fun a hF => ?_)
  have hS : Sep w0 B (w.alloc (.cells #[.int .i64 0, .int .i64 0, .slice none 0 0] 24)) (blk w.heap.size 24 #[.int .i64 0, .int .i64 0, .slice none 0 0] :: (fs)) := hS.box 24 #[.int .i64 0, .int .i64 0, .slice none 0 0]
  generalize w.heap.size = g1 at hF hS
  generalize w.alloc (.cells #[.int .i64 0, .int .i64 0, .slice none 0 0] 24) = w at hS ⊢
  refine at_end [0, 1, 4] [pl 0 (.int .i64 w1), pl 1 (.int .i64 h1), pl 4 (.pointer (some ⟨g1, 0, none⟩))] hF rfl (by kernel_rfl) (fun hF => ?_)
  refine then_n ?_
  refine seqR ?_
  refine at_run 3 [] [] [0, 1, 4, 11] [pl 0 (.int .i64 w1), pl 1 (.int .i64 h1), pl 4 (.pointer (some ⟨g1, 0, none⟩)), pl 11 (.agg #[.int .i64 w1, .int .i64 h1, .slice none 0 0])] hF hS (by kernel_rfl) (by kernel_rfl) ?_ (fun a w hF hS => ?_)
  · exact obs_nil
  refine at_do (d := 5) (s := vS (Instr.alloc 24 true (.tuple #[]))) (v := .pointer (some ⟨w.heap.size, 0, none⟩)) (w' := w.alloc (.cells #[.int .i64 0, .int .i64 0, .slice none 0 0] 24)) hF (by kernel_rfl) (by kernel_rfl) (by kernel_rfl) (fun a hF => ?_)
  have hS : Sep w0 B (w.alloc (.cells #[.int .i64 0, .int .i64 0, .slice none 0 0] 24)) (blk w.heap.size 24 #[.int .i64 0, .int .i64 0, .slice none 0 0] :: (blk g1 24 #[.int .i64 0, .int .i64 0, .slice none 0 0] :: fs)) := hS.box 24 #[.int .i64 0, .int .i64 0, .slice none 0 0]
  generalize w.heap.size = g2 at hF hS
  generalize w.alloc (.cells #[.int .i64 0, .int .i64 0, .slice none 0 0] 24) = w at hS ⊢
  obtain ⟨w, hrun, hS⟩ := run_putA (P := Try.prog) (t := 24) (us := #[.int .i64 w1, .int .i64 h1, .slice none 0 0]) (o := 0) (hS.at_ 0 rfl) (by kernel_rfl) (all_one (by kernel_rfl)) (Nat.le_of_ble_eq_true (by kernel_rfl))
  refine at_skip hF (by kernel_rfl) hrun ?_
  have hS : Sep w0 B w (blk g2 24 #[.int .i64 w1, .int .i64 h1, .slice none 0 0] :: blk g1 24 #[.int .i64 0, .int .i64 0, .slice none 0 0] :: fs) := hS
  refine at_end [0, 1, 4, 5] [pl 0 (.int .i64 w1), pl 1 (.int .i64 h1), pl 4 (.pointer (some ⟨g1, 0, none⟩)), pl 5 (.pointer (some ⟨g2, 0, none⟩))] hF rfl (by kernel_rfl) (fun hF => ?_)
  refine then_n ?_
  refine seq_cut (fun a w => ∃ (g4 : List Int) (A2 : Option Addr) (c2 : Nat), Fr 62 [pl 4 (.pointer (some ⟨g1, 0, none⟩)), pl 5 (.pointer (some ⟨g2, 0, none⟩))] a ∧ Sep w0 B w (blk g1 24 #[.int .i64 0, .int .i64 0, .slice none 0 0] :: blk g2 24 #[.int .i64 w1, .int .i64 h1, .slice A2 g4.length c2] :: own 3 (.slice A2 g4.length c2) (vI g4) :: fs) ∧ ((gameroomref_OthelloNew_J1 w1 h1) g4).bind some = some r) ?_ ?_
  · rintro a w ⟨g4, A2, c2, hF, hS, hm⟩
    unfold gameroomref_OthelloNew_J1 at hm
    refine seqR ?_
    refine at_run 1 [⟨false, [], vS (Instr.loadAt 24 (.pointer (some ⟨g2, 0, none⟩))), .agg #[.int .i64 w1, .int .i64 h1, .slice A2 g4.length c2]⟩] [some (.agg #[.int .i64 w1, .int .i64 h1, .slice A2 g4.length c2])] [4, 61] [pl 4 (.pointer (some ⟨g1, 0, none⟩)), pl 61 (.agg #[.int .i64 w1, .int .i64 h1, .slice A2 g4.length c2])] hF hS (by kernel_rfl) (by kernel_rfl) ?_ (fun a w hF hS => ?_)
    · exact obs_cons (ob_loadA (cs := #[.int .i64 w1, .int .i64 h1, .slice A2 g4.length c2]) (by kernel_rfl) (by kernel_rfl) (fun _ _ hS => (hS.at_ 1 rfl).cellsAt 0 (by rfl))) <| obs_nil
    obtain ⟨w, hrun, hS⟩ := run_putA (P := Try.prog) (t := 24) (us := #[.int .i64 w1, .int .i64 h1, .slice A2 g4.length c2]) (o := 0) (hS.at_ 0 rfl) (by kernel_rfl) (all_one (by kernel_rfl)) (Nat.le_of_ble_eq_true (by kernel_rfl))
    refine at_skip hF (by kernel_rfl) hrun ?_
    have hS : Sep w0 B w (blk g1 24 #[.int .i64 w1, .int .i64 h1, .slice A2 g4.length c2] :: blk g2 24 #[.int .i64 w1, .int .i64 h1, .slice A2 g4.length c2] :: own 3 (.slice A2 g4.length c2) (vI g4) :: fs) := hS
    refine at_end [4] [pl 4 (.pointer (some ⟨g1, 0, none⟩))] hF rfl (by kernel_rfl) (fun hF => ?_)
    refine then_n ?_
    refine wp_ret ?_
    have hld0 := run_loadVarA (P := Try.prog) (t := 24) (cs := #[.int .i64 w1, .int .i64 h1, .slice A2 g4.length c2]) (by kernel_rfl) (by kernel_rfl) ((hS.at_ 0 rfl).cellsAt 0 (by rfl))
    have hS := hS.pickN 3 [2] (by decide)
    have hm : some (w1, h1, g4) = some r := hm
    obtain rfl := Option.some.inj hm
    exact retV (rs := [.cell 4 24]) (vs := [.agg #[.int .i64 w1, .int .i64 h1, .slice A2 g4.length c2]]) hF rfl (rv_c (by kernel_rfl) hld0 <| rv_nil) rfl ⟨_, rfl, A2, c2, rfl, hS⟩
  · refine reg [] [] [0, 1, 4, 5, 6] [pl 0 (.int .i64 w1), pl 1 (.int .i64 h1), pl 4 (.pointer (some ⟨g1, 0, none⟩)), pl 5 (.pointer (some ⟨g2, 0, none⟩)), pl 6 (.int .i64 0)] hF hS Fol (by kernel_rfl) (by kernel_rfl) (by kernel_rfl) ?_ (fun a w hF hS => ?_)
    · exact obs_nil
    refine wp_block ?_
    have hS : Sep w0 B w (own 3 (.slice none 0 0) (vI ([] : List Int)) :: blk g2 24 #[.int .i64 w1, .int .i64 h1, .slice none 0 0] :: blk g1 24 #[.int .i64 0, .int .i64 0, .slice none 0 0] :: fs) := hS.nil 3
    have hS : Sep w0 B w (own 3 (.slice none 0 0) (vI ([] : List Int)) :: blk g2 24 #[.int .i64 w1, .int .i64 h1, .slice none 0 0] :: blk g1 24 #[.int .i64 0, .int .i64 0, .slice none 0 0] :: fs) := hS
    have hl1 := (hS.at_ 0 rfl).len1
    have hS := (hS.at_ 0 rfl).reN hl1
    have hS := (hS.at_ 1 rfl).reBlk (congrArg (fun k9 => (#[.int .i64 w1, .int .i64 h1, .slice none k9 0] : Array Value)) hl1)
    have hS : Sep w0 B w (own 3 (.slice none (([] : List Int).length) 0) (vI ([] : List Int)) :: blk g2 24 #[.int .i64 w1, .int .i64 h1, .slice none (([] : List Int).length) 0] :: blk g1 24 #[.int .i64 0, .int .i64 0, .slice none 0 0] :: fs) := hS
    have hS := hS.pickN 3 [2, 1, 0] (by decide)
    refine wp_loop_model (S := (List Int × Int)) (R := (List Int)) (gameroomref_OthelloNew_L1 w1 h1) (fun x => ((gameroomref_OthelloNew_K1 w1 h1) x).bind some) r (fun (x : (List Int × Int)) a w => ∃ (A1 : Option Addr) (c1 : Nat), Fr 62 [pl 0 (.int .i64 w1), pl 1 (.int .i64 h1), pl 4 (.pointer (some ⟨g1, 0, none⟩)), pl 5 (.pointer (some ⟨g2, 0, none⟩)), pl 6 (.int .i64 x.2)] a ∧ Sep w0 B w (blk g1 24 #[.int .i64 0, .int .i64 0, .slice none 0 0] :: blk g2 24 #[.int .i64 w1, .int .i64 h1, .slice A1 x.1.length c1] :: own 3 (.slice A1 x.1.length c1) (vI x.1) :: fs)) (assoc_b hm) ⟨none, 0, hF.weak [0, 1, 4, 5, 6] (by kernel_rfl), hS⟩ ?_
    clear hF hS hm
    rintro nn1 ⟨g3, y1⟩ a w ⟨A1, c1, hF, hS⟩ hm
    generalize hφ1 : stK (gameroomref_OthelloNew_L1 w1 h1) nn1 (fun x => ((gameroomref_OthelloNew_K1 w1 h1) x).bind some) = φ1 at hm
    unfold gameroomref_OthelloNew_L1 at hm
    dsimp only at hF hS hm
    refine seq_cut (fun a w => Fr 62 [pl 0 (.int .i64 w1), pl 1 (.int .i64 h1), pl 4 (.pointer (some ⟨g1, 0, none⟩)), pl 5 (.pointer (some ⟨g2, 0, none⟩)), pl 6 (.int .i64 y1)] a ∧ Sep w0 B w (blk g1 24 #[.int .i64 0, .int .i64 0, .slice none 0 0] :: blk g2 24 #[.int .i64 w1, .int .i64 h1, .slice A1 g3.length c1] :: own 3 (.slice A1 g3.length c1) (vI g3) :: fs) ∧ ((gameroomref_OthelloNew_J2 w1 h1 g3 y1)).bind φ1 = some r) ?_ ?_
    · rintro a w ⟨hF, hS, hm⟩
      unfold gameroomref_OthelloNew_J2 at hm
      refine seq_cut (fun a w => ∃ (g6 : List Int) (A4 : Option Addr) (c4 : Nat), Fr 62 [pl 0 (.int .i64 w1), pl 1 (.int .i64 h1), pl 4 (.pointer (some ⟨g1, 0, none⟩)), pl 5 (.pointer (some ⟨g2, 0, none⟩)), pl 6 (.int .i64 y1)] a ∧ Sep w0 B w (blk g1 24 #[.int .i64 0, .int .i64 0, .slice none 0 0] :: blk g2 24 #[.int .i64 w1, .int .i64 h1, .slice A4 g6.length c4] :: own 3 (.slice A4 g6.length c4) (vI g6) :: fs) ∧ ((gameroomref_OthelloNew_J3 y1) g6).bind φ1 = some r) ?_ ?_
      · rintro a w ⟨g6, A4, c4, hF, hS, hm⟩
        unfold gameroomref_OthelloNew_J3 at hm
        refine reg1 [] [] [0, 1, 4, 5, 6] [pl 0 (.int .i64 w1), pl 1 (.int .i64 h1), pl 4 (.pointer (some ⟨g1, 0, none⟩)), pl 5 (.pointer (some ⟨g2, 0, none⟩)), pl 6 (.int .i64 (w64 (y1 + 1)))] hF hS Fol (by kernel_rfl) (by kernel_rfl) (by kernel_rfl) ?_ (fun a w hF hS => ?_)
        · exact obs_nil
        refine then_n ?_
        rw [← hφ1] at hm
        exact ⟨(g6, (w64 (y1 + 1))), ⟨A4, c4, hF.weak [0, 1, 4, 5, 6] (by kernel_rfl), hS⟩, hm⟩
      · refine wp_block ?_
        refine reg [] [] [0, 1, 4, 5, 6, 7] [pl 0 (.int .i64 w1), pl 1 (.int .i64 h1), pl 4 (.pointer (some ⟨g1, 0, none⟩)), pl 5 (.pointer (some ⟨g2, 0, none⟩)), pl 6 (.int .i64 y1), pl 7 (.int .i64 0)] hF hS Fol (by kernel_rfl) (by kernel_rfl) (by kernel_rfl) ?_ (fun a w hF hS => ?_)
        · exact obs_nil
        refine wp_block ?_
        refine wp_loop_model (S := (List Int × Int)) (R := (List Int)) (gameroomref_OthelloNew_L2 w1 h1 y1) (fun x => ((gameroomref_OthelloNew_K2 y1) x).bind φ1) r (fun (x : (List Int × Int)) a w => ∃ (A3 : Option Addr) (c3 : Nat), Fr 62 [pl 0 (.int .i64 w1), pl 1 (.int .i64 h1), pl 4 (.pointer (some ⟨g1, 0, none⟩)), pl 5 (.pointer (some ⟨g2, 0, none⟩)), pl 6 (.int .i64 y1), pl 7 (.int .i64 x.2)] a ∧ Sep w0 B w (blk g1 24 #[.int .i64 0, .int .i64 0, .slice none 0 0] :: blk g2 24 #[.int .i64 w1, .int .i64 h1, .slice A3 x.1.length c3] :: own 3 (.slice A3 x.1.length c3) (vI x.1) :: fs)) (assoc_b hm) ⟨A1, c1, hF.weak [0, 1, 4, 5, 6, 7] (by kernel_rfl), hS⟩ ?_
        clear hF hS hm
        rintro nn2 ⟨g5, x1⟩ a w ⟨A3, c3, hF, hS⟩ hm
        generalize hφ2 : stK (gameroomref_OthelloNew_L2 w1 h1 y1) nn2 (fun x => ((gameroomref_OthelloNew_K2 y1) x).bind φ1) = φ2 at hm
        unfold gameroomref_OthelloNew_L2 at hm
        dsimp only at hF hS hm
        refine seq_cut (fun a w => Fr 62 [pl 0 (.int .i64 w1), pl 1 (.int .i64 h1), pl 4 (.pointer (some ⟨g1, 0, none⟩)), pl 5 (.pointer (some ⟨g2, 0, none⟩)), pl 6 (.int .i64 y1), pl 7 (.int .i64 x1)] a ∧ Sep w0 B w (blk g1 24 #[.int .i64 0, .int .i64 0, .slice none 0 0] :: blk g2 24 #[.int .i64 w1, .int .i64 h1, .slice A3 g5.length c3] :: own 3 (.slice A3 g5.length c3) (vI g5) :: fs) ∧ ((gameroomref_OthelloNew_J4 w1 h1 y1 g5 x1)).bind φ2 = some r) ?_ ?_
        · rintro a w ⟨hF, hS, hm⟩
          unfold gameroomref_OthelloNew_J4 at hm
          refine seq_cut (fun a w => ∃ (g8 : List Int) (A6 : Option Addr) (c7 : Nat), Fr 62 [pl 0 (.int .i64 w1), pl 1 (.int .i64 h1), pl 4 (.pointer (some ⟨g1, 0, none⟩)), pl 5 (.pointer (some ⟨g2, 0, none⟩)), pl 6 (.int .i64 y1), pl 7 (.int .i64 x1)] a ∧ Sep w0 B w (blk g1 24 #[.int .i64 0, .int .i64 0, .slice none 0 0] :: blk g2 24 #[.int .i64 w1, .int .i64 h1, .slice A6 g8.length c7] :: own 3 (.slice A6 g8.length c7) (vI g8) :: fs) ∧ ((gameroomref_OthelloNew_J5 x1) g8).bind φ2 = some r) ?_ ?_
          · rintro a w ⟨g8, A6, c7, hF, hS, hm⟩
            unfold gameroomref_OthelloNew_J5 at hm
            refine reg1 [] [] [0, 1, 4, 5, 6, 7] [pl 0 (.int .i64 w1), pl 1 (.int .i64 h1), pl 4 (.pointer (some ⟨g1, 0, none⟩)), pl 5 (.pointer (some ⟨g2, 0, none⟩)), pl 6 (.int .i64 y1), pl 7 (.int .i64 (w64 (x1 + 1)))] hF hS Fol (by kernel_rfl) (by kernel_rfl) (by kernel_rfl) ?_ (fun a w hF hS => ?_)
            · exact obs_nil
            refine then_n ?_
            rw [← hφ2] at hm
            exact ⟨(g8, (w64 (x1 + 1))), ⟨A6, c7, hF.weak [0, 1, 4, 5, 6, 7] (by kernel_rfl), hS⟩, hm⟩
          · refine wp_block ?_
            refine reg [] [] [0, 1, 4, 5, 6, 7, 8] [pl 0 (.int .i64 w1), pl 1 (.int .i64 h1), pl 4 (.pointer (some ⟨g1, 0, none⟩)), pl 5 (.pointer (some ⟨g2, 0, none⟩)), pl 6 (.int .i64 y1), pl 7 (.int .i64 x1), pl 8 (.int .i64 0)] hF hS Fol (by kernel_rfl) (by kernel_rfl) (by kernel_rfl) ?_ (fun a w hF hS => ?_)
            · exact obs_nil
            refine seq_cut (fun a w => ∃ (c5 : Int), Fr 62 [pl 0 (.int .i64 w1), pl 1 (.int .i64 h1), pl 4 (.pointer (some ⟨g1, 0, none⟩)), pl 5 (.pointer (some ⟨g2, 0, none⟩)), pl 6 (.int .i64 y1), pl 7 (.int .i64 x1), pl 8 (.int .i64 c5)] a ∧ Sep w0 B w (blk g1 24 #[.int .i64 0, .int .i64 0, .slice none 0 0] :: blk g2 24 #[.int .i64 w1, .int .i64 h1, .slice A3 g5.length c3] :: own 3 (.slice A3 g5.length c3) (vI g5) :: fs) ∧ ((gameroomref_OthelloNew_J6 g5 x1) c5).bind φ2 = some r) ?_ ?_
            · rintro a w ⟨c5, hF, hS, hm⟩
              unfold gameroomref_OthelloNew_J6 at hm
              refine oneR ?_
              obtain ⟨hp1, hm⟩ := asrt_b hm
              refine at_run 3 [⟨false, [], vS (Instr.loadAt 22 (.pointer (some ⟨g2, 2, none⟩))), .slice A3 g5.length c3⟩] [none, some (.slice A3 g5.length c3), none] [0, 1, 4, 5, 6, 7, 56, 57] [pl 0 (.int .i64 w1), pl 1 (.int .i64 h1), pl 4 (.pointer (some ⟨g1, 0, none⟩)), pl 5 (.pointer (some ⟨g2, 0, none⟩)), pl 6 (.int .i64 y1), pl 7 (.int .i64 x1), pl 56 (.slice A3 g5.length c3), pl 57 (.int .i64 c5)] hF hS (by kernel_rfl) (by kernel_rfl) ?_ (fun a w hF hS => ?_)
              · exact obs_cons (ob_load Agg22 (fun _ _ hS => (hS.at_ 1 rfl).cell rfl)) <| obs_nil
              refine at_do (d := 58) (s := vS (Instr.buildSlice 22 1 #[(0, .int .i64 c5)])) (v := .slice (some ⟨w.heap.size, 0, none⟩) 1 1) (w' := w.alloc (.cells #[.int .i64 c5] 3)) hF (by kernel_rfl) (by kernel_rfl) (by kernel_rfl) (fun a hF => ?_)
              have hS : Sep w0 B (w.alloc (.cells #[.int .i64 c5] 3)) (own 3 (.slice (some (⟨w.heap.size, 0, none⟩ : Addr)) 1 1) (vI ([c5] : List Int)) :: (blk g1 24 #[.int .i64 0, .int .i64 0, .slice none 0 0] :: blk g2 24 #[.int .i64 w1, .int .i64 h1, .slice A3 g5.length c3] :: own 3 (.slice A3 g5.length c3) (vI g5) :: fs)) := hS.lit 3 #[.int .i64 c5] 1 rfl (by omega)
              generalize (some (⟨w.heap.size, 0, none⟩ : Addr)) = g7 at hF hS
              generalize w.alloc (.cells #[.int .i64 c5] 3) = w at hS ⊢
              obtain ⟨A5, c6, w, hrun, hS⟩ := run_app1 (P := Try.prog) (t := 22) (m := g5) (ys := ([c5] : List Int)) (A2 := g7) (m2 := 1) (c2 := 1) (Value.int .i64) (0 : Int) (hS.at_ 3 rfl) (hS.at_ 0 rfl).rd ((hS.at_ 0 rfl).len1) 22 Und22 hi3 hz3 hs3 (by omega) rfl (fun _ => rfl) hp1
              have hS : Sep w0 B w (own 3 (.slice g7 1 1) (vI ([c5] : List Int)) :: blk g1 24 #[.int .i64 0, .int .i64 0, .slice none 0 0] :: blk g2 24 #[.int .i64 w1, .int .i64 h1, .slice A3 g5.length c3] :: own 3 (.slice A5 ((g5 ++ ([c5] : List Int)).length) c6) (vI (g5 ++ ([c5] : List Int))) :: fs) := hS
              refine at_do (d := 59) hF (by kernel_rfl) (by kernel_rfl) hrun (fun a hF => ?_)
              refine at_run 1 [] [] [0, 1, 4, 5, 6, 7, 59, 60] [pl 0 (.int .i64 w1), pl 1 (.int .i64 h1), pl 4 (.pointer (some ⟨g1, 0, none⟩)), pl 5 (.pointer (some ⟨g2, 0, none⟩)), pl 6 (.int .i64 y1), pl 7 (.int .i64 x1), pl 59 (.slice A5 ((g5 ++ ([c5] : List Int)).length) c6), pl 60 (.pointer (some ⟨g2, 2, none⟩))] hF hS (by kernel_rfl) (by kernel_rfl) ?_ (fun a w hF hS => ?_)
              · exact obs_nil
              obtain ⟨w, hrun, hS⟩ := run_put (P := Try.prog) (t := 22) (u := .slice A5 ((g5 ++ ([c5] : List Int)).length) c6) (i := 2) (hS.at_ 2 rfl) hi22 hs22 rfl (Nat.lt_of_lt_of_eq (Nat.lt_of_succ_le (Nat.le_of_ble_eq_true (by kernel_rfl))) rfl)
              refine at_skip hF (by kernel_rfl) hrun ?_
              have hS : Sep w0 B w (own 3 (.slice g7 1 1) (vI ([c5] : List Int)) :: blk g1 24 #[.int .i64 0, .int .i64 0, .slice none 0 0] :: blk g2 24 #[.int .i64 w1, .int .i64 h1, .slice A5 ((g5 ++ ([c5] : List Int)).length) c6] :: own 3 (.slice A5 ((g5 ++ ([c5] : List Int)).length) c6) (vI (g5 ++ ([c5] : List Int))) :: fs) := hS
              refine at_end [0, 1, 4, 5, 6, 7] [pl 0 (.int .i64 w1), pl 1 (.int .i64 h1), pl 4 (.pointer (some ⟨g1, 0, none⟩)), pl 5 (.pointer (some ⟨g2, 0, none⟩)), pl 6 (.int .i64 y1), pl 7 (.int .i64 x1)] hF rfl (by kernel_rfl) (fun hF => ?_)
              refine block_n ?_
              refine then_n ?_
              have hS := hS.pickN 4 [1, 2, 3] (by decide)
              exact ⟨(g5 ++ ([c5] : List Int)), A5, c6, hF.weak [0, 1, 4, 5, 6, 7] (by kernel_rfl), hS, hm⟩
            · refine reg [] [] [0, 1, 4, 5, 6, 7, 8, 45] [pl 0 (.int .i64 w1), pl 1 (.int .i64 h1), pl 4 (.pointer (some ⟨g1, 0, none⟩)), pl 5 (.pointer (some ⟨g2, 0, none⟩)), pl 6 (.int .i64 y1), pl 7 (.int .i64 x1), pl 8 (.int .i64 0), pl 45 (.bool (((x1 == (w64 ((w64 (Int.tdiv w1 2)) - 1))) || (x1 == (w64 (Int.tdiv w1 2)))) && ((y1 == (w64 ((w64 (Int.tdiv h1 2)) - 1))) || (y1 == (w64 (Int.tdiv h1 2))))))] hF hS Fol (by kernel_rfl) (by kernel_rfl) (by kernel_rfl) ?_ (fun a w hF hS => ?_)
              · exact obs_nil
              refine cond_ev (t := 45) (b := ((x1 == (w64 ((w64 (Int.tdiv w1 2)) - 1))) || (x1 == (w64 (Int.tdiv w1 2)))) && ((y1 == (w64 ((w64 (Int.tdiv h1 2)) - 1))) || (y1 == (w64 (Int.tdiv h1 2))))) hF (by kernel_rfl) (fun hb => ?_) (fun hb => ?_)
              · replace hm := if_t hm hb
                refine reg [] [] [0, 1, 4, 5, 6, 7, 8] [pl 0 (.int .i64 w1), pl 1 (.int .i64 h1), pl 4 (.pointer (some ⟨g1, 0, none⟩)), pl 5 (.pointer (some ⟨g2, 0, none⟩)), pl 6 (.int .i64 y1), pl 7 (.int .i64 x1), pl 8 (.int .i64 1)] hF hS Fol (by kernel_rfl) (by kernel_rfl) (by kernel_rfl) ?_ (fun a w hF hS => ?_)
                · exact obs_nil
                refine reg [] [] [0, 1, 4, 5, 6, 7, 8, 54] [pl 0 (.int .i64 w1), pl 1 (.int .i64 h1), pl 4 (.pointer (some ⟨g1, 0, none⟩)), pl 5 (.pointer (some ⟨g2, 0, none⟩)), pl 6 (.int .i64 y1), pl 7 (.int .i64 x1), pl 8 (.int .i64 1), pl 54 (.bool ((x1 == (w64 (Int.tdiv w1 2))) == (y1 == (w64 (Int.tdiv h1 2)))))] hF hS Fol (by kernel_rfl) (by kernel_rfl) (by kernel_rfl) ?_ (fun a w hF hS => ?_)
                · exact obs_nil
                refine cond_ev (t := 54) (b := ((x1 == (w64 (Int.tdiv w1 2))) == (y1 == (w64 (Int.tdiv h1 2))))) hF (by kernel_rfl) (fun hb => ?_) (fun hb => ?_)
                · replace hm := if_t hm hb
                  refine reg1 [] [] [0, 1, 4, 5, 6, 7, 8] [pl 0 (.int .i64 w1), pl 1 (.int .i64 h1), pl 4 (.pointer (some ⟨g1, 0, none⟩)), pl 5 (.pointer (some ⟨g2, 0, none⟩)), pl 6 (.int .i64 y1), pl 7 (.int .i64 x1), pl 8 (.int .i64 2)] hF hS Fol (by kernel_rfl) (by kernel_rfl) (by kernel_rfl) ?_ (fun a w hF hS => ?_)
                  · exact obs_nil
                  refine then_n ?_
                  exact ⟨2, hF.weak [0, 1, 4, 5, 6, 7, 8] (by kernel_rfl), hS, hm⟩
                · replace hm := if_f hm hb
                  refine wp_skip ?_
                  refine then_n ?_
                  exact ⟨1, hF.weak [0, 1, 4, 5, 6, 7, 8] (by kernel_rfl), hS, hm⟩
              · replace hm := if_f hm hb
                refine wp_skip ?_
                refine then_n ?_
                exact ⟨0, hF.weak [0, 1, 4, 5, 6, 7, 8] (by kernel_rfl), hS, hm⟩
        · refine reg [] [] [0, 1, 4, 5, 6, 7, 19] [pl 0 (.int .i64 w1), pl 1 (.int .i64 h1), pl 4 (.pointer (some ⟨g1, 0, none⟩)), pl 5 (.pointer (some ⟨g2, 0, none⟩)), pl 6 (.int .i64 y1), pl 7 (.int .i64 x1), pl 19 (.bool (decide (x1 < w1)))] hF hS Fol (by kernel_rfl) (by kernel_rfl) (by kernel_rfl) ?_ (fun a w hF hS => ?_)
          · exact obs_nil
          refine cond_ev (t := 19) (b := decide (x1 < w1)) hF (by kernel_rfl) (fun hb => ?_) (fun hb => ?_)
          · replace hm := if_t hm hb
            refine wp_skip ?_
            refine then_n ?_
            exact ⟨hF.weak [0, 1, 4, 5, 6, 7] (by kernel_rfl), hS, hm⟩
          · replace hm := if_f hm hb
            refine wp_exit ?_
            refine then_e (then_e (block_e (block_n (then_n ?_))))
            rw [← hφ2] at hm
            replace hm := done_b hm
            unfold gameroomref_OthelloNew_K2 at hm
            try dsimp only at hm
            have hm : ((gameroomref_OthelloNew_J3 y1) g5).bind φ1 = some r := hm
            exact ⟨g5, A3, c3, hF.weak [0, 1, 4, 5, 6] (by kernel_rfl), hS, hm⟩
    · refine reg [] [] [0, 1, 4, 5, 6, 14] [pl 0 (.int .i64 w1), pl 1 (.int .i64 h1), pl 4 (.pointer (some ⟨g1, 0, none⟩)), pl 5 (.pointer (some ⟨g2, 0, none⟩)), pl 6 (.int .i64 y1), pl 14 (.bool (decide (y1 < h1)))] hF hS Fol (by kernel_rfl) (by kernel_rfl) (by kernel_rfl) ?_ (fun a w hF hS => ?_)
      · exact obs_nil
      refine cond_ev (t := 14) (b := decide (y1 < h1)) hF (by kernel_rfl) (fun hb => ?_) (fun hb => ?_)
      · replace hm := if_t hm hb
        refine wp_skip ?_
        refine then_n ?_
        exact ⟨hF.weak [0, 1, 4, 5, 6] (by kernel_rfl), hS, hm⟩
      · replace hm := if_f hm hb
        refine wp_exit ?_
        refine then_e (then_e (block_e (then_n ?_)))
        rw [← hφ1] at hm
        replace hm := done_b hm
        unfold gameroomref_OthelloNew_K1 at hm
        try dsimp only at hm
        have hm : ((gameroomref_OthelloNew_J1 w1 h1) g3).bind some = some r := hm
        exact ⟨g3, A1, c1, hF.weak [4, 5] (by kernel_rfl), hS, hm⟩

noncomputable def gameroomref_within_m (n1 : Int) (low1 : Int) (high1 : Int) : Option Bool :=
  some ((decide (low1 ≤ n1)) && (decide (n1 ≤ high1)))

set_option maxRecDepth 100000 in
set_option maxHeartbeats 4000000 in
theorem gameroomref_within_w {n1 : Int} {low1 : Int} {high1 : Int} {r : Bool} {w0 w : World} {B : Nat} {fs : List HP} (hm : gameroomref_within_m n1 low1 high1 = some r) (hS : Sep w0 B w (fs)) :
    Calls Try.prog 64 #[.int .i64 n1, .int .i64 low1, .int .i64 high1] w fun e w' => e = .returned (.bool r) ∧ Sep w0 B w' (fs) := by
  unfold gameroomref_within_m at hm
  replace hm := start_b hm
  refine enter (l := [.int .i64 n1, .int .i64 low1, .int .i64 high1]) (n := 15) Try.func64 rfl rfl (by simp) (fun a hF => ?_)
  refine reg [] [] [0, 1, 2] [pl 0 (.int .i64 n1), pl 1 (.int .i64 low1), pl 2 (.int .i64 high1)] hF hS Fol (by kernel_rfl) (by kernel_rfl) (by kernel_rfl) ?_ (fun a w hF hS => ?_)
  · exact obs_nil
  refine reg [] [] [6] [pl 6 (.bool ((decide (low1 ≤ n1)) && (decide (n1 ≤ high1))))] hF hS Fol (by kernel_rfl) (by kernel_rfl) (by kernel_rfl) ?_ (fun a w hF hS => ?_)
  · exact obs_nil
  refine wp_ret ?_
  have hm : some ((decide (low1 ≤ n1)) && (decide (n1 ≤ high1))) = some r := hm
  obtain rfl := Option.some.inj hm
  exact retV (rs := [.tmp 6]) (vs := [.bool ((decide (low1 ≤ n1)) && (decide (n1 ≤ high1)))]) hF rfl (rv_t (by kernel_rfl) <| rv_nil) rfl ⟨rfl, hS⟩

noncomputable def gameroomref_GridMay_J4 (i1 : Int) : Option (St Int (Fl Unit Bool)) :=
  some (.next (w64 (i1 + 1)))

noncomputable def gameroomref_GridMay_J3 (g3 : List Int) (i1 : Int) : Option (St Int (Fl Unit Bool)) :=
  asrt (0 ≤ i1 ∧ i1 < (g3.length : Int)) <| (gameroomref_within_m (geti g3 i1) 0 2).bind fun r3 => if (!r3) then (some (.done (.ret false))) else ((gameroomref_GridMay_J4 i1))

noncomputable def gameroomref_GridMay_J2 : Option Bool :=
  some true

noncomputable def gameroomref_GridMay_K1 : (Fl Unit Bool) → Option Bool :=
  fun (x : (Fl Unit Bool)) => match x with | .go _ => gameroomref_GridMay_J2 | .ret x => some x

noncomputable def gameroomref_GridMay_L1 (g3 : List Int) : Int → Option (St Int (Fl Unit Bool)) :=
  fun (x : Int) => match x with | i1 => if (decide (i1 < (g3.length : Int))) then ((gameroomref_GridMay_J3 g3 i1)) else (some (.done (.go ())))

noncomputable def gameroomref_GridMay_J1 (g3 : List Int) : Option Bool :=
  (loop (gameroomref_GridMay_L1 g3) 0).bind gameroomref_GridMay_K1

noncomputable def gameroomref_GridMay_m (g1 : Int) (g2 : Int) (g3 : List Int) : Option Bool :=
  (gameroomref_within_m g1 1 10).bind fun r1 => ((if (!(!r1)) then gameroomref_within_m g2 1 10 else some false)).bind fun r2 => if (((!r1) || (!r2)) || ((g3.length : Int) != (w64 (g1 * g2)))) then (some false) else ((gameroomref_GridMay_J1 g3))

set_option maxRecDepth 100000 in
set_option maxHeartbeats 4000000 in
theorem gameroomref_GridMay_w {g1 : Int} {g2 : Int} {A1 : Option Addr} {c1 : Nat} {n1 : Nat} {g3 : List Int} {r : Bool} {w0 w : World} {B : Nat} {fs : List HP} (hm : gameroomref_GridMay_m g1 g2 g3 = some r) (hS : Sep w0 B w (fs)) (hr_g3 : RdF w0 B fs A1 (vI g3)) (_hc_g3 : g3.length ≤ c1) (_hn_g3 : n1 = g3.length) :
    Calls Try.prog 63 #[.agg #[.int .i64 g1, .int .i64 g2, .slice A1 n1 c1]] w fun e w' => e = .returned (.bool r) ∧ Sep w0 B w' (fs) := by
  obtain ⟨i3, hi3, hz3, hs3, hb3⟩ := info_parts Info3
  obtain rfl := _hn_g3
  unfold gameroomref_GridMay_m at hm
  replace hm := start_b hm
  refine enter (l := [.agg #[.int .i64 g1, .int .i64 g2, .slice A1 g3.length c1]]) (n := 39) Try.func63 rfl rfl (by simp) (fun a hF => ?_)
  refine seqR ?_
  refine at_do (d := 1) (s := vS (Instr.box 24 (.agg #[.int .i64 g1, .int .i64 g2, .slice A1 g3.length c1]))) (v := .pointer (some ⟨w.heap.size, 0, none⟩)) (w' := w.alloc (.cells #[.int .i64 g1, .int .i64 g2, .slice A1 g3.length c1] 24)) hF (by kernel_rfl) (by kernel_rfl) (by kernel_rfl) (fun a hF => ?_)
  have hS : Sep w0 B (w.alloc (.cells #[.int .i64 g1, .int .i64 g2, .slice A1 g3.length c1] 24)) (blk w.heap.size 24 #[.int .i64 g1, .int .i64 g2, .slice A1 g3.length c1] :: (fs)) := hS.box 24 #[.int .i64 g1, .int .i64 g2, .slice A1 g3.length c1]
  generalize w.heap.size = g4 at hF hS
  generalize w.alloc (.cells #[.int .i64 g1, .int .i64 g2, .slice A1 g3.length c1] 24) = w at hS ⊢
  refine at_run 1 [] [] [1] [pl 1 (.pointer (some ⟨g4, 0, none⟩))] hF hS (by kernel_rfl) (by kernel_rfl) ?_ (fun a w hF hS => ?_)
  · exact obs_nil
  refine at_end [1] [pl 1 (.pointer (some ⟨g4, 0, none⟩))] hF rfl (by kernel_rfl) (fun hF => ?_)
  refine then_n ?_
  refine seq_cut (fun a w => Fr 39 [pl 1 (.pointer (some ⟨g4, 0, none⟩))] a ∧ Sep w0 B w (blk g4 24 #[.int .i64 g1, .int .i64 g2, .slice A1 g3.length c1] :: fs) ∧ ((gameroomref_GridMay_J1 g3)).bind some = some r) ?_ ?_
  · rintro a w ⟨hF, hS, hm⟩
    unfold gameroomref_GridMay_J1 at hm
    refine seq_cut (fun a w => Fr 39 [] a ∧ Sep w0 B w (fs) ∧ (gameroomref_GridMay_J2).bind some = some r) ?_ ?_
    · rintro a w ⟨hF, hS, hm⟩
      unfold gameroomref_GridMay_J2 at hm
      refine reg [] [] [2] [pl 2 (.bool true)] hF hS Fol (by kernel_rfl) (by kernel_rfl) (by kernel_rfl) ?_ (fun a w hF hS => ?_)
      · exact obs_nil
      refine wp_ret ?_
      have hm : some true = some r := hm
      obtain rfl := Option.some.inj hm
      exact retV (rs := [.tmp 2]) (vs := [.bool true]) hF rfl (rv_t (by kernel_rfl) <| rv_nil) rfl ⟨rfl, hS⟩
    · refine reg [] [] [1, 3] [pl 1 (.pointer (some ⟨g4, 0, none⟩)), pl 3 (.int .i64 0)] hF hS Fol (by kernel_rfl) (by kernel_rfl) (by kernel_rfl) ?_ (fun a w hF hS => ?_)
      · exact obs_nil
      refine wp_block ?_
      refine wp_loop_model (S := Int) (R := (Fl Unit Bool)) (gameroomref_GridMay_L1 g3) (fun x => (gameroomref_GridMay_K1 x).bind some) r (fun (x : Int) a w => Fr 39 [pl 1 (.pointer (some ⟨g4, 0, none⟩)), pl 3 (.int .i64 x)] a ∧ Sep w0 B w (blk g4 24 #[.int .i64 g1, .int .i64 g2, .slice A1 g3.length c1] :: fs)) (assoc_b hm) ⟨hF.weak [1, 3] (by kernel_rfl), hS⟩ ?_
      clear hF hS hm
      rintro nn1 i1 a w ⟨hF, hS⟩ hm
      generalize hφ1 : stK (gameroomref_GridMay_L1 g3) nn1 (fun x => (gameroomref_GridMay_K1 x).bind some) = φ1 at hm
      unfold gameroomref_GridMay_L1 at hm
      dsimp only at hm
      refine seq_cut (fun a w => Fr 39 [pl 1 (.pointer (some ⟨g4, 0, none⟩)), pl 3 (.int .i64 i1)] a ∧ Sep w0 B w (blk g4 24 #[.int .i64 g1, .int .i64 g2, .slice A1 g3.length c1] :: fs) ∧ ((gameroomref_GridMay_J3 g3 i1)).bind φ1 = some r) ?_ ?_
      · rintro a w ⟨hF, hS, hm⟩
        unfold gameroomref_GridMay_J3 at hm
        refine seq_cut (fun a w => Fr 39 [pl 1 (.pointer (some ⟨g4, 0, none⟩)), pl 3 (.int .i64 i1)] a ∧ Sep w0 B w (blk g4 24 #[.int .i64 g1, .int .i64 g2, .slice A1 g3.length c1] :: fs) ∧ ((gameroomref_GridMay_J4 i1)).bind φ1 = some r) ?_ ?_
        · rintro a w ⟨hF, hS, hm⟩
          unfold gameroomref_GridMay_J4 at hm
          refine reg1 [] [] [1, 3] [pl 1 (.pointer (some ⟨g4, 0, none⟩)), pl 3 (.int .i64 (w64 (i1 + 1)))] hF hS Fol (by kernel_rfl) (by kernel_rfl) (by kernel_rfl) ?_ (fun a w hF hS => ?_)
          · exact obs_nil
          refine then_n ?_
          rw [← hφ1] at hm
          exact ⟨(w64 (i1 + 1)), ⟨hF.weak [1, 3] (by kernel_rfl), hS⟩, hm⟩
        · refine wp_block ?_
          obtain ⟨hp1, hm⟩ := asrt_b hm
          obtain ⟨r3, hr3, hm⟩ := call_b hm
          refine reg [⟨false, [], vS (Instr.loadAt 22 (.pointer (some ⟨g4, 2, none⟩))), .slice A1 g3.length c1⟩, ⟨true, [], vS (Instr.indexAt 22 (.slice A1 g3.length c1) (.int .i64 i1)), .pointer (some (sAddr A1 i1))⟩, ⟨false, [], vS (Instr.loadAt 3 (.pointer (some (sAddr A1 i1)))), .int .i64 (geti g3 i1)⟩, ⟨false, [], callFunc 64 #[.int .i64 (geti g3 i1), .int .i64 0, .int .i64 2], .bool r3⟩] [none, some (.slice A1 g3.length c1), none, some (.pointer (some (sAddr A1 i1))), some (.int .i64 (geti g3 i1)), some (.bool r3), none] [1, 3, 38] [pl 1 (.pointer (some ⟨g4, 0, none⟩)), pl 3 (.int .i64 i1), pl 38 (.bool (!r3))] hF hS Fol (by kernel_rfl) (by kernel_rfl) (by kernel_rfl) ?_ (fun a w hF hS => ?_)
          · exact obs_cons (ob_load Agg22 (fun _ _ hS => (hS.at_ 0 rfl).cell rfl)) <| obs_cons (ob_ix1 (f := (Value.int .i64)) (m := g3) Und22 hi3 hs3 (hr_g3 _ (hS.dropN 1)) rfl (fun _ => hp1)) <| obs_cons (ob_get1 (n := g3.length) (m := g3) (Value.int .i64) (0 : Int) Agg3 (fun _ hS => ⟨_, (hr_g3 _ (hS.dropN 1))⟩) (fun _ hS => rfl) (fun _ => hp1)) <| obs_cons (ob_call Try.func64 (by kernel_rfl) rfl (fun _ _ hS => gameroomref_within_w hr3 hS )) <| obs_nil
          refine cond_ev (t := 38) (b := !r3) hF (by kernel_rfl) (fun hb => ?_) (fun hb => ?_)
          · replace hm := if_t hm hb
            refine reg [] [] [2] [pl 2 (.bool false)] hF hS Fol (by kernel_rfl) (by kernel_rfl) (by kernel_rfl) ?_ (fun a w hF hS => ?_)
            · exact obs_nil
            refine wp_ret ?_
            refine block_r (then_r (then_r (block_r (then_r ?_))))
            rw [← hφ1] at hm
            replace hm := done_b hm
            unfold gameroomref_GridMay_K1 at hm
            try dsimp only at hm
            have hS := hS.pickN 1 [] (by decide)
            have hm : some false = some r := hm
            obtain rfl := Option.some.inj hm
            exact retV (rs := [.tmp 2]) (vs := [.bool false]) hF rfl (rv_t (by kernel_rfl) <| rv_nil) rfl ⟨rfl, hS⟩
          · replace hm := if_f hm hb
            refine wp_skip ?_
            refine block_n ?_
            refine then_n ?_
            exact ⟨hF.weak [1, 3] (by kernel_rfl), hS, hm⟩
      · refine reg [⟨false, [], vS (Instr.loadAt 22 (.pointer (some ⟨g4, 2, none⟩))), .slice A1 g3.length c1⟩] [none, none, some (.slice A1 g3.length c1), none, none] [1, 3, 29] [pl 1 (.pointer (some ⟨g4, 0, none⟩)), pl 3 (.int .i64 i1), pl 29 (.bool (decide (i1 < (g3.length : Int))))] hF hS Fol (by kernel_rfl) (by kernel_rfl) (by kernel_rfl) ?_ (fun a w hF hS => ?_)
        · exact obs_cons (ob_load Agg22 (fun _ _ hS => (hS.at_ 0 rfl).cell rfl)) <| obs_nil
        refine cond_ev (t := 29) (b := decide (i1 < (g3.length : Int))) hF (by kernel_rfl) (fun hb => ?_) (fun hb => ?_)
        · replace hm := if_t hm hb
          refine wp_skip ?_
          refine then_n ?_
          exact ⟨hF.weak [1, 3] (by kernel_rfl), hS, hm⟩
        · replace hm := if_f hm hb
          refine wp_exit ?_
          refine then_e (then_e (block_e (then_n ?_)))
          have hS := hS.pickN 1 [] (by decide)
          rw [← hφ1] at hm
          replace hm := done_b hm
          unfold gameroomref_GridMay_K1 at hm
          try dsimp only at hm
          have hm : (gameroomref_GridMay_J2).bind some = some r := hm
          exact ⟨hF.weak [] (by kernel_rfl), hS, hm⟩
  · obtain ⟨r1, hr1, hm⟩ := call_b hm
    obtain ⟨r2, hr2, hm⟩ := call_b hm
    refine reg [⟨false, [], vS (Instr.loadAt 3 (.pointer (some ⟨g4, 0, none⟩))), .int .i64 g1⟩, ⟨false, [], callFunc 64 #[.int .i64 g1, .int .i64 1, .int .i64 10], .bool r1⟩, ⟨false, [(!r1, false)], vS (Instr.loadAt 3 (.pointer (some ⟨g4, 1, none⟩))), .int .i64 g2⟩, ⟨false, [(!r1, false)], callFunc 64 #[.int .i64 g2, .int .i64 1, .int .i64 10], .bool r2⟩, ⟨false, [((!r1) || (!r2), false)], vS (Instr.loadAt 22 (.pointer (some ⟨g4, 2, none⟩))), .slice A1 g3.length c1⟩, ⟨false, [((!r1) || (!r2), false)], vS (Instr.loadAt 3 (.pointer (some ⟨g4, 0, none⟩))), .int .i64 g1⟩, ⟨false, [((!r1) || (!r2), false)], vS (Instr.loadAt 3 (.pointer (some ⟨g4, 1, none⟩))), .int .i64 g2⟩] [none, some (.int .i64 g1), some (.bool r1), none, none, none, some (.int .i64 g2), some (.bool r2), none, none, none, none, some (.slice A1 g3.length c1), none, none, some (.int .i64 g1), none, some (.int .i64 g2), none, none, none] [1, 24] [pl 1 (.pointer (some ⟨g4, 0, none⟩)), pl 24 (.bool (((!r1) || (!r2)) || ((g3.length : Int) != (w64 (g1 * g2)))))] hF hS Fol (by kernel_rfl) (by kernel_rfl) (by kernel_rfl) ?_ (fun a w hF hS => ?_)
    · exact obs_cons (ob_load Agg3 (fun _ _ hS => (hS.at_ 0 rfl).cell rfl)) <| obs_cons (ob_call Try.func64 (by kernel_rfl) rfl (fun _ _ hS => gameroomref_within_w hr1 hS )) <| obs_cons (ob_load Agg3 (fun _ _ hS => (hS.at_ 0 rfl).cell rfl)) <| obs_cons (ob_call Try.func64 (by kernel_rfl) rfl (fun hy _ hS => gameroomref_within_w (ite_some hr2 (by rw [show (!r1) = false from hy (!r1, false) (by simp)]; try rfl)) hS )) <| obs_cons (ob_load Agg22 (fun _ _ hS => (hS.at_ 0 rfl).cell rfl)) <| obs_cons (ob_load Agg3 (fun _ _ hS => (hS.at_ 0 rfl).cell rfl)) <| obs_cons (ob_load Agg3 (fun _ _ hS => (hS.at_ 0 rfl).cell rfl)) <| obs_nil
    refine cond_ev (t := 24) (b := ((!r1) || (!r2)) || ((g3.length : Int) != (w64 (g1 * g2)))) hF (by kernel_rfl) (fun hb => ?_) (fun hb => ?_)
    · replace hm := if_t hm hb
      refine reg [] [] [2] [pl 2 (.bool false)] hF hS Fol (by kernel_rfl) (by kernel_rfl) (by kernel_rfl) ?_ (fun a w hF hS => ?_)
      · exact obs_nil
      refine wp_ret ?_
      refine then_r ?_
      have hS := hS.pickN 1 [] (by decide)
      have hm : some false = some r := hm
      obtain rfl := Option.some.inj hm
      exact retV (rs := [.tmp 2]) (vs := [.bool false]) hF rfl (rv_t (by kernel_rfl) <| rv_nil) rfl ⟨rfl, hS⟩
    · replace hm := if_f hm hb
      refine wp_skip ?_
      refine then_n ?_
      exact ⟨hF.weak [1] (by kernel_rfl), hS, hm⟩

noncomputable def gameroomref_OthelloMay_m (g1 : Int) (g2 : Int) (g3 : List Int) : Option Bool :=
  (gameroomref_GridMay_m g1 g2 g3).bind fun r1 => ((if r1 then gameroomref_within_m g1 4 8 else some false)).bind fun r2 => ((if (r1 && r2) then gameroomref_within_m g2 4 8 else some false)).bind fun r3 => some ((((r1 && r2) && r3) && ((Int.tmod g1 2) == 0)) && ((Int.tmod g2 2) == 0))

set_option maxRecDepth 100000 in
set_option maxHeartbeats 4000000 in
theorem gameroomref_OthelloMay_w {g1 : Int} {g2 : Int} {A1 : Option Addr} {c1 : Nat} {n1 : Nat} {g3 : List Int} {r : Bool} {w0 w : World} {B : Nat} {fs : List HP} (hm : gameroomref_OthelloMay_m g1 g2 g3 = some r) (hS : Sep w0 B w (fs)) (hr_g3 : RdF w0 B fs A1 (vI g3)) (_hc_g3 : g3.length ≤ c1) (_hn_g3 : n1 = g3.length) :
    Calls Try.prog 19 #[.agg #[.int .i64 g1, .int .i64 g2, .slice A1 n1 c1]] w fun e w' => e = .returned (.bool r) ∧ Sep w0 B w' (fs) := by
  obtain ⟨i3, hi3, hz3, hs3, hb3⟩ := info_parts Info3
  obtain rfl := _hn_g3
  unfold gameroomref_OthelloMay_m at hm
  replace hm := start_b hm
  refine enter (l := [.agg #[.int .i64 g1, .int .i64 g2, .slice A1 g3.length c1]]) (n := 27) Try.func19 rfl rfl (by simp) (fun a hF => ?_)
  refine seqR ?_
  refine at_do (d := 1) (s := vS (Instr.box 24 (.agg #[.int .i64 g1, .int .i64 g2, .slice A1 g3.length c1]))) (v := .pointer (some ⟨w.heap.size, 0, none⟩)) (w' := w.alloc (.cells #[.int .i64 g1, .int .i64 g2, .slice A1 g3.length c1] 24)) hF (by kernel_rfl) (by kernel_rfl) (by kernel_rfl) (fun a hF => ?_)
  have hS : Sep w0 B (w.alloc (.cells #[.int .i64 g1, .int .i64 g2, .slice A1 g3.length c1] 24)) (blk w.heap.size 24 #[.int .i64 g1, .int .i64 g2, .slice A1 g3.length c1] :: (fs)) := hS.box 24 #[.int .i64 g1, .int .i64 g2, .slice A1 g3.length c1]
  generalize w.heap.size = g4 at hF hS
  generalize w.alloc (.cells #[.int .i64 g1, .int .i64 g2, .slice A1 g3.length c1] 24) = w at hS ⊢
  refine at_run 1 [] [] [1] [pl 1 (.pointer (some ⟨g4, 0, none⟩))] hF hS (by kernel_rfl) (by kernel_rfl) ?_ (fun a w hF hS => ?_)
  · exact obs_nil
  refine at_end [1] [pl 1 (.pointer (some ⟨g4, 0, none⟩))] hF rfl (by kernel_rfl) (fun hF => ?_)
  refine then_n ?_
  obtain ⟨r1, hr1, hm⟩ := call_b hm
  obtain ⟨r2, hr2, hm⟩ := call_b hm
  obtain ⟨r3, hr3, hm⟩ := call_b hm
  refine reg [⟨false, [], vS (Instr.loadAt 24 (.pointer (some ⟨g4, 0, none⟩))), .agg #[.int .i64 g1, .int .i64 g2, .slice A1 g3.length c1]⟩, ⟨false, [], callFunc 63 #[.agg #[.int .i64 g1, .int .i64 g2, .slice A1 g3.length c1]], .bool r1⟩, ⟨false, [(r1, true)], vS (Instr.loadAt 3 (.pointer (some ⟨g4, 0, none⟩))), .int .i64 g1⟩, ⟨false, [(r1, true)], callFunc 64 #[.int .i64 g1, .int .i64 4, .int .i64 8], .bool r2⟩, ⟨false, [(r1 && r2, true)], vS (Instr.loadAt 3 (.pointer (some ⟨g4, 1, none⟩))), .int .i64 g2⟩, ⟨false, [(r1 && r2, true)], callFunc 64 #[.int .i64 g2, .int .i64 4, .int .i64 8], .bool r3⟩, ⟨false, [((r1 && r2) && r3, true)], vS (Instr.loadAt 3 (.pointer (some ⟨g4, 0, none⟩))), .int .i64 g1⟩, ⟨false, [(((r1 && r2) && r3) && ((Int.tmod g1 2) == 0), true)], vS (Instr.loadAt 3 (.pointer (some ⟨g4, 1, none⟩))), .int .i64 g2⟩] [some (.agg #[.int .i64 g1, .int .i64 g2, .slice A1 g3.length c1]), some (.bool r1), none, none, some (.int .i64 g1), some (.bool r2), none, none, none, some (.int .i64 g2), some (.bool r3), none, none, none, some (.int .i64 g1), none, none, none, none, none, some (.int .i64 g2), none, none, none, none] [2] [pl 2 (.bool ((((r1 && r2) && r3) && ((Int.tmod g1 2) == 0)) && ((Int.tmod g2 2) == 0)))] hF hS Fol (by kernel_rfl) (by kernel_rfl) (by kernel_rfl) ?_ (fun a w hF hS => ?_)
  · exact obs_cons (ob_loadA (cs := #[.int .i64 g1, .int .i64 g2, .slice A1 g3.length c1]) (by kernel_rfl) (by kernel_rfl) (fun _ _ hS => (hS.at_ 0 rfl).cellsAt 0 (by rfl))) <| obs_cons (ob_call Try.func63 (by kernel_rfl) rfl (fun _ _ hS => gameroomref_GridMay_w hr1 hS (fun _ hS => (hr_g3 _ (hS.dropN 1))) _hc_g3 rfl)) <| obs_cons (ob_load Agg3 (fun _ _ hS => (hS.at_ 0 rfl).cell rfl)) <| obs_cons (ob_call Try.func64 (by kernel_rfl) rfl (fun hy _ hS => gameroomref_within_w (ite_some hr2 (by rw [show r1 = true from hy (r1, true) (by simp)]; try rfl)) hS )) <| obs_cons (ob_load Agg3 (fun _ _ hS => (hS.at_ 0 rfl).cell rfl)) <| obs_cons (ob_call Try.func64 (by kernel_rfl) rfl (fun hy _ hS => gameroomref_within_w (ite_some hr3 (by rw [show (r1 && r2) = true from hy (r1 && r2, true) (by simp)]; try rfl)) hS )) <| obs_cons (ob_load Agg3 (fun _ _ hS => (hS.at_ 0 rfl).cell rfl)) <| obs_cons (ob_load Agg3 (fun _ _ hS => (hS.at_ 0 rfl).cell rfl)) <| obs_nil
  refine wp_ret ?_
  have hS := hS.pickN 1 [] (by decide)
  have hm : some ((((r1 && r2) && r3) && ((Int.tmod g1 2) == 0)) && ((Int.tmod g2 2) == 0)) = some r := hm
  obtain rfl := Option.some.inj hm
  exact retV (rs := [.tmp 2]) (vs := [.bool ((((r1 && r2) && r3) && ((Int.tmod g1 2) == 0)) && ((Int.tmod g2 2) == 0))]) hF rfl (rv_t (by kernel_rfl) <| rv_nil) rfl ⟨rfl, hS⟩

noncomputable def gameroomlaw_sameInts_J4 (i1 : Int) : Option (St Int (Fl Unit Bool)) :=
  some (.next (w64 (i1 + 1)))

noncomputable def gameroomlaw_sameInts_J3 (a1 : List Int) (b1 : List Int) (i1 : Int) : Option (St Int (Fl Unit Bool)) :=
  asrt (0 ≤ i1 ∧ i1 < (a1.length : Int)) <| asrt (0 ≤ i1 ∧ i1 < (b1.length : Int)) <| if ((geti a1 i1) != (geti b1 i1)) then (some (.done (.ret false))) else ((gameroomlaw_sameInts_J4 i1))

noncomputable def gameroomlaw_sameInts_J2 : Option Bool :=
  some true

noncomputable def gameroomlaw_sameInts_K1 : (Fl Unit Bool) → Option Bool :=
  fun (x : (Fl Unit Bool)) => match x with | .go _ => gameroomlaw_sameInts_J2 | .ret x => some x

noncomputable def gameroomlaw_sameInts_L1 (a1 : List Int) (b1 : List Int) : Int → Option (St Int (Fl Unit Bool)) :=
  fun (x : Int) => match x with | i1 => if (decide (i1 < (a1.length : Int))) then ((gameroomlaw_sameInts_J3 a1 b1 i1)) else (some (.done (.go ())))

noncomputable def gameroomlaw_sameInts_J1 (a1 : List Int) (b1 : List Int) : Option Bool :=
  (loop (gameroomlaw_sameInts_L1 a1 b1) 0).bind gameroomlaw_sameInts_K1

noncomputable def gameroomlaw_sameInts_m (a1 : List Int) (b1 : List Int) : Option Bool :=
  if ((a1.length : Int) != (b1.length : Int)) then (some false) else ((gameroomlaw_sameInts_J1 a1 b1))

set_option maxRecDepth 100000 in
set_option maxHeartbeats 4000000 in
theorem gameroomlaw_sameInts_w {A1 : Option Addr} {c1 : Nat} {n1 : Nat} {a1 : List Int} {A2 : Option Addr} {c2 : Nat} {n2 : Nat} {b1 : List Int} {r : Bool} {w0 w : World} {B : Nat} {fs : List HP} (hm : gameroomlaw_sameInts_m a1 b1 = some r) (hS : Sep w0 B w (fs)) (hr_a1 : RdF w0 B fs A1 (vI a1)) (_hc_a1 : a1.length ≤ c1) (_hn_a1 : n1 = a1.length) (hr_b1 : RdF w0 B fs A2 (vI b1)) (_hc_b1 : b1.length ≤ c2) (_hn_b1 : n2 = b1.length) :
    Calls Try.prog 20 #[.slice A1 n1 c1, .slice A2 n2 c2] w fun e w' => e = .returned (.bool r) ∧ Sep w0 B w' (fs) := by
  obtain ⟨i3, hi3, hz3, hs3, hb3⟩ := info_parts Info3
  obtain rfl := _hn_a1
  obtain rfl := _hn_b1
  unfold gameroomlaw_sameInts_m at hm
  replace hm := start_b hm
  refine enter (l := [.slice A1 a1.length c1, .slice A2 b1.length c2]) (n := 26) Try.func20 rfl rfl (by simp) (fun a hF => ?_)
  refine reg [] [] [0, 1] [pl 0 (.slice A1 a1.length c1), pl 1 (.slice A2 b1.length c2)] hF hS Fol (by kernel_rfl) (by kernel_rfl) (by kernel_rfl) ?_ (fun a w hF hS => ?_)
  · exact obs_nil
  refine seq_cut (fun a w => Fr 26 [pl 0 (.slice A1 a1.length c1), pl 1 (.slice A2 b1.length c2)] a ∧ Sep w0 B w (fs) ∧ ((gameroomlaw_sameInts_J1 a1 b1)).bind some = some r) ?_ ?_
  · rintro a w ⟨hF, hS, hm⟩
    unfold gameroomlaw_sameInts_J1 at hm
    refine seq_cut (fun a w => Fr 26 [] a ∧ Sep w0 B w (fs) ∧ (gameroomlaw_sameInts_J2).bind some = some r) ?_ ?_
    · rintro a w ⟨hF, hS, hm⟩
      unfold gameroomlaw_sameInts_J2 at hm
      refine reg [] [] [4] [pl 4 (.bool true)] hF hS Fol (by kernel_rfl) (by kernel_rfl) (by kernel_rfl) ?_ (fun a w hF hS => ?_)
      · exact obs_nil
      refine wp_ret ?_
      have hm : some true = some r := hm
      obtain rfl := Option.some.inj hm
      exact retV (rs := [.tmp 4]) (vs := [.bool true]) hF rfl (rv_t (by kernel_rfl) <| rv_nil) rfl ⟨rfl, hS⟩
    · refine reg [] [] [0, 1, 5] [pl 0 (.slice A1 a1.length c1), pl 1 (.slice A2 b1.length c2), pl 5 (.int .i64 0)] hF hS Fol (by kernel_rfl) (by kernel_rfl) (by kernel_rfl) ?_ (fun a w hF hS => ?_)
      · exact obs_nil
      refine wp_block ?_
      refine wp_loop_model (S := Int) (R := (Fl Unit Bool)) (gameroomlaw_sameInts_L1 a1 b1) (fun x => (gameroomlaw_sameInts_K1 x).bind some) r (fun (x : Int) a w => Fr 26 [pl 0 (.slice A1 a1.length c1), pl 1 (.slice A2 b1.length c2), pl 5 (.int .i64 x)] a ∧ Sep w0 B w (fs)) (assoc_b hm) ⟨hF.weak [0, 1, 5] (by kernel_rfl), hS⟩ ?_
      clear hF hS hm
      rintro nn1 i1 a w ⟨hF, hS⟩ hm
      generalize hφ1 : stK (gameroomlaw_sameInts_L1 a1 b1) nn1 (fun x => (gameroomlaw_sameInts_K1 x).bind some) = φ1 at hm
      unfold gameroomlaw_sameInts_L1 at hm
      dsimp only at hm
      refine seq_cut (fun a w => Fr 26 [pl 0 (.slice A1 a1.length c1), pl 1 (.slice A2 b1.length c2), pl 5 (.int .i64 i1)] a ∧ Sep w0 B w (fs) ∧ ((gameroomlaw_sameInts_J3 a1 b1 i1)).bind φ1 = some r) ?_ ?_
      · rintro a w ⟨hF, hS, hm⟩
        unfold gameroomlaw_sameInts_J3 at hm
        refine seq_cut (fun a w => Fr 26 [pl 0 (.slice A1 a1.length c1), pl 1 (.slice A2 b1.length c2), pl 5 (.int .i64 i1)] a ∧ Sep w0 B w (fs) ∧ ((gameroomlaw_sameInts_J4 i1)).bind φ1 = some r) ?_ ?_
        · rintro a w ⟨hF, hS, hm⟩
          unfold gameroomlaw_sameInts_J4 at hm
          refine reg1 [] [] [0, 1, 5] [pl 0 (.slice A1 a1.length c1), pl 1 (.slice A2 b1.length c2), pl 5 (.int .i64 (w64 (i1 + 1)))] hF hS Fol (by kernel_rfl) (by kernel_rfl) (by kernel_rfl) ?_ (fun a w hF hS => ?_)
          · exact obs_nil
          refine then_n ?_
          rw [← hφ1] at hm
          exact ⟨(w64 (i1 + 1)), ⟨hF.weak [0, 1, 5] (by kernel_rfl), hS⟩, hm⟩
        · refine wp_block ?_
          obtain ⟨hp1, hm⟩ := asrt_b hm
          obtain ⟨hp2, hm⟩ := asrt_b hm
          refine reg [⟨true, [], vS (Instr.indexAt 22 (.slice A1 a1.length c1) (.int .i64 i1)), .pointer (some (sAddr A1 i1))⟩, ⟨false, [], vS (Instr.loadAt 3 (.pointer (some (sAddr A1 i1)))), .int .i64 (geti a1 i1)⟩, ⟨true, [], vS (Instr.indexAt 22 (.slice A2 b1.length c2) (.int .i64 i1)), .pointer (some (sAddr A2 i1))⟩, ⟨false, [], vS (Instr.loadAt 3 (.pointer (some (sAddr A2 i1)))), .int .i64 (geti b1 i1)⟩] [none, none, some (.pointer (some (sAddr A1 i1))), some (.int .i64 (geti a1 i1)), none, none, some (.pointer (some (sAddr A2 i1))), some (.int .i64 (geti b1 i1)), none] [0, 1, 5, 25] [pl 0 (.slice A1 a1.length c1), pl 1 (.slice A2 b1.length c2), pl 5 (.int .i64 i1), pl 25 (.bool ((geti a1 i1) != (geti b1 i1)))] hF hS Fol (by kernel_rfl) (by kernel_rfl) (by kernel_rfl) ?_ (fun a w hF hS => ?_)
          · exact obs_cons (ob_ix1 (f := (Value.int .i64)) (m := a1) Und22 hi3 hs3 (hr_a1 _ (hS.dropN 0)) rfl (fun _ => hp1)) <| obs_cons (ob_get1 (n := a1.length) (m := a1) (Value.int .i64) (0 : Int) Agg3 (fun _ hS => ⟨_, (hr_a1 _ (hS.dropN 0))⟩) (fun _ hS => rfl) (fun _ => hp1)) <| obs_cons (ob_ix1 (f := (Value.int .i64)) (m := b1) Und22 hi3 hs3 (hr_b1 _ (hS.dropN 0)) rfl (fun _ => hp2)) <| obs_cons (ob_get1 (n := b1.length) (m := b1) (Value.int .i64) (0 : Int) Agg3 (fun _ hS => ⟨_, (hr_b1 _ (hS.dropN 0))⟩) (fun _ hS => rfl) (fun _ => hp2)) <| obs_nil
          refine cond_ev (t := 25) (b := ((geti a1 i1) != (geti b1 i1))) hF (by kernel_rfl) (fun hb => ?_) (fun hb => ?_)
          · replace hm := if_t hm hb
            refine reg [] [] [4] [pl 4 (.bool false)] hF hS Fol (by kernel_rfl) (by kernel_rfl) (by kernel_rfl) ?_ (fun a w hF hS => ?_)
            · exact obs_nil
            refine wp_ret ?_
            refine block_r (then_r (then_r (block_r (then_r ?_))))
            rw [← hφ1] at hm
            replace hm := done_b hm
            unfold gameroomlaw_sameInts_K1 at hm
            try dsimp only at hm
            have hm : some false = some r := hm
            obtain rfl := Option.some.inj hm
            exact retV (rs := [.tmp 4]) (vs := [.bool false]) hF rfl (rv_t (by kernel_rfl) <| rv_nil) rfl ⟨rfl, hS⟩
          · replace hm := if_f hm hb
            refine wp_skip ?_
            refine block_n ?_
            refine then_n ?_
            exact ⟨hF.weak [0, 1, 5] (by kernel_rfl), hS, hm⟩
      · refine reg [] [] [0, 1, 5, 14] [pl 0 (.slice A1 a1.length c1), pl 1 (.slice A2 b1.length c2), pl 5 (.int .i64 i1), pl 14 (.bool (decide (i1 < (a1.length : Int))))] hF hS Fol (by kernel_rfl) (by kernel_rfl) (by kernel_rfl) ?_ (fun a w hF hS => ?_)
        · exact obs_nil
        refine cond_ev (t := 14) (b := decide (i1 < (a1.length : Int))) hF (by kernel_rfl) (fun hb => ?_) (fun hb => ?_)
        · replace hm := if_t hm hb
          refine wp_skip ?_
          refine then_n ?_
          exact ⟨hF.weak [0, 1, 5] (by kernel_rfl), hS, hm⟩
        · replace hm := if_f hm hb
          refine wp_exit ?_
          refine then_e (then_e (block_e (then_n ?_)))
          rw [← hφ1] at hm
          replace hm := done_b hm
          unfold gameroomlaw_sameInts_K1 at hm
          try dsimp only at hm
          have hm : (gameroomlaw_sameInts_J2).bind some = some r := hm
          exact ⟨hF.weak [] (by kernel_rfl), hS, hm⟩
  · refine reg [] [] [0, 1, 10] [pl 0 (.slice A1 a1.length c1), pl 1 (.slice A2 b1.length c2), pl 10 (.bool ((a1.length : Int) != (b1.length : Int)))] hF hS Fol (by kernel_rfl) (by kernel_rfl) (by kernel_rfl) ?_ (fun a w hF hS => ?_)
    · exact obs_nil
    refine cond_ev (t := 10) (b := ((a1.length : Int) != (b1.length : Int))) hF (by kernel_rfl) (fun hb => ?_) (fun hb => ?_)
    · replace hm := if_t hm hb
      refine reg [] [] [4] [pl 4 (.bool false)] hF hS Fol (by kernel_rfl) (by kernel_rfl) (by kernel_rfl) ?_ (fun a w hF hS => ?_)
      · exact obs_nil
      refine wp_ret ?_
      refine then_r ?_
      have hm : some false = some r := hm
      obtain rfl := Option.some.inj hm
      exact retV (rs := [.tmp 4]) (vs := [.bool false]) hF rfl (rv_t (by kernel_rfl) <| rv_nil) rfl ⟨rfl, hS⟩
    · replace hm := if_f hm hb
      refine wp_skip ?_
      refine then_n ?_
      exact ⟨hF.weak [0, 1] (by kernel_rfl), hS, hm⟩

noncomputable def gameroomref_PutSign_J9 (dx1 : Int) (dy1 : Int) (n2 : Int) (x1 : Int) (y1 : Int) : Option (St (Int × Int × Int) (Int × Int × Int)) :=
  some (.next ((w64 (n2 + 1)), (w64 (x1 + dx1)), (w64 (y1 + dy1))))

noncomputable def gameroomref_PutSign_J6 (dy1 : Int) (out5 : List Int) (many5 : Int) : Option (St (List Int × Int × Int) (List Int × Int)) :=
  some (.next (out5, many5, (w64 (dy1 + 1))))

noncomputable def gameroomref_PutSign_J13 (g1 : Int) (who1 : Int) (place1 : Int) (dx1 : Int) (dy1 : Int) (out6 : List Int) (i1 : Int) : Option (St (List Int × Int) (List Int)) :=
  some (.next ((out6.set (Int.toNat (w64 ((w64 ((w64 ((w64 ((w64 (Int.tdiv place1 g1)) + (w64 (i1 * dy1)))) * g1)) + (Int.tmod place1 g1))) + (w64 (i1 * dx1))))) who1), (w64 (i1 + 1))))

noncomputable def gameroomref_PutSign_J12 (g1 : Int) (who1 : Int) (place1 : Int) (r1 : (Int × Int × List Int)) (dx1 : Int) (dy1 : Int) (out6 : List Int) (i1 : Int) : Option (St (List Int × Int) (List Int)) :=
  asrt (g1 ≠ (0 : Int)) <| asrt (g1 ≠ (0 : Int)) <| asrt (0 ≤ (w64 ((w64 ((w64 ((w64 ((w64 (Int.tdiv place1 g1)) + (w64 (i1 * dy1)))) * g1)) + (Int.tmod place1 g1))) + (w64 (i1 * dx1)))) ∧ (w64 ((w64 ((w64 ((w64 ((w64 (Int.tdiv place1 g1)) + (w64 (i1 * dy1)))) * g1)) + (Int.tmod place1 g1))) + (w64 (i1 * dx1)))) < (r1.2.2.length : Int)) <| (gameroomref_PutSign_J13 g1 who1 place1 dx1 dy1 out6 i1)

noncomputable def gameroomref_PutSign_L4 (g1 : Int) (who1 : Int) (place1 : Int) (r1 : (Int × Int × List Int)) (dx1 : Int) (dy1 : Int) (n3 : Int) : (List Int × Int) → Option (St (List Int × Int) (List Int)) :=
  fun (x : (List Int × Int)) => match x with | (out6, i1) => if (decide (i1 ≤ n3)) then ((gameroomref_PutSign_J12 g1 who1 place1 r1 dx1 dy1 out6 i1)) else (some (.done out6))

noncomputable def gameroomref_PutSign_J11 (many3 : Int) (dy1 : Int) (n3 : Int) (out7 : List Int) : Option (St (List Int × Int × Int) (List Int × Int)) :=
  (gameroomref_PutSign_J6 dy1) out7 (w64 (many3 + n3))

noncomputable def gameroomref_PutSign_K4 (many3 : Int) (dy1 : Int) (n3 : Int) : (List Int) → Option (St (List Int × Int × Int) (List Int × Int)) :=
  fun (x : (List Int)) => match x with | out7 => (gameroomref_PutSign_J11 many3 dy1 n3) out7

noncomputable def gameroomref_PutSign_J10 (g1 : Int) (who1 : Int) (place1 : Int) (r1 : (Int × Int × List Int)) (dx1 : Int) (out3 : List Int) (many3 : Int) (dy1 : Int) (n3 : Int) : Option (St (List Int × Int × Int) (List Int × Int)) :=
  (loop (gameroomref_PutSign_L4 g1 who1 place1 r1 dx1 dy1 n3) (out3, 1)).bind (gameroomref_PutSign_K4 many3 dy1 n3)

noncomputable def gameroomref_PutSign_J8 (g1 : Int) (g2 : Int) (g3 : List Int) (who1 : Int) (place1 : Int) (r1 : (Int × Int × List Int)) (dx1 : Int) (out3 : List Int) (many3 : Int) (dy1 : Int) (n3 : Int) (x2 : Int) (y2 : Int) : Option (St (List Int × Int × Int) (List Int × Int)) :=
  (gameroomref_within_m x2 0 (w64 (g1 - 1))).bind fun r4 => ((if (!(!r4)) then gameroomref_within_m y2 0 (w64 (g2 - 1)) else some false)).bind fun r5 => asrt (((!r4) || (!r5)) = false → 0 ≤ (w64 ((w64 (y2 * g1)) + x2)) ∧ (w64 ((w64 (y2 * g1)) + x2)) < (g3.length : Int)) <| if (((!r4) || (!r5)) || ((geti g3 (w64 ((w64 (y2 * g1)) + x2))) != who1)) then ((gameroomref_PutSign_J6 dy1) out3 many3) else ((gameroomref_PutSign_J10 g1 who1 place1 r1 dx1 out3 many3 dy1 n3))

noncomputable def gameroomref_PutSign_K3 (g1 : Int) (g2 : Int) (g3 : List Int) (who1 : Int) (place1 : Int) (r1 : (Int × Int × List Int)) (dx1 : Int) (out3 : List Int) (many3 : Int) (dy1 : Int) : (Int × Int × Int) → Option (St (List Int × Int × Int) (List Int × Int)) :=
  fun (x : (Int × Int × Int)) => match x with | (n3, x2, y2) => (gameroomref_PutSign_J8 g1 g2 g3 who1 place1 r1 dx1 out3 many3 dy1) n3 x2 y2

noncomputable def gameroomref_PutSign_L3 (g1 : Int) (g2 : Int) (g3 : List Int) (who1 : Int) (dx1 : Int) (dy1 : Int) : (Int × Int × Int) → Option (St (Int × Int × Int) (Int × Int × Int)) :=
  fun (x : (Int × Int × Int)) => match x with | (n2, x1, y1) => (gameroomref_within_m x1 0 (w64 (g1 - 1))).bind fun r2 => ((if r2 then gameroomref_within_m y1 0 (w64 (g2 - 1)) else some false)).bind fun r3 => asrt ((r2 && r3) = true → 0 ≤ (w64 ((w64 (y1 * g1)) + x1)) ∧ (w64 ((w64 (y1 * g1)) + x1)) < (g3.length : Int)) <| if ((r2 && r3) && ((geti g3 (w64 ((w64 (y1 * g1)) + x1))) == (w64 (3 - who1)))) then ((gameroomref_PutSign_J9 dx1 dy1 n2 x1 y1)) else (some (.done (n2, x1, y1)))

noncomputable def gameroomref_PutSign_J7 (g1 : Int) (g2 : Int) (g3 : List Int) (who1 : Int) (place1 : Int) (r1 : (Int × Int × List Int)) (dx1 : Int) (out3 : List Int) (many3 : Int) (dy1 : Int) : Option (St (List Int × Int × Int) (List Int × Int)) :=
  asrt (g1 ≠ (0 : Int)) <| asrt (g1 ≠ (0 : Int)) <| (loop (gameroomref_PutSign_L3 g1 g2 g3 who1 dx1 dy1) (0, (w64 ((Int.tmod place1 g1) + dx1)), (w64 ((w64 (Int.tdiv place1 g1)) + dy1)))).bind (gameroomref_PutSign_K3 g1 g2 g3 who1 place1 r1 dx1 out3 many3 dy1)

noncomputable def gameroomref_PutSign_J5 (g1 : Int) (g2 : Int) (g3 : List Int) (who1 : Int) (place1 : Int) (r1 : (Int × Int × List Int)) (dx1 : Int) (out3 : List Int) (many3 : Int) (dy1 : Int) : Option (St (List Int × Int × Int) (List Int × Int)) :=
  if ((dx1 == 0) && (dy1 == 0)) then ((gameroomref_PutSign_J6 dy1) out3 many3) else ((gameroomref_PutSign_J7 g1 g2 g3 who1 place1 r1 dx1 out3 many3 dy1))

noncomputable def gameroomref_PutSign_J4 (dx1 : Int) (out4 : List Int) (many4 : Int) : Option (St (List Int × Int × Int) (List Int × Int)) :=
  some (.next (out4, many4, (w64 (dx1 + 1))))

noncomputable def gameroomref_PutSign_K2 (dx1 : Int) : (List Int × Int) → Option (St (List Int × Int × Int) (List Int × Int)) :=
  fun (x : (List Int × Int)) => match x with | (out4, many4) => (gameroomref_PutSign_J4 dx1) out4 many4

noncomputable def gameroomref_PutSign_L2 (g1 : Int) (g2 : Int) (g3 : List Int) (who1 : Int) (place1 : Int) (r1 : (Int × Int × List Int)) (dx1 : Int) : (List Int × Int × Int) → Option (St (List Int × Int × Int) (List Int × Int)) :=
  fun (x : (List Int × Int × Int)) => match x with | (out3, many3, dy1) => if (decide (dy1 ≤ 1)) then ((gameroomref_PutSign_J5 g1 g2 g3 who1 place1 r1 dx1 out3 many3 dy1)) else (some (.done (out3, many3)))

noncomputable def gameroomref_PutSign_J3 (g1 : Int) (g2 : Int) (g3 : List Int) (who1 : Int) (place1 : Int) (r1 : (Int × Int × List Int)) (out1 : List Int) (many1 : Int) (dx1 : Int) : Option (St (List Int × Int × Int) (List Int × Int)) :=
  (loop (gameroomref_PutSign_L2 g1 g2 g3 who1 place1 r1 dx1) (out1, many1, (-1))).bind (gameroomref_PutSign_K2 dx1)

noncomputable def gameroomref_PutSign_J14 (r1 : (Int × Int × List Int)) (many2 : Int) (out8 : List Int) : Option (Int × Int × List Int × Int) :=
  some (r1.1, r1.2.1, out8, many2)

noncomputable def gameroomref_PutSign_J2 (who1 : Int) (place1 : Int) (r1 : (Int × Int × List Int)) (out2 : List Int) (many2 : Int) : Option (Int × Int × List Int × Int) :=
  if (decide ((0 : Int) < many2)) then (asrt (0 ≤ place1 ∧ place1 < (r1.2.2.length : Int)) <| (gameroomref_PutSign_J14 r1 many2) (out2.set (Int.toNat place1) who1)) else ((gameroomref_PutSign_J14 r1 many2) out2)

noncomputable def gameroomref_PutSign_K1 (who1 : Int) (place1 : Int) (r1 : (Int × Int × List Int)) : (List Int × Int) → Option (Int × Int × List Int × Int) :=
  fun (x : (List Int × Int)) => match x with | (out2, many2) => (gameroomref_PutSign_J2 who1 place1 r1) out2 many2

noncomputable def gameroomref_PutSign_L1 (g1 : Int) (g2 : Int) (g3 : List Int) (who1 : Int) (place1 : Int) (r1 : (Int × Int × List Int)) : (List Int × Int × Int) → Option (St (List Int × Int × Int) (List Int × Int)) :=
  fun (x : (List Int × Int × Int)) => match x with | (out1, many1, dx1) => if (decide (dx1 ≤ 1)) then ((gameroomref_PutSign_J3 g1 g2 g3 who1 place1 r1 out1 many1 dx1)) else (some (.done (out1, many1)))

noncomputable def gameroomref_PutSign_J1 (g1 : Int) (g2 : Int) (g3 : List Int) (who1 : Int) (place1 : Int) (r1 : (Int × Int × List Int)) : Option (Int × Int × List Int × Int) :=
  (loop (gameroomref_PutSign_L1 g1 g2 g3 who1 place1 r1) (r1.2.2, 0, (-1))).bind (gameroomref_PutSign_K1 who1 place1 r1)

noncomputable def gameroomref_PutSign_m (g1 : Int) (g2 : Int) (g3 : List Int) (who1 : Int) (place1 : Int) : Option (Int × Int × List Int × Int) :=
  (gameroomref_GridOf_m g1 g2 g3).bind fun r1 => asrt (0 ≤ place1 ∧ place1 < (g3.length : Int)) <| if ((geti g3 place1) != 0) then (some (r1.1, r1.2.1, r1.2.2, 0)) else ((gameroomref_PutSign_J1 g1 g2 g3 who1 place1 r1))

set_option maxRecDepth 100000 in
set_option maxHeartbeats 4000000 in
theorem gameroomref_PutSign_w {g1 : Int} {g2 : Int} {A1 : Option Addr} {c1 : Nat} {n1 : Nat} {g3 : List Int} {who1 : Int} {place1 : Int} {r : (Int × Int × List Int × Int)} {w0 w : World} {B : Nat} {fs : List HP} (hm : gameroomref_PutSign_m g1 g2 g3 who1 place1 = some r) (hS : Sep w0 B w (fs)) (hr_g3 : RdF w0 B fs A1 (vI g3)) (_hc_g3 : g3.length ≤ c1) (_hn_g3 : n1 = g3.length) :
    Calls Try.prog 23 #[.agg #[.int .i64 g1, .int .i64 g2, .slice A1 n1 c1], .int .i64 who1, .int .i64 place1] w fun e w' => ∃ v, e = .returned v ∧ ∃ (A3 : Option Addr) (c3 : Nat), v = .tuple #[.agg #[.int .i64 r.1, .int .i64 r.2.1, .slice A3 r.2.2.1.length c3], .int .i64 r.2.2.2] ∧ Sep w0 B w' (own 3 (.slice A3 r.2.2.1.length c3) (vI r.2.2.1) :: fs) := by
  obtain ⟨i3, hi3, hz3, hs3, hb3⟩ := info_parts Info3
  obtain rfl := _hn_g3
  unfold gameroomref_PutSign_m at hm
  replace hm := start_b hm
  refine enter (l := [.agg #[.int .i64 g1, .int .i64 g2, .slice A1 g3.length c1], .int .i64 who1, .int .i64 place1]) (n := 155) Try.func23 rfl rfl (by simp) (fun a hF => ?_)
  refine seqR ?_
  refine at_do (d := 3) (s := vS (Instr.box 24 (.agg #[.int .i64 g1, .int .i64 g2, .slice A1 g3.length c1]))) (v := .pointer (some ⟨w.heap.size, 0, none⟩)) (w' := w.alloc (.cells #[.int .i64 g1, .int .i64 g2, .slice A1 g3.length c1] 24)) hF (by kernel_rfl) (by kernel_rfl) (by kernel_rfl) (fun a hF => ?_)
  have hS : Sep w0 B (w.alloc (.cells #[.int .i64 g1, .int .i64 g2, .slice A1 g3.length c1] 24)) (blk w.heap.size 24 #[.int .i64 g1, .int .i64 g2, .slice A1 g3.length c1] :: (fs)) := hS.box 24 #[.int .i64 g1, .int .i64 g2, .slice A1 g3.length c1]
  generalize w.heap.size = g4 at hF hS
  generalize w.alloc (.cells #[.int .i64 g1, .int .i64 g2, .slice A1 g3.length c1] 24) = w at hS ⊢
  refine at_do (d := 6) (s := vS (Instr.alloc 24 true (.tuple #[]))) (v := .pointer (some ⟨w.heap.size, 0, none⟩)) (w' := w.alloc (.cells #[.int .i64 0, .int .i64 0, .slice none 0 0] 24)) hF (by kernel_rfl) (by kernel_rfl) (by kernel_rfl) (fun a hF => ?_)
  have hS : Sep w0 B (w.alloc (.cells #[.int .i64 0, .int .i64 0, .slice none 0 0] 24)) (blk w.heap.size 24 #[.int .i64 0, .int .i64 0, .slice none 0 0] :: (blk g4 24 #[.int .i64 g1, .int .i64 g2, .slice A1 g3.length c1] :: fs)) := hS.box 24 #[.int .i64 0, .int .i64 0, .slice none 0 0]
  generalize w.heap.size = g5 at hF hS
  generalize w.alloc (.cells #[.int .i64 0, .int .i64 0, .slice none 0 0] 24) = w at hS ⊢
  refine at_run 1 [] [] [1, 2, 3, 6] [pl 1 (.int .i64 who1), pl 2 (.int .i64 place1), pl 3 (.pointer (some ⟨g4, 0, none⟩)), pl 6 (.pointer (some ⟨g5, 0, none⟩))] hF hS (by kernel_rfl) (by kernel_rfl) ?_ (fun a w hF hS => ?_)
  · exact obs_nil
  refine at_end [1, 2, 3, 6] [pl 1 (.int .i64 who1), pl 2 (.int .i64 place1), pl 3 (.pointer (some ⟨g4, 0, none⟩)), pl 6 (.pointer (some ⟨g5, 0, none⟩))] hF rfl (by kernel_rfl) (fun hF => ?_)
  refine then_n ?_
  refine seqR ?_
  obtain ⟨r1, hr1, hm⟩ := call_b hm
  refine at_run 1 [⟨false, [], vS (Instr.loadAt 24 (.pointer (some ⟨g4, 0, none⟩))), .agg #[.int .i64 g1, .int .i64 g2, .slice A1 g3.length c1]⟩] [some (.agg #[.int .i64 g1, .int .i64 g2, .slice A1 g3.length c1])] [1, 2, 3, 6, 16] [pl 1 (.int .i64 who1), pl 2 (.int .i64 place1), pl 3 (.pointer (some ⟨g4, 0, none⟩)), pl 6 (.pointer (some ⟨g5, 0, none⟩)), pl 16 (.agg #[.int .i64 g1, .int .i64 g2, .slice A1 g3.length c1])] hF hS (by kernel_rfl) (by kernel_rfl) ?_ (fun a w hF hS => ?_)
  · exact obs_cons (ob_loadA (cs := #[.int .i64 g1, .int .i64 g2, .slice A1 g3.length c1]) (by kernel_rfl) (by kernel_rfl) (fun _ _ hS => (hS.at_ 1 rfl).cellsAt 0 (by rfl))) <| obs_nil
  refine at_call (f := 13) (args := #[.agg #[.int .i64 g1, .int .i64 g2, .slice A1 g3.length c1]]) (d := 17) hF (by kernel_rfl) (by kernel_rfl) Try.func13 (by kernel_rfl) rfl (gameroomref_GridOf_w hr1 hS (fun _ hS => (hr_g3 _ (hS.dropN 2))) _hc_g3 rfl) (fun v a w hR hF => ?_)
  clear hS
  obtain ⟨A2, c2, rfl, hS⟩ := hR
  have hS : Sep w0 B w (own 3 (.slice A2 r1.2.2.length c2) (vI r1.2.2) :: blk g5 24 #[.int .i64 0, .int .i64 0, .slice none 0 0] :: blk g4 24 #[.int .i64 g1, .int .i64 g2, .slice A1 g3.length c1] :: fs) := hS
  refine at_do (d := 8) (s := vS (Instr.alloc 24 true (.tuple #[]))) (v := .pointer (some ⟨w.heap.size, 0, none⟩)) (w' := w.alloc (.cells #[.int .i64 0, .int .i64 0, .slice none 0 0] 24)) hF (by kernel_rfl) (by kernel_rfl) (by kernel_rfl) (fun a hF => ?_)
  have hS : Sep w0 B (w.alloc (.cells #[.int .i64 0, .int .i64 0, .slice none 0 0] 24)) (blk w.heap.size 24 #[.int .i64 0, .int .i64 0, .slice none 0 0] :: (own 3 (.slice A2 r1.2.2.length c2) (vI r1.2.2) :: blk g5 24 #[.int .i64 0, .int .i64 0, .slice none 0 0] :: blk g4 24 #[.int .i64 g1, .int .i64 g2, .slice A1 g3.length c1] :: fs)) := hS.box 24 #[.int .i64 0, .int .i64 0, .slice none 0 0]
  generalize w.heap.size = g6 at hF hS
  generalize w.alloc (.cells #[.int .i64 0, .int .i64 0, .slice none 0 0] 24) = w at hS ⊢
  obtain ⟨w, hrun, hS⟩ := run_putA (P := Try.prog) (t := 24) (us := #[.int .i64 r1.1, .int .i64 r1.2.1, .slice A2 r1.2.2.length c2]) (o := 0) (hS.at_ 0 rfl) (by kernel_rfl) (all_one (by kernel_rfl)) (Nat.le_of_ble_eq_true (by kernel_rfl))
  refine at_skip hF (by kernel_rfl) hrun ?_
  have hS : Sep w0 B w (blk g6 24 #[.int .i64 r1.1, .int .i64 r1.2.1, .slice A2 r1.2.2.length c2] :: own 3 (.slice A2 r1.2.2.length c2) (vI r1.2.2) :: blk g5 24 #[.int .i64 0, .int .i64 0, .slice none 0 0] :: blk g4 24 #[.int .i64 g1, .int .i64 g2, .slice A1 g3.length c1] :: fs) := hS
  refine at_end [1, 2, 3, 6, 8] [pl 1 (.int .i64 who1), pl 2 (.int .i64 place1), pl 3 (.pointer (some ⟨g4, 0, none⟩)), pl 6 (.pointer (some ⟨g5, 0, none⟩)), pl 8 (.pointer (some ⟨g6, 0, none⟩))] hF rfl (by kernel_rfl) (fun hF => ?_)
  refine then_n ?_
  refine seq_cut (fun a w => Fr 155 [pl 1 (.int .i64 who1), pl 2 (.int .i64 place1), pl 3 (.pointer (some ⟨g4, 0, none⟩)), pl 6 (.pointer (some ⟨g5, 0, none⟩)), pl 8 (.pointer (some ⟨g6, 0, none⟩))] a ∧ Sep w0 B w (blk g4 24 #[.int .i64 g1, .int .i64 g2, .slice A1 g3.length c1] :: blk g5 24 #[.int .i64 0, .int .i64 0, .slice none 0 0] :: blk g6 24 #[.int .i64 r1.1, .int .i64 r1.2.1, .slice A2 r1.2.2.length c2] :: own 3 (.slice A2 r1.2.2.length c2) (vI r1.2.2) :: fs) ∧ ((gameroomref_PutSign_J1 g1 g2 g3 who1 place1 r1)).bind some = some r) ?_ ?_
  · rintro a w ⟨hF, hS, hm⟩
    unfold gameroomref_PutSign_J1 at hm
    refine reg [] [] [1, 2, 3, 6, 8, 9] [pl 1 (.int .i64 who1), pl 2 (.int .i64 place1), pl 3 (.pointer (some ⟨g4, 0, none⟩)), pl 6 (.pointer (some ⟨g5, 0, none⟩)), pl 8 (.pointer (some ⟨g6, 0, none⟩)), pl 9 (.int .i64 0)] hF hS Fol (by kernel_rfl) (by kernel_rfl) (by kernel_rfl) ?_ (fun a w hF hS => ?_)
    · exact obs_nil
    refine seq_cut (fun a w => ∃ (out2 : List Int) (many2 : Int), Fr 155 [pl 1 (.int .i64 who1), pl 2 (.int .i64 place1), pl 6 (.pointer (some ⟨g5, 0, none⟩)), pl 8 (.pointer (some ⟨g6, 0, none⟩)), pl 9 (.int .i64 many2)] a ∧ Sep w0 B w (blk g5 24 #[.int .i64 0, .int .i64 0, .slice none 0 0] :: blk g6 24 #[.int .i64 r1.1, .int .i64 r1.2.1, .slice A2 r1.2.2.length c2] :: own 3 (.slice A2 r1.2.2.length c2) (vI out2) :: fs) ∧ ((gameroomref_PutSign_J2 who1 place1 r1) out2 many2).bind some = some r) ?_ ?_
    · rintro a w ⟨out2, many2, hF, hS, hm⟩
      unfold gameroomref_PutSign_J2 at hm
      refine seq_cut (fun a w => ∃ (out8 : List Int), Fr 155 [pl 6 (.pointer (some ⟨g5, 0, none⟩)), pl 8 (.pointer (some ⟨g6, 0, none⟩)), pl 9 (.int .i64 many2)] a ∧ Sep w0 B w (blk g5 24 #[.int .i64 0, .int .i64 0, .slice none 0 0] :: blk g6 24 #[.int .i64 r1.1, .int .i64 r1.2.1, .slice A2 r1.2.2.length c2] :: own 3 (.slice A2 r1.2.2.length c2) (vI out8) :: fs) ∧ ((gameroomref_PutSign_J14 r1 many2) out8).bind some = some r) ?_ ?_
      · rintro a w ⟨out8, hF, hS, hm⟩
        unfold gameroomref_PutSign_J14 at hm
        refine seqR ?_
        refine at_run 2 [⟨false, [], vS (Instr.loadAt 24 (.pointer (some ⟨g6, 0, none⟩))), .agg #[.int .i64 r1.1, .int .i64 r1.2.1, .slice A2 r1.2.2.length c2]⟩] [some (.agg #[.int .i64 r1.1, .int .i64 r1.2.1, .slice A2 r1.2.2.length c2]), none] [6, 153, 154] [pl 6 (.pointer (some ⟨g5, 0, none⟩)), pl 153 (.agg #[.int .i64 r1.1, .int .i64 r1.2.1, .slice A2 r1.2.2.length c2]), pl 154 (.int .i64 many2)] hF hS (by kernel_rfl) (by kernel_rfl) ?_ (fun a w hF hS => ?_)
        · exact obs_cons (ob_loadA (cs := #[.int .i64 r1.1, .int .i64 r1.2.1, .slice A2 r1.2.2.length c2]) (by kernel_rfl) (by kernel_rfl) (fun _ _ hS => (hS.at_ 1 rfl).cellsAt 0 (by rfl))) <| obs_nil
        obtain ⟨w, hrun, hS⟩ := run_putA (P := Try.prog) (t := 24) (us := #[.int .i64 r1.1, .int .i64 r1.2.1, .slice A2 r1.2.2.length c2]) (o := 0) (hS.at_ 0 rfl) (by kernel_rfl) (all_one (by kernel_rfl)) (Nat.le_of_ble_eq_true (by kernel_rfl))
        refine at_skip hF (by kernel_rfl) hrun ?_
        have hS : Sep w0 B w (blk g5 24 #[.int .i64 r1.1, .int .i64 r1.2.1, .slice A2 r1.2.2.length c2] :: blk g6 24 #[.int .i64 r1.1, .int .i64 r1.2.1, .slice A2 r1.2.2.length c2] :: own 3 (.slice A2 r1.2.2.length c2) (vI out8) :: fs) := hS
        refine at_run 1 [] [] [6, 7] [pl 6 (.pointer (some ⟨g5, 0, none⟩)), pl 7 (.int .i64 many2)] hF hS (by kernel_rfl) (by kernel_rfl) ?_ (fun a w hF hS => ?_)
        · exact obs_nil
        refine at_end [6, 7] [pl 6 (.pointer (some ⟨g5, 0, none⟩)), pl 7 (.int .i64 many2)] hF rfl (by kernel_rfl) (fun hF => ?_)
        refine then_n ?_
        refine wp_ret ?_
        have hl1 := (hS.at_ 2 rfl).len1
        have hS := (hS.at_ 2 rfl).reN hl1
        have hS := (hS.at_ 0 rfl).reBlk (congrArg (fun k9 => (#[.int .i64 r1.1, .int .i64 r1.2.1, .slice A2 k9 c2] : Array Value)) hl1)
        have hS := (hS.at_ 1 rfl).reBlk (congrArg (fun k9 => (#[.int .i64 r1.1, .int .i64 r1.2.1, .slice A2 k9 c2] : Array Value)) hl1)
        have hS : Sep w0 B w (blk g5 24 #[.int .i64 r1.1, .int .i64 r1.2.1, .slice A2 out8.length c2] :: blk g6 24 #[.int .i64 r1.1, .int .i64 r1.2.1, .slice A2 out8.length c2] :: own 3 (.slice A2 out8.length c2) (vI out8) :: fs) := hS
        have hld0 := run_loadVarA (P := Try.prog) (t := 24) (cs := #[.int .i64 r1.1, .int .i64 r1.2.1, .slice A2 out8.length c2]) (by kernel_rfl) (by kernel_rfl) ((hS.at_ 0 rfl).cellsAt 0 (by rfl))
        have hS := hS.pickN 3 [2] (by decide)
        have hm : some (r1.1, r1.2.1, out8, many2) = some r := hm
        obtain rfl := Option.some.inj hm
        exact retV (rs := [.cell 6 24, .tmp 7]) (vs := [.agg #[.int .i64 r1.1, .int .i64 r1.2.1, .slice A2 out8.length c2], .int .i64 many2]) hF rfl (rv_c (by kernel_rfl) hld0 <| rv_t (by kernel_rfl) <| rv_nil) rfl ⟨_, rfl, A2, c2, rfl, hS⟩
      · refine reg [] [] [1, 2, 6, 8, 9, 147] [pl 1 (.int .i64 who1), pl 2 (.int .i64 place1), pl 6 (.pointer (some ⟨g5, 0, none⟩)), pl 8 (.pointer (some ⟨g6, 0, none⟩)), pl 9 (.int .i64 many2), pl 147 (.bool (decide ((0 : Int) < many2)))] hF hS Fol (by kernel_rfl) (by kernel_rfl) (by kernel_rfl) ?_ (fun a w hF hS => ?_)
        · exact obs_nil
        refine cond_ev (t := 147) (b := decide ((0 : Int) < many2)) hF (by kernel_rfl) (fun hb => ?_) (fun hb => ?_)
        · replace hm := if_t hm hb
          refine oneR ?_
          obtain ⟨hp9, hm⟩ := asrt_b hm
          refine at_run 5 [⟨false, [], vS (Instr.loadAt 22 (.pointer (some ⟨g6, 2, none⟩))), .slice A2 r1.2.2.length c2⟩, ⟨true, [], vS (Instr.indexAt 22 (.slice A2 r1.2.2.length c2) (.int .i64 place1)), .pointer (some (sAddr A2 place1))⟩] [none, some (.slice A2 r1.2.2.length c2), none, none, some (.pointer (some (sAddr A2 place1)))] [6, 8, 9, 151, 152] [pl 6 (.pointer (some ⟨g5, 0, none⟩)), pl 8 (.pointer (some ⟨g6, 0, none⟩)), pl 9 (.int .i64 many2), pl 151 (.int .i64 who1), pl 152 (.pointer (some (sAddr A2 place1)))] hF hS (by kernel_rfl) (by kernel_rfl) ?_ (fun a w hF hS => ?_)
          · exact obs_cons (ob_load Agg22 (fun _ _ hS => (hS.at_ 1 rfl).cell rfl)) <| obs_cons (ob_ix1 (f := (Value.int .i64)) (m := out2) Und22 hi3 hs3 (hS.at_ 2 rfl).rd ((hS.at_ 2 rfl).len1) (fun _ => hp9)) <| obs_nil
          obtain ⟨w, hrun, hS⟩ := run_set1 (P := Try.prog) (t := 3) (x := who1) (Value.int .i64) (hS.at_ 2 rfl) hi3 hs3 rfl rfl hp9
          refine at_skip hF (by kernel_rfl) hrun ?_
          have hS : Sep w0 B w (blk g5 24 #[.int .i64 0, .int .i64 0, .slice none 0 0] :: blk g6 24 #[.int .i64 r1.1, .int .i64 r1.2.1, .slice A2 r1.2.2.length c2] :: own 3 (.slice A2 r1.2.2.length c2) (vI (out2.set (Int.toNat place1) who1)) :: fs) := hS
          refine at_end [6, 8, 9] [pl 6 (.pointer (some ⟨g5, 0, none⟩)), pl 8 (.pointer (some ⟨g6, 0, none⟩)), pl 9 (.int .i64 many2)] hF rfl (by kernel_rfl) (fun hF => ?_)
          refine then_n ?_
          exact ⟨(out2.set (Int.toNat place1) who1), hF.weak [6, 8, 9] (by kernel_rfl), hS, hm⟩
        · replace hm := if_f hm hb
          refine wp_skip ?_
          refine then_n ?_
          exact ⟨out2, hF.weak [6, 8, 9] (by kernel_rfl), hS, hm⟩
    · refine reg [] [] [1, 2, 3, 6, 8, 9, 10] [pl 1 (.int .i64 who1), pl 2 (.int .i64 place1), pl 3 (.pointer (some ⟨g4, 0, none⟩)), pl 6 (.pointer (some ⟨g5, 0, none⟩)), pl 8 (.pointer (some ⟨g6, 0, none⟩)), pl 9 (.int .i64 0), pl 10 (.int .i64 (-1))] hF hS Fol (by kernel_rfl) (by kernel_rfl) (by kernel_rfl) ?_ (fun a w hF hS => ?_)
      · exact obs_nil
      refine wp_block ?_
      refine wp_loop_model (S := (List Int × Int × Int)) (R := (List Int × Int)) (gameroomref_PutSign_L1 g1 g2 g3 who1 place1 r1) (fun x => ((gameroomref_PutSign_K1 who1 place1 r1) x).bind some) r (fun (x : (List Int × Int × Int)) a w => Fr 155 [pl 1 (.int .i64 who1), pl 2 (.int .i64 place1), pl 3 (.pointer (some ⟨g4, 0, none⟩)), pl 6 (.pointer (some ⟨g5, 0, none⟩)), pl 8 (.pointer (some ⟨g6, 0, none⟩)), pl 9 (.int .i64 x.2.1), pl 10 (.int .i64 x.2.2)] a ∧ Sep w0 B w (blk g4 24 #[.int .i64 g1, .int .i64 g2, .slice A1 g3.length c1] :: blk g5 24 #[.int .i64 0, .int .i64 0, .slice none 0 0] :: blk g6 24 #[.int .i64 r1.1, .int .i64 r1.2.1, .slice A2 r1.2.2.length c2] :: own 3 (.slice A2 r1.2.2.length c2) (vI x.1) :: fs)) (assoc_b hm) ⟨hF.weak [1, 2, 3, 6, 8, 9, 10] (by kernel_rfl), hS⟩ ?_
      clear hF hS hm
      rintro nn1 ⟨out1, many1, dx1⟩ a w ⟨hF, hS⟩ hm
      generalize hφ1 : stK (gameroomref_PutSign_L1 g1 g2 g3 who1 place1 r1) nn1 (fun x => ((gameroomref_PutSign_K1 who1 place1 r1) x).bind some) = φ1 at hm
      unfold gameroomref_PutSign_L1 at hm
      dsimp only at hF hS hm
      refine seq_cut (fun a w => Fr 155 [pl 1 (.int .i64 who1), pl 2 (.int .i64 place1), pl 3 (.pointer (some ⟨g4, 0, none⟩)), pl 6 (.pointer (some ⟨g5, 0, none⟩)), pl 8 (.pointer (some ⟨g6, 0, none⟩)), pl 9 (.int .i64 many1), pl 10 (.int .i64 dx1)] a ∧ Sep w0 B w (blk g4 24 #[.int .i64 g1, .int .i64 g2, .slice A1 g3.length c1] :: blk g5 24 #[.int .i64 0, .int .i64 0, .slice none 0 0] :: blk g6 24 #[.int .i64 r1.1, .int .i64 r1.2.1, .slice A2 r1.2.2.length c2] :: own 3 (.slice A2 r1.2.2.length c2) (vI out1) :: fs) ∧ ((gameroomref_PutSign_J3 g1 g2 g3 who1 place1 r1 out1 many1 dx1)).bind φ1 = some r) ?_ ?_
      · rintro a w ⟨hF, hS, hm⟩
        unfold gameroomref_PutSign_J3 at hm
        refine seq_cut (fun a w => ∃ (out4 : List Int) (many4 : Int), Fr 155 [pl 1 (.int .i64 who1), pl 2 (.int .i64 place1), pl 3 (.pointer (some ⟨g4, 0, none⟩)), pl 6 (.pointer (some ⟨g5, 0, none⟩)), pl 8 (.pointer (some ⟨g6, 0, none⟩)), pl 9 (.int .i64 many4), pl 10 (.int .i64 dx1)] a ∧ Sep w0 B w (blk g4 24 #[.int .i64 g1, .int .i64 g2, .slice A1 g3.length c1] :: blk g5 24 #[.int .i64 0, .int .i64 0, .slice none 0 0] :: blk g6 24 #[.int .i64 r1.1, .int .i64 r1.2.1, .slice A2 r1.2.2.length c2] :: own 3 (.slice A2 r1.2.2.length c2) (vI out4) :: fs) ∧ ((gameroomref_PutSign_J4 dx1) out4 many4).bind φ1 = some r) ?_ ?_
        · rintro a w ⟨out4, many4, hF, hS, hm⟩
          unfold gameroomref_PutSign_J4 at hm
          refine reg1 [] [] [1, 2, 3, 6, 8, 9, 10] [pl 1 (.int .i64 who1), pl 2 (.int .i64 place1), pl 3 (.pointer (some ⟨g4, 0, none⟩)), pl 6 (.pointer (some ⟨g5, 0, none⟩)), pl 8 (.pointer (some ⟨g6, 0, none⟩)), pl 9 (.int .i64 many4), pl 10 (.int .i64 (w64 (dx1 + 1)))] hF hS Fol (by kernel_rfl) (by kernel_rfl) (by kernel_rfl) ?_ (fun a w hF hS => ?_)
          · exact obs_nil
          refine then_n ?_
          rw [← hφ1] at hm
          exact ⟨(out4, many4, (w64 (dx1 + 1))), ⟨hF.weak [1, 2, 3, 6, 8, 9, 10] (by kernel_rfl), hS⟩, hm⟩
        · refine wp_block ?_
          refine reg [] [] [1, 2, 3, 6, 8, 9, 10, 11] [pl 1 (.int .i64 who1), pl 2 (.int .i64 place1), pl 3 (.pointer (some ⟨g4, 0, none⟩)), pl 6 (.pointer (some ⟨g5, 0, none⟩)), pl 8 (.pointer (some ⟨g6, 0, none⟩)), pl 9 (.int .i64 many1), pl 10 (.int .i64 dx1), pl 11 (.int .i64 (-1))] hF hS Fol (by kernel_rfl) (by kernel_rfl) (by kernel_rfl) ?_ (fun a w hF hS => ?_)
          · exact obs_nil
          refine wp_block ?_
          refine wp_loop_model (S := (List Int × Int × Int)) (R := (List Int × Int)) (gameroomref_PutSign_L2 g1 g2 g3 who1 place1 r1 dx1) (fun x => ((gameroomref_PutSign_K2 dx1) x).bind φ1) r (fun (x : (List Int × Int × Int)) a w => Fr 155 [pl 1 (.int .i64 who1), pl 2 (.int .i64 place1), pl 3 (.pointer (some ⟨g4, 0, none⟩)), pl 6 (.pointer (some ⟨g5, 0, none⟩)), pl 8 (.pointer (some ⟨g6, 0, none⟩)), pl 9 (.int .i64 x.2.1), pl 10 (.int .i64 dx1), pl 11 (.int .i64 x.2.2)] a ∧ Sep w0 B w (blk g4 24 #[.int .i64 g1, .int .i64 g2, .slice A1 g3.length c1] :: blk g5 24 #[.int .i64 0, .int .i64 0, .slice none 0 0] :: blk g6 24 #[.int .i64 r1.1, .int .i64 r1.2.1, .slice A2 r1.2.2.length c2] :: own 3 (.slice A2 r1.2.2.length c2) (vI x.1) :: fs)) (assoc_b hm) ⟨hF.weak [1, 2, 3, 6, 8, 9, 10, 11] (by kernel_rfl), hS⟩ ?_
          clear hF hS hm
          rintro nn2 ⟨out3, many3, dy1⟩ a w ⟨hF, hS⟩ hm
          generalize hφ2 : stK (gameroomref_PutSign_L2 g1 g2 g3 who1 place1 r1 dx1) nn2 (fun x => ((gameroomref_PutSign_K2 dx1) x).bind φ1) = φ2 at hm
          unfold gameroomref_PutSign_L2 at hm
          dsimp only at hF hS hm
          refine seq_cut (fun a w => Fr 155 [pl 1 (.int .i64 who1), pl 2 (.int .i64 place1), pl 3 (.pointer (some ⟨g4, 0, none⟩)), pl 6 (.pointer (some ⟨g5, 0, none⟩)), pl 8 (.pointer (some ⟨g6, 0, none⟩)), pl 9 (.int .i64 many3), pl 10 (.int .i64 dx1), pl 11 (.int .i64 dy1)] a ∧ Sep w0 B w (blk g4 24 #[.int .i64 g1, .int .i64 g2, .slice A1 g3.length c1] :: blk g5 24 #[.int .i64 0, .int .i64 0, .slice none 0 0] :: blk g6 24 #[.int .i64 r1.1, .int .i64 r1.2.1, .slice A2 r1.2.2.length c2] :: own 3 (.slice A2 r1.2.2.length c2) (vI out3) :: fs) ∧ ((gameroomref_PutSign_J5 g1 g2 g3 who1 place1 r1 dx1 out3 many3 dy1)).bind φ2 = some r) ?_ ?_
          · rintro a w ⟨hF, hS, hm⟩
            unfold gameroomref_PutSign_J5 at hm
            refine seq_cut (fun a w => ∃ (out5 : List Int) (many5 : Int), Fr 155 [pl 1 (.int .i64 who1), pl 2 (.int .i64 place1), pl 3 (.pointer (some ⟨g4, 0, none⟩)), pl 6 (.pointer (some ⟨g5, 0, none⟩)), pl 8 (.pointer (some ⟨g6, 0, none⟩)), pl 9 (.int .i64 many5), pl 10 (.int .i64 dx1), pl 11 (.int .i64 dy1)] a ∧ Sep w0 B w (blk g4 24 #[.int .i64 g1, .int .i64 g2, .slice A1 g3.length c1] :: blk g5 24 #[.int .i64 0, .int .i64 0, .slice none 0 0] :: blk g6 24 #[.int .i64 r1.1, .int .i64 r1.2.1, .slice A2 r1.2.2.length c2] :: own 3 (.slice A2 r1.2.2.length c2) (vI out5) :: fs) ∧ ((gameroomref_PutSign_J6 dy1) out5 many5).bind φ2 = some r) ?_ ?_
            · rintro a w ⟨out5, many5, hF, hS, hm⟩
              unfold gameroomref_PutSign_J6 at hm
              refine reg1 [] [] [1, 2, 3, 6, 8, 9, 10, 11] [pl 1 (.int .i64 who1), pl 2 (.int .i64 place1), pl 3 (.pointer (some ⟨g4, 0, none⟩)), pl 6 (.pointer (some ⟨g5, 0, none⟩)), pl 8 (.pointer (some ⟨g6, 0, none⟩)), pl 9 (.int .i64 many5), pl 10 (.int .i64 dx1), pl 11 (.int .i64 (w64 (dy1 + 1)))] hF hS Fol (by kernel_rfl) (by kernel_rfl) (by kernel_rfl) ?_ (fun a w hF hS => ?_)
              · exact obs_nil
              refine then_n ?_
              rw [← hφ2] at hm
              exact ⟨(out5, many5, (w64 (dy1 + 1))), ⟨hF.weak [1, 2, 3, 6, 8, 9, 10, 11] (by kernel_rfl), hS⟩, hm⟩
            · refine wp_block ?_
              refine seq_cut (fun a w => Fr 155 [pl 1 (.int .i64 who1), pl 2 (.int .i64 place1), pl 3 (.pointer (some ⟨g4, 0, none⟩)), pl 6 (.pointer (some ⟨g5, 0, none⟩)), pl 8 (.pointer (some ⟨g6, 0, none⟩)), pl 9 (.int .i64 many3), pl 10 (.int .i64 dx1), pl 11 (.int .i64 dy1)] a ∧ Sep w0 B w (blk g4 24 #[.int .i64 g1, .int .i64 g2, .slice A1 g3.length c1] :: blk g5 24 #[.int .i64 0, .int .i64 0, .slice none 0 0] :: blk g6 24 #[.int .i64 r1.1, .int .i64 r1.2.1, .slice A2 r1.2.2.length c2] :: own 3 (.slice A2 r1.2.2.length c2) (vI out3) :: fs) ∧ ((gameroomref_PutSign_J7 g1 g2 g3 who1 place1 r1 dx1 out3 many3 dy1)).bind φ2 = some r) ?_ ?_
              · rintro a w ⟨hF, hS, hm⟩
                unfold gameroomref_PutSign_J7 at hm
                refine reg [] [] [1, 2, 3, 6, 8, 9, 10, 11, 12] [pl 1 (.int .i64 who1), pl 2 (.int .i64 place1), pl 3 (.pointer (some ⟨g4, 0, none⟩)), pl 6 (.pointer (some ⟨g5, 0, none⟩)), pl 8 (.pointer (some ⟨g6, 0, none⟩)), pl 9 (.int .i64 many3), pl 10 (.int .i64 dx1), pl 11 (.int .i64 dy1), pl 12 (.int .i64 0)] hF hS Fol (by kernel_rfl) (by kernel_rfl) (by kernel_rfl) ?_ (fun a w hF hS => ?_)
                · exact obs_nil
                obtain ⟨hp2, hm⟩ := asrt_b hm
                obtain ⟨hp3, hm⟩ := asrt_b hm
                refine reg [⟨false, [], vS (Instr.loadAt 3 (.pointer (some ⟨g4, 0, none⟩))), .int .i64 g1⟩, ⟨true, [], vS (Op.intDiv .rem .i64 place1 g1), .int .i64 (Int.tmod place1 g1)⟩, ⟨false, [], vS (Instr.loadAt 3 (.pointer (some ⟨g4, 0, none⟩))), .int .i64 g1⟩, ⟨true, [], vS (Op.intDiv .quo .i64 place1 g1), .int .i64 (w64 (Int.tdiv place1 g1))⟩] [none, none, some (.int .i64 g1), some (.int .i64 (Int.tmod place1 g1)), none, none, none, none, some (.int .i64 g1), some (.int .i64 (w64 (Int.tdiv place1 g1))), none, none, none, none] [1, 2, 3, 6, 8, 9, 10, 11, 12, 13, 14] [pl 1 (.int .i64 who1), pl 2 (.int .i64 place1), pl 3 (.pointer (some ⟨g4, 0, none⟩)), pl 6 (.pointer (some ⟨g5, 0, none⟩)), pl 8 (.pointer (some ⟨g6, 0, none⟩)), pl 9 (.int .i64 many3), pl 10 (.int .i64 dx1), pl 11 (.int .i64 dy1), pl 12 (.int .i64 0), pl 13 (.int .i64 (w64 ((Int.tmod place1 g1) + dx1))), pl 14 (.int .i64 (w64 ((w64 (Int.tdiv place1 g1)) + dy1)))] hF hS Fol (by kernel_rfl) (by kernel_rfl) (by kernel_rfl) ?_ (fun a w hF hS => ?_)
                · exact obs_cons (ob_load Agg3 (fun _ _ hS => (hS.at_ 0 rfl).cell rfl)) <| obs_cons (ob_rem rfl (fun _ => hp2)) <| obs_cons (ob_load Agg3 (fun _ _ hS => (hS.at_ 0 rfl).cell rfl)) <| obs_cons (ob_quo rfl (fun _ => hp3)) <| obs_nil
                refine seq_cut (fun a w => ∃ (n3 : Int) (x2 : Int) (y2 : Int), Fr 155 [pl 1 (.int .i64 who1), pl 2 (.int .i64 place1), pl 3 (.pointer (some ⟨g4, 0, none⟩)), pl 6 (.pointer (some ⟨g5, 0, none⟩)), pl 8 (.pointer (some ⟨g6, 0, none⟩)), pl 9 (.int .i64 many3), pl 10 (.int .i64 dx1), pl 11 (.int .i64 dy1), pl 12 (.int .i64 n3), pl 13 (.int .i64 x2), pl 14 (.int .i64 y2)] a ∧ Sep w0 B w (blk g4 24 #[.int .i64 g1, .int .i64 g2, .slice A1 g3.length c1] :: blk g5 24 #[.int .i64 0, .int .i64 0, .slice none 0 0] :: blk g6 24 #[.int .i64 r1.1, .int .i64 r1.2.1, .slice A2 r1.2.2.length c2] :: own 3 (.slice A2 r1.2.2.length c2) (vI out3) :: fs) ∧ ((gameroomref_PutSign_J8 g1 g2 g3 who1 place1 r1 dx1 out3 many3 dy1) n3 x2 y2).bind φ2 = some r) ?_ ?_
                · rintro a w ⟨n3, x2, y2, hF, hS, hm⟩
                  unfold gameroomref_PutSign_J8 at hm
                  refine seq_cut (fun a w => Fr 155 [pl 1 (.int .i64 who1), pl 2 (.int .i64 place1), pl 3 (.pointer (some ⟨g4, 0, none⟩)), pl 6 (.pointer (some ⟨g5, 0, none⟩)), pl 8 (.pointer (some ⟨g6, 0, none⟩)), pl 9 (.int .i64 many3), pl 10 (.int .i64 dx1), pl 11 (.int .i64 dy1), pl 12 (.int .i64 n3)] a ∧ Sep w0 B w (blk g4 24 #[.int .i64 g1, .int .i64 g2, .slice A1 g3.length c1] :: blk g5 24 #[.int .i64 0, .int .i64 0, .slice none 0 0] :: blk g6 24 #[.int .i64 r1.1, .int .i64 r1.2.1, .slice A2 r1.2.2.length c2] :: own 3 (.slice A2 r1.2.2.length c2) (vI out3) :: fs) ∧ ((gameroomref_PutSign_J10 g1 who1 place1 r1 dx1 out3 many3 dy1 n3)).bind φ2 = some r) ?_ ?_
                  · rintro a w ⟨hF, hS, hm⟩
                    unfold gameroomref_PutSign_J10 at hm
                    refine seq_cut (fun a w => ∃ (out7 : List Int), Fr 155 [pl 1 (.int .i64 who1), pl 2 (.int .i64 place1), pl 3 (.pointer (some ⟨g4, 0, none⟩)), pl 6 (.pointer (some ⟨g5, 0, none⟩)), pl 8 (.pointer (some ⟨g6, 0, none⟩)), pl 9 (.int .i64 many3), pl 10 (.int .i64 dx1), pl 11 (.int .i64 dy1), pl 12 (.int .i64 n3)] a ∧ Sep w0 B w (blk g4 24 #[.int .i64 g1, .int .i64 g2, .slice A1 g3.length c1] :: blk g5 24 #[.int .i64 0, .int .i64 0, .slice none 0 0] :: blk g6 24 #[.int .i64 r1.1, .int .i64 r1.2.1, .slice A2 r1.2.2.length c2] :: own 3 (.slice A2 r1.2.2.length c2) (vI out7) :: fs) ∧ ((gameroomref_PutSign_J11 many3 dy1 n3) out7).bind φ2 = some r) ?_ ?_
                    · rintro a w ⟨out7, hF, hS, hm⟩
                      unfold gameroomref_PutSign_J11 at hm
                      refine reg1 [] [] [1, 2, 3, 6, 8, 9, 10, 11] [pl 1 (.int .i64 who1), pl 2 (.int .i64 place1), pl 3 (.pointer (some ⟨g4, 0, none⟩)), pl 6 (.pointer (some ⟨g5, 0, none⟩)), pl 8 (.pointer (some ⟨g6, 0, none⟩)), pl 9 (.int .i64 (w64 (many3 + n3))), pl 10 (.int .i64 dx1), pl 11 (.int .i64 dy1)] hF hS Fol (by kernel_rfl) (by kernel_rfl) (by kernel_rfl) ?_ (fun a w hF hS => ?_)
                      · exact obs_nil
                      refine block_n ?_
                      refine then_n ?_
                      exact ⟨out7, (w64 (many3 + n3)), hF.weak [1, 2, 3, 6, 8, 9, 10, 11] (by kernel_rfl), hS, hm⟩
                    · refine reg [] [] [1, 2, 3, 6, 8, 9, 10, 11, 12, 15] [pl 1 (.int .i64 who1), pl 2 (.int .i64 place1), pl 3 (.pointer (some ⟨g4, 0, none⟩)), pl 6 (.pointer (some ⟨g5, 0, none⟩)), pl 8 (.pointer (some ⟨g6, 0, none⟩)), pl 9 (.int .i64 many3), pl 10 (.int .i64 dx1), pl 11 (.int .i64 dy1), pl 12 (.int .i64 n3), pl 15 (.int .i64 1)] hF hS Fol (by kernel_rfl) (by kernel_rfl) (by kernel_rfl) ?_ (fun a w hF hS => ?_)
                      · exact obs_nil
                      refine wp_block ?_
                      refine wp_loop_model (S := (List Int × Int)) (R := (List Int)) (gameroomref_PutSign_L4 g1 who1 place1 r1 dx1 dy1 n3) (fun x => ((gameroomref_PutSign_K4 many3 dy1 n3) x).bind φ2) r (fun (x : (List Int × Int)) a w => Fr 155 [pl 1 (.int .i64 who1), pl 2 (.int .i64 place1), pl 3 (.pointer (some ⟨g4, 0, none⟩)), pl 6 (.pointer (some ⟨g5, 0, none⟩)), pl 8 (.pointer (some ⟨g6, 0, none⟩)), pl 9 (.int .i64 many3), pl 10 (.int .i64 dx1), pl 11 (.int .i64 dy1), pl 12 (.int .i64 n3), pl 15 (.int .i64 x.2)] a ∧ Sep w0 B w (blk g4 24 #[.int .i64 g1, .int .i64 g2, .slice A1 g3.length c1] :: blk g5 24 #[.int .i64 0, .int .i64 0, .slice none 0 0] :: blk g6 24 #[.int .i64 r1.1, .int .i64 r1.2.1, .slice A2 r1.2.2.length c2] :: own 3 (.slice A2 r1.2.2.length c2) (vI x.1) :: fs)) (assoc_b hm) ⟨hF.weak [1, 2, 3, 6, 8, 9, 10, 11, 12, 15] (by kernel_rfl), hS⟩ ?_
                      clear hF hS hm
                      rintro nn4 ⟨out6, i1⟩ a w ⟨hF, hS⟩ hm
                      generalize hφ4 : stK (gameroomref_PutSign_L4 g1 who1 place1 r1 dx1 dy1 n3) nn4 (fun x => ((gameroomref_PutSign_K4 many3 dy1 n3) x).bind φ2) = φ4 at hm
                      unfold gameroomref_PutSign_L4 at hm
                      dsimp only at hF hS hm
                      refine seq_cut (fun a w => Fr 155 [pl 1 (.int .i64 who1), pl 2 (.int .i64 place1), pl 3 (.pointer (some ⟨g4, 0, none⟩)), pl 6 (.pointer (some ⟨g5, 0, none⟩)), pl 8 (.pointer (some ⟨g6, 0, none⟩)), pl 9 (.int .i64 many3), pl 10 (.int .i64 dx1), pl 11 (.int .i64 dy1), pl 12 (.int .i64 n3), pl 15 (.int .i64 i1)] a ∧ Sep w0 B w (blk g4 24 #[.int .i64 g1, .int .i64 g2, .slice A1 g3.length c1] :: blk g5 24 #[.int .i64 0, .int .i64 0, .slice none 0 0] :: blk g6 24 #[.int .i64 r1.1, .int .i64 r1.2.1, .slice A2 r1.2.2.length c2] :: own 3 (.slice A2 r1.2.2.length c2) (vI out6) :: fs) ∧ ((gameroomref_PutSign_J12 g1 who1 place1 r1 dx1 dy1 out6 i1)).bind φ4 = some r) ?_ ?_
                      · rintro a w ⟨hF, hS, hm⟩
                        unfold gameroomref_PutSign_J12 at hm
                        refine seq_cut (fun a w => Fr 155 [pl 1 (.int .i64 who1), pl 2 (.int .i64 place1), pl 3 (.pointer (some ⟨g4, 0, none⟩)), pl 6 (.pointer (some ⟨g5, 0, none⟩)), pl 8 (.pointer (some ⟨g6, 0, none⟩)), pl 9 (.int .i64 many3), pl 10 (.int .i64 dx1), pl 11 (.int .i64 dy1), pl 12 (.int .i64 n3), pl 15 (.int .i64 i1)] a ∧ Sep w0 B w (blk g4 24 #[.int .i64 g1, .int .i64 g2, .slice A1 g3.length c1] :: blk g5 24 #[.int .i64 0, .int .i64 0, .slice none 0 0] :: blk g6 24 #[.int .i64 r1.1, .int .i64 r1.2.1, .slice A2 r1.2.2.length c2] :: own 3 (.slice A2 r1.2.2.length c2) (vI (out6.set (Int.toNat (w64 ((w64 ((w64 ((w64 ((w64 (Int.tdiv place1 g1)) + (w64 (i1 * dy1)))) * g1)) + (Int.tmod place1 g1))) + (w64 (i1 * dx1))))) who1)) :: fs) ∧ ((gameroomref_PutSign_J13 g1 who1 place1 dx1 dy1 out6 i1)).bind φ4 = some r) ?_ ?_
                        · rintro a w ⟨hF, hS, hm⟩
                          unfold gameroomref_PutSign_J13 at hm
                          refine reg1 [] [] [1, 2, 3, 6, 8, 9, 10, 11, 12, 15] [pl 1 (.int .i64 who1), pl 2 (.int .i64 place1), pl 3 (.pointer (some ⟨g4, 0, none⟩)), pl 6 (.pointer (some ⟨g5, 0, none⟩)), pl 8 (.pointer (some ⟨g6, 0, none⟩)), pl 9 (.int .i64 many3), pl 10 (.int .i64 dx1), pl 11 (.int .i64 dy1), pl 12 (.int .i64 n3), pl 15 (.int .i64 (w64 (i1 + 1)))] hF hS Fol (by kernel_rfl) (by kernel_rfl) (by kernel_rfl) ?_ (fun a w hF hS => ?_)
                          · exact obs_nil
                          refine then_n ?_
                          rw [← hφ4] at hm
                          exact ⟨((out6.set (Int.toNat (w64 ((w64 ((w64 ((w64 ((w64 (Int.tdiv place1 g1)) + (w64 (i1 * dy1)))) * g1)) + (Int.tmod place1 g1))) + (w64 (i1 * dx1))))) who1), (w64 (i1 + 1))), ⟨hF.weak [1, 2, 3, 6, 8, 9, 10, 11, 12, 15] (by kernel_rfl), hS⟩, hm⟩
                        · refine wp_block ?_
                          obtain ⟨hp6, hm⟩ := asrt_b hm
                          obtain ⟨hp7, hm⟩ := asrt_b hm
                          obtain ⟨hp8, hm⟩ := asrt_b hm
                          refine regMix4 [0, 1, 2, 3, 4, 5, 6, 7, 8, 9, 10, 11, 12, 13, 14, 15, 16, 17, 18, 19, 20, 21, 22, 23] [24] [⟨false, [], vS (Instr.loadAt 22 (.pointer (some ⟨g6, 2, none⟩))), .slice A2 r1.2.2.length c2⟩, ⟨false, [], vS (Instr.loadAt 3 (.pointer (some ⟨g4, 0, none⟩))), .int .i64 g1⟩, ⟨true, [], vS (Op.intDiv .quo .i64 place1 g1), .int .i64 (w64 (Int.tdiv place1 g1))⟩, ⟨false, [], vS (Instr.loadAt 3 (.pointer (some ⟨g4, 0, none⟩))), .int .i64 g1⟩, ⟨false, [], vS (Instr.loadAt 3 (.pointer (some ⟨g4, 0, none⟩))), .int .i64 g1⟩, ⟨true, [], vS (Op.intDiv .rem .i64 place1 g1), .int .i64 (Int.tmod place1 g1)⟩, ⟨true, [], vS (Instr.indexAt 22 (.slice A2 r1.2.2.length c2) (.int .i64 (w64 ((w64 ((w64 ((w64 ((w64 (Int.tdiv place1 g1)) + (w64 (i1 * dy1)))) * g1)) + (Int.tmod place1 g1))) + (w64 (i1 * dx1)))))), .pointer (some (sAddr A2 (w64 ((w64 ((w64 ((w64 ((w64 (Int.tdiv place1 g1)) + (w64 (i1 * dy1)))) * g1)) + (Int.tmod place1 g1))) + (w64 (i1 * dx1))))))⟩] [none, some (.slice A2 r1.2.2.length c2), none, none, some (.int .i64 g1), some (.int .i64 (w64 (Int.tdiv place1 g1))), none, none, none, none, none, some (.int .i64 g1), none, none, none, some (.int .i64 g1), some (.int .i64 (Int.tmod place1 g1)), none, none, none, none, none, none, some (.pointer (some (sAddr A2 (w64 ((w64 ((w64 ((w64 ((w64 (Int.tdiv place1 g1)) + (w64 (i1 * dy1)))) * g1)) + (Int.tmod place1 g1))) + (w64 (i1 * dx1)))))))] [1, 2, 3, 6, 8, 9, 10, 11, 12, 15, 141, 142] [pl 1 (.int .i64 who1), pl 2 (.int .i64 place1), pl 3 (.pointer (some ⟨g4, 0, none⟩)), pl 6 (.pointer (some ⟨g5, 0, none⟩)), pl 8 (.pointer (some ⟨g6, 0, none⟩)), pl 9 (.int .i64 many3), pl 10 (.int .i64 dx1), pl 11 (.int .i64 dy1), pl 12 (.int .i64 n3), pl 15 (.int .i64 i1), pl 141 (.int .i64 who1), pl 142 (.pointer (some (sAddr A2 (w64 ((w64 ((w64 ((w64 ((w64 (Int.tdiv place1 g1)) + (w64 (i1 * dy1)))) * g1)) + (Int.tmod place1 g1))) + (w64 (i1 * dx1)))))))] hF hS Fol (by kernel_rfl) (by kernel_rfl) (by kernel_rfl) (by kernel_rfl) (by kernel_rfl) ?_ (fun a w hF hS => ?_)
                          · exact obs_cons (ob_load Agg22 (fun _ _ hS => (hS.at_ 2 rfl).cell rfl)) <| obs_cons (ob_load Agg3 (fun _ _ hS => (hS.at_ 0 rfl).cell rfl)) <| obs_cons (ob_quo rfl (fun _ => hp6)) <| obs_cons (ob_load Agg3 (fun _ _ hS => (hS.at_ 0 rfl).cell rfl)) <| obs_cons (ob_load Agg3 (fun _ _ hS => (hS.at_ 0 rfl).cell rfl)) <| obs_cons (ob_rem rfl (fun _ => hp7)) <| obs_cons (ob_ix1 (f := (Value.int .i64)) (m := out6) Und22 hi3 hs3 (hS.at_ 3 rfl).rd ((hS.at_ 3 rfl).len1) (fun _ => hp8)) <| obs_nil
                          obtain ⟨w, hrun, hS⟩ := run_set1 (P := Try.prog) (t := 3) (x := who1) (Value.int .i64) (hS.at_ 3 rfl) hi3 hs3 rfl rfl hp8
                          refine at_skip hF (by kernel_rfl) hrun ?_
                          have hS : Sep w0 B w (blk g4 24 #[.int .i64 g1, .int .i64 g2, .slice A1 g3.length c1] :: blk g5 24 #[.int .i64 0, .int .i64 0, .slice none 0 0] :: blk g6 24 #[.int .i64 r1.1, .int .i64 r1.2.1, .slice A2 r1.2.2.length c2] :: own 3 (.slice A2 r1.2.2.length c2) (vI (out6.set (Int.toNat (w64 ((w64 ((w64 ((w64 ((w64 (Int.tdiv place1 g1)) + (w64 (i1 * dy1)))) * g1)) + (Int.tmod place1 g1))) + (w64 (i1 * dx1))))) who1)) :: fs) := hS
                          refine at_end [1, 2, 3, 6, 8, 9, 10, 11, 12, 15] [pl 1 (.int .i64 who1), pl 2 (.int .i64 place1), pl 3 (.pointer (some ⟨g4, 0, none⟩)), pl 6 (.pointer (some ⟨g5, 0, none⟩)), pl 8 (.pointer (some ⟨g6, 0, none⟩)), pl 9 (.int .i64 many3), pl 10 (.int .i64 dx1), pl 11 (.int .i64 dy1), pl 12 (.int .i64 n3), pl 15 (.int .i64 i1)] hF rfl (by kernel_rfl) (fun hF => ?_)
                          refine np_n ?_
                          refine block_n ?_
                          refine then_n ?_
                          exact ⟨hF.weak [1, 2, 3, 6, 8, 9, 10, 11, 12, 15] (by kernel_rfl), hS, hm⟩
                      · refine reg [] [] [1, 2, 3, 6, 8, 9, 10, 11, 12, 15, 116] [pl 1 (.int .i64 who1), pl 2 (.int .i64 place1), pl 3 (.pointer (some ⟨g4, 0, none⟩)), pl 6 (.pointer (some ⟨g5, 0, none⟩)), pl 8 (.pointer (some ⟨g6, 0, none⟩)), pl 9 (.int .i64 many3), pl 10 (.int .i64 dx1), pl 11 (.int .i64 dy1), pl 12 (.int .i64 n3), pl 15 (.int .i64 i1), pl 116 (.bool (decide (i1 ≤ n3)))] hF hS Fol (by kernel_rfl) (by kernel_rfl) (by kernel_rfl) ?_ (fun a w hF hS => ?_)
                        · exact obs_nil
                        refine cond_ev (t := 116) (b := decide (i1 ≤ n3)) hF (by kernel_rfl) (fun hb => ?_) (fun hb => ?_)
                        · replace hm := if_t hm hb
                          refine wp_skip ?_
                          refine then_n ?_
                          exact ⟨hF.weak [1, 2, 3, 6, 8, 9, 10, 11, 12, 15] (by kernel_rfl), hS, hm⟩
                        · replace hm := if_f hm hb
                          refine wp_exit ?_
                          refine then_e (then_e (block_e (then_n ?_)))
                          rw [← hφ4] at hm
                          replace hm := done_b hm
                          unfold gameroomref_PutSign_K4 at hm
                          try dsimp only at hm
                          have hm : ((gameroomref_PutSign_J11 many3 dy1 n3) out6).bind φ2 = some r := hm
                          exact ⟨out6, hF.weak [1, 2, 3, 6, 8, 9, 10, 11, 12] (by kernel_rfl), hS, hm⟩
                  · obtain ⟨r4, hr4, hm⟩ := call_b hm
                    obtain ⟨r5, hr5, hm⟩ := call_b hm
                    obtain ⟨hp5, hm⟩ := asrt_b hm
                    refine reg [⟨false, [], vS (Instr.loadAt 3 (.pointer (some ⟨g4, 0, none⟩))), .int .i64 g1⟩, ⟨false, [], callFunc 64 #[.int .i64 x2, .int .i64 0, .int .i64 (w64 (g1 - 1))], .bool r4⟩, ⟨false, [(!r4, false)], vS (Instr.loadAt 3 (.pointer (some ⟨g4, 1, none⟩))), .int .i64 g2⟩, ⟨false, [(!r4, false)], callFunc 64 #[.int .i64 y2, .int .i64 0, .int .i64 (w64 (g2 - 1))], .bool r5⟩, ⟨false, [((!r4) || (!r5), false)], vS (Instr.loadAt 22 (.pointer (some ⟨g4, 2, none⟩))), .slice A1 g3.length c1⟩, ⟨false, [((!r4) || (!r5), false)], vS (Instr.loadAt 3 (.pointer (some ⟨g4, 0, none⟩))), .int .i64 g1⟩, ⟨true, [((!r4) || (!r5), false)], vS (Instr.indexAt 22 (.slice A1 g3.length c1) (.int .i64 (w64 ((w64 (y2 * g1)) + x2)))), .pointer (some (sAddr A1 (w64 ((w64 (y2 * g1)) + x2))))⟩, ⟨false, [((!r4) || (!r5), false)], vS (Instr.loadAt 3 (.pointer (some (sAddr A1 (w64 ((w64 (y2 * g1)) + x2)))))), .int .i64 (geti g3 (w64 ((w64 (y2 * g1)) + x2)))⟩] [none, none, some (.int .i64 g1), none, some (.bool r4), none, none, none, none, some (.int .i64 g2), none, some (.bool r5), none, none, none, none, some (.slice A1 g3.length c1), none, none, some (.int .i64 g1), none, none, none, some (.pointer (some (sAddr A1 (w64 ((w64 (y2 * g1)) + x2))))), some (.int .i64 (geti g3 (w64 ((w64 (y2 * g1)) + x2)))), none, none, none] [1, 2, 3, 6, 8, 9, 10, 11, 12, 113] [pl 1 (.int .i64 who1), pl 2 (.int .i64 place1), pl 3 (.pointer (some ⟨g4, 0, none⟩)), pl 6 (.pointer (some ⟨g5, 0, none⟩)), pl 8 (.pointer (some ⟨g6, 0, none⟩)), pl 9 (.int .i64 many3), pl 10 (.int .i64 dx1), pl 11 (.int .i64 dy1), pl 12 (.int .i64 n3), pl 113 (.bool (((!r4) || (!r5)) || ((geti g3 (w64 ((w64 (y2 * g1)) + x2))) != who1)))] hF hS Fol (by kernel_rfl) (by kernel_rfl) (by kernel_rfl) ?_ (fun a w hF hS => ?_)
                    · exact obs_cons (ob_load Agg3 (fun _ _ hS => (hS.at_ 0 rfl).cell rfl)) <| obs_cons (ob_call Try.func64 (by kernel_rfl) rfl (fun _ _ hS => gameroomref_within_w hr4 hS )) <| obs_cons (ob_load Agg3 (fun _ _ hS => (hS.at_ 0 rfl).cell rfl)) <| obs_cons (ob_call Try.func64 (by kernel_rfl) rfl (fun hy _ hS => gameroomref_within_w (ite_some hr5 (by rw [show (!r4) = false from hy (!r4, false) (by simp)]; try rfl)) hS )) <| obs_cons (ob_load Agg22 (fun _ _ hS => (hS.at_ 0 rfl).cell rfl)) <| obs_cons (ob_load Agg3 (fun _ _ hS => (hS.at_ 0 rfl).cell rfl)) <| obs_cons (ob_ix1 (f := (Value.int .i64)) (m := g3) Und22 hi3 hs3 (hr_g3 _ (hS.dropN 4)) rfl (fun hy => hp5 (hy ((!r4) || (!r5), false) (by simp)))) <| obs_cons (ob_get1 (n := g3.length) (m := g3) (Value.int .i64) (0 : Int) Agg3 (fun _ hS => ⟨_, (hr_g3 _ (hS.dropN 4))⟩) (fun _ hS => rfl) (fun hy => hp5 (hy ((!r4) || (!r5), false) (by simp)))) <| obs_nil
                    refine cond_ev (t := 113) (b := ((!r4) || (!r5)) || ((geti g3 (w64 ((w64 (y2 * g1)) + x2))) != who1)) hF (by kernel_rfl) (fun hb => ?_) (fun hb => ?_)
                    · replace hm := if_t hm hb
                      refine wp_exit ?_
                      refine then_e (block_e (then_n ?_))
                      exact ⟨out3, many3, hF.weak [1, 2, 3, 6, 8, 9, 10, 11] (by kernel_rfl), hS, hm⟩
                    · replace hm := if_f hm hb
                      refine wp_skip ?_
                      refine then_n ?_
                      exact ⟨hF.weak [1, 2, 3, 6, 8, 9, 10, 11, 12] (by kernel_rfl), hS, hm⟩
                · refine wp_block ?_
                  refine wp_loop_model (S := (Int × Int × Int)) (R := (Int × Int × Int)) (gameroomref_PutSign_L3 g1 g2 g3 who1 dx1 dy1) (fun x => ((gameroomref_PutSign_K3 g1 g2 g3 who1 place1 r1 dx1 out3 many3 dy1) x).bind φ2) r (fun (x : (Int × Int × Int)) a w => Fr 155 [pl 1 (.int .i64 who1), pl 2 (.int .i64 place1), pl 3 (.pointer (some ⟨g4, 0, none⟩)), pl 6 (.pointer (some ⟨g5, 0, none⟩)), pl 8 (.pointer (some ⟨g6, 0, none⟩)), pl 9 (.int .i64 many3), pl 10 (.int .i64 dx1), pl 11 (.int .i64 dy1), pl 12 (.int .i64 x.1), pl 13 (.int .i64 x.2.1), pl 14 (.int .i64 x.2.2)] a ∧ Sep w0 B w (blk g4 24 #[.int .i64 g1, .int .i64 g2, .slice A1 g3.length c1] :: blk g5 24 #[.int .i64 0, .int .i64 0, .slice none 0 0] :: blk g6 24 #[.int .i64 r1.1, .int .i64 r1.2.1, .slice A2 r1.2.2.length c2] :: own 3 (.slice A2 r1.2.2.length c2) (vI out3) :: fs)) (assoc_b hm) ⟨hF.weak [1, 2, 3, 6, 8, 9, 10, 11, 12, 13, 14] (by kernel_rfl), hS⟩ ?_
                  clear hF hS hm
                  rintro nn3 ⟨n2, x1, y1⟩ a w ⟨hF, hS⟩ hm
                  generalize hφ3 : stK (gameroomref_PutSign_L3 g1 g2 g3 who1 dx1 dy1) nn3 (fun x => ((gameroomref_PutSign_K3 g1 g2 g3 who1 place1 r1 dx1 out3 many3 dy1) x).bind φ2) = φ3 at hm
                  unfold gameroomref_PutSign_L3 at hm
                  dsimp only at hF hS hm
                  refine seq_cut (fun a w => Fr 155 [pl 1 (.int .i64 who1), pl 2 (.int .i64 place1), pl 3 (.pointer (some ⟨g4, 0, none⟩)), pl 6 (.pointer (some ⟨g5, 0, none⟩)), pl 8 (.pointer (some ⟨g6, 0, none⟩)), pl 9 (.int .i64 many3), pl 10 (.int .i64 dx1), pl 11 (.int .i64 dy1), pl 12 (.int .i64 n2), pl 13 (.int .i64 x1), pl 14 (.int .i64 y1)] a ∧ Sep w0 B w (blk g4 24 #[.int .i64 g1, .int .i64 g2, .slice A1 g3.length c1] :: blk g5 24 #[.int .i64 0, .int .i64 0, .slice none 0 0] :: blk g6 24 #[.int .i64 r1.1, .int .i64 r1.2.1, .slice A2 r1.2.2.length c2] :: own 3 (.slice A2 r1.2.2.length c2) (vI out3) :: fs) ∧ ((gameroomref_PutSign_J9 dx1 dy1 n2 x1 y1)).bind φ3 = some r) ?_ ?_
                  · rintro a w ⟨hF, hS, hm⟩
                    unfold gameroomref_PutSign_J9 at hm
                    refine wp_block ?_
                    refine reg [] [] [1, 2, 3, 6, 8, 9, 10, 11, 12, 13, 14] [pl 1 (.int .i64 who1), pl 2 (.int .i64 place1), pl 3 (.pointer (some ⟨g4, 0, none⟩)), pl 6 (.pointer (some ⟨g5, 0, none⟩)), pl 8 (.pointer (some ⟨g6, 0, none⟩)), pl 9 (.int .i64 many3), pl 10 (.int .i64 dx1), pl 11 (.int .i64 dy1), pl 12 (.int .i64 (w64 (n2 + 1))), pl 13 (.int .i64 x1), pl 14 (.int .i64 y1)] hF hS Fol (by kernel_rfl) (by kernel_rfl) (by kernel_rfl) ?_ (fun a w hF hS => ?_)
                    · exact obs_nil
                    refine reg1 [] [] [1, 2, 3, 6, 8, 9, 10, 11, 12, 13, 14] [pl 1 (.int .i64 who1), pl 2 (.int .i64 place1), pl 3 (.pointer (some ⟨g4, 0, none⟩)), pl 6 (.pointer (some ⟨g5, 0, none⟩)), pl 8 (.pointer (some ⟨g6, 0, none⟩)), pl 9 (.int .i64 many3), pl 10 (.int .i64 dx1), pl 11 (.int .i64 dy1), pl 12 (.int .i64 (w64 (n2 + 1))), pl 13 (.int .i64 (w64 (x1 + dx1))), pl 14 (.int .i64 (w64 (y1 + dy1)))] hF hS Fol (by kernel_rfl) (by kernel_rfl) (by kernel_rfl) ?_ (fun a w hF hS => ?_)
                    · exact obs_nil
                    refine block_n ?_
                    refine then_n ?_
                    rw [← hφ3] at hm
                    exact ⟨((w64 (n2 + 1)), (w64 (x1 + dx1)), (w64 (y1 + dy1))), ⟨hF.weak [1, 2, 3, 6, 8, 9, 10, 11, 12, 13, 14] (by kernel_rfl), hS⟩, hm⟩
                  · obtain ⟨r2, hr2, hm⟩ := call_b hm
                    obtain ⟨r3, hr3, hm⟩ := call_b hm
                    obtain ⟨hp4, hm⟩ := asrt_b hm
                    refine reg [⟨false, [], vS (Instr.loadAt 3 (.pointer (some ⟨g4, 0, none⟩))), .int .i64 g1⟩, ⟨false, [], callFunc 64 #[.int .i64 x1, .int .i64 0, .int .i64 (w64 (g1 - 1))], .bool r2⟩, ⟨false, [(r2, true)], vS (Instr.loadAt 3 (.pointer (some ⟨g4, 1, none⟩))), .int .i64 g2⟩, ⟨false, [(r2, true)], callFunc 64 #[.int .i64 y1, .int .i64 0, .int .i64 (w64 (g2 - 1))], .bool r3⟩, ⟨false, [(r2 && r3, true)], vS (Instr.loadAt 22 (.pointer (some ⟨g4, 2, none⟩))), .slice A1 g3.length c1⟩, ⟨false, [(r2 && r3, true)], vS (Instr.loadAt 3 (.pointer (some ⟨g4, 0, none⟩))), .int .i64 g1⟩, ⟨true, [(r2 && r3, true)], vS (Instr.indexAt 22 (.slice A1 g3.length c1) (.int .i64 (w64 ((w64 (y1 * g1)) + x1)))), .pointer (some (sAddr A1 (w64 ((w64 (y1 * g1)) + x1))))⟩, ⟨false, [(r2 && r3, true)], vS (Instr.loadAt 3 (.pointer (some (sAddr A1 (w64 ((w64 (y1 * g1)) + x1)))))), .int .i64 (geti g3 (w64 ((w64 (y1 * g1)) + x1)))⟩] [none, none, some (.int .i64 g1), none, some (.bool r2), none, none, none, some (.int .i64 g2), none, some (.bool r3), none, none, none, some (.slice A1 g3.length c1), none, none, some (.int .i64 g1), none, none, none, some (.pointer (some (sAddr A1 (w64 ((w64 (y1 * g1)) + x1))))), some (.int .i64 (geti g3 (w64 ((w64 (y1 * g1)) + x1)))), none, none, none, none] [1, 2, 3, 6, 8, 9, 10, 11, 12, 13, 14, 77] [pl 1 (.int .i64 who1), pl 2 (.int .i64 place1), pl 3 (.pointer (some ⟨g4, 0, none⟩)), pl 6 (.pointer (some ⟨g5, 0, none⟩)), pl 8 (.pointer (some ⟨g6, 0, none⟩)), pl 9 (.int .i64 many3), pl 10 (.int .i64 dx1), pl 11 (.int .i64 dy1), pl 12 (.int .i64 n2), pl 13 (.int .i64 x1), pl 14 (.int .i64 y1), pl 77 (.bool ((r2 && r3) && ((geti g3 (w64 ((w64 (y1 * g1)) + x1))) == (w64 (3 - who1)))))] hF hS Fol (by kernel_rfl) (by kernel_rfl) (by kernel_rfl) ?_ (fun a w hF hS => ?_)
                    · exact obs_cons (ob_load Agg3 (fun _ _ hS => (hS.at_ 0 rfl).cell rfl)) <| obs_cons (ob_call Try.func64 (by kernel_rfl) rfl (fun _ _ hS => gameroomref_within_w hr2 hS )) <| obs_cons (ob_load Agg3 (fun _ _ hS => (hS.at_ 0 rfl).cell rfl)) <| obs_cons (ob_call Try.func64 (by kernel_rfl) rfl (fun hy _ hS => gameroomref_within_w (ite_some hr3 (by rw [show r2 = true from hy (r2, true) (by simp)]; try rfl)) hS )) <| obs_cons (ob_load Agg22 (fun _ _ hS => (hS.at_ 0 rfl).cell rfl)) <| obs_cons (ob_load Agg3 (fun _ _ hS => (hS.at_ 0 rfl).cell rfl)) <| obs_cons (ob_ix1 (f := (Value.int .i64)) (m := g3) Und22 hi3 hs3 (hr_g3 _ (hS.dropN 4)) rfl (fun hy => hp4 (hy (r2 && r3, true) (by simp)))) <| obs_cons (ob_get1 (n := g3.length) (m := g3) (Value.int .i64) (0 : Int) Agg3 (fun _ hS => ⟨_, (hr_g3 _ (hS.dropN 4))⟩) (fun _ hS => rfl) (fun hy => hp4 (hy (r2 && r3, true) (by simp)))) <| obs_nil
                    refine cond_ev (t := 77) (b := (r2 && r3) && ((geti g3 (w64 ((w64 (y1 * g1)) + x1))) == (w64 (3 - who1)))) hF (by kernel_rfl) (fun hb => ?_) (fun hb => ?_)
                    · replace hm := if_t hm hb
                      refine wp_skip ?_
                      refine then_n ?_
                      exact ⟨hF.weak [1, 2, 3, 6, 8, 9, 10, 11, 12, 13, 14] (by kernel_rfl), hS, hm⟩
                    · replace hm := if_f hm hb
                      refine wp_exit ?_
                      refine then_e (then_e (block_e (then_n ?_)))
                      rw [← hφ3] at hm
                      replace hm := done_b hm
                      unfold gameroomref_PutSign_K3 at hm
                      try dsimp only at hm
                      have hm : ((gameroomref_PutSign_J8 g1 g2 g3 who1 place1 r1 dx1 out3 many3 dy1) n2 x1 y1).bind φ2 = some r := hm
                      exact ⟨n2, x1, y1, hF.weak [1, 2, 3, 6, 8, 9, 10, 11, 12, 13, 14] (by kernel_rfl), hS, hm⟩
              · refine reg [] [] [1, 2, 3, 6, 8, 9, 10, 11, 38] [pl 1 (.int .i64 who1), pl 2 (.int .i64 place1), pl 3 (.pointer (some ⟨g4, 0, none⟩)), pl 6 (.pointer (some ⟨g5, 0, none⟩)), pl 8 (.pointer (some ⟨g6, 0, none⟩)), pl 9 (.int .i64 many3), pl 10 (.int .i64 dx1), pl 11 (.int .i64 dy1), pl 38 (.bool ((dx1 == 0) && (dy1 == 0)))] hF hS Fol (by kernel_rfl) (by kernel_rfl) (by kernel_rfl) ?_ (fun a w hF hS => ?_)
                · exact obs_nil
                refine cond_ev (t := 38) (b := (dx1 == 0) && (dy1 == 0)) hF (by kernel_rfl) (fun hb => ?_) (fun hb => ?_)
                · replace hm := if_t hm hb
                  refine wp_exit ?_
                  refine then_e (block_e (then_n ?_))
                  exact ⟨out3, many3, hF.weak [1, 2, 3, 6, 8, 9, 10, 11] (by kernel_rfl), hS, hm⟩
                · replace hm := if_f hm hb
                  refine wp_skip ?_
                  refine then_n ?_
                  exact ⟨hF.weak [1, 2, 3, 6, 8, 9, 10, 11] (by kernel_rfl), hS, hm⟩
          · refine reg [] [] [1, 2, 3, 6, 8, 9, 10, 11, 30] [pl 1 (.int .i64 who1), pl 2 (.int .i64 place1), pl 3 (.pointer (some ⟨g4, 0, none⟩)), pl 6 (.pointer (some ⟨g5, 0, none⟩)), pl 8 (.pointer (some ⟨g6, 0, none⟩)), pl 9 (.int .i64 many3), pl 10 (.int .i64 dx1), pl 11 (.int .i64 dy1), pl 30 (.bool (decide (dy1 ≤ 1)))] hF hS Fol (by kernel_rfl) (by kernel_rfl) (by kernel_rfl) ?_ (fun a w hF hS => ?_)
            · exact obs_nil
            refine cond_ev (t := 30) (b := decide (dy1 ≤ 1)) hF (by kernel_rfl) (fun hb => ?_) (fun hb => ?_)
            · replace hm := if_t hm hb
              refine wp_skip ?_
              refine then_n ?_
              exact ⟨hF.weak [1, 2, 3, 6, 8, 9, 10, 11] (by kernel_rfl), hS, hm⟩
            · replace hm := if_f hm hb
              refine wp_exit ?_
              refine then_e (then_e (block_e (block_n (then_n ?_))))
              rw [← hφ2] at hm
              replace hm := done_b hm
              unfold gameroomref_PutSign_K2 at hm
              try dsimp only at hm
              have hm : ((gameroomref_PutSign_J4 dx1) out3 many3).bind φ1 = some r := hm
              exact ⟨out3, many3, hF.weak [1, 2, 3, 6, 8, 9, 10] (by kernel_rfl), hS, hm⟩
      · refine reg [] [] [1, 2, 3, 6, 8, 9, 10, 26] [pl 1 (.int .i64 who1), pl 2 (.int .i64 place1), pl 3 (.pointer (some ⟨g4, 0, none⟩)), pl 6 (.pointer (some ⟨g5, 0, none⟩)), pl 8 (.pointer (some ⟨g6, 0, none⟩)), pl 9 (.int .i64 many1), pl 10 (.int .i64 dx1), pl 26 (.bool (decide (dx1 ≤ 1)))] hF hS Fol (by kernel_rfl) (by kernel_rfl) (by kernel_rfl) ?_ (fun a w hF hS => ?_)
        · exact obs_nil
        refine cond_ev (t := 26) (b := decide (dx1 ≤ 1)) hF (by kernel_rfl) (fun hb => ?_) (fun hb => ?_)
        · replace hm := if_t hm hb
          refine wp_skip ?_
          refine then_n ?_
          exact ⟨hF.weak [1, 2, 3, 6, 8, 9, 10] (by kernel_rfl), hS, hm⟩
        · replace hm := if_f hm hb
          refine wp_exit ?_
          refine then_e (then_e (block_e (then_n ?_)))
          have hS := hS.pickN 4 [1, 2, 3] (by decide)
          rw [← hφ1] at hm
          replace hm := done_b hm
          unfold gameroomref_PutSign_K1 at hm
          try dsimp only at hm
          have hm : ((gameroomref_PutSign_J2 who1 place1 r1) out1 many1).bind some = some r := hm
          exact ⟨out1, many1, hF.weak [1, 2, 6, 8, 9] (by kernel_rfl), hS, hm⟩
  · obtain ⟨hp1, hm⟩ := asrt_b hm
    refine reg [⟨false, [], vS (Instr.loadAt 22 (.pointer (some ⟨g4, 2, none⟩))), .slice A1 g3.length c1⟩, ⟨true, [], vS (Instr.indexAt 22 (.slice A1 g3.length c1) (.int .i64 place1)), .pointer (some (sAddr A1 place1))⟩, ⟨false, [], vS (Instr.loadAt 3 (.pointer (some (sAddr A1 place1)))), .int .i64 (geti g3 place1)⟩] [none, some (.slice A1 g3.length c1), none, some (.pointer (some (sAddr A1 place1))), some (.int .i64 (geti g3 place1)), none] [1, 2, 3, 6, 8, 23] [pl 1 (.int .i64 who1), pl 2 (.int .i64 place1), pl 3 (.pointer (some ⟨g4, 0, none⟩)), pl 6 (.pointer (some ⟨g5, 0, none⟩)), pl 8 (.pointer (some ⟨g6, 0, none⟩)), pl 23 (.bool ((geti g3 place1) != 0))] hF hS Fol (by kernel_rfl) (by kernel_rfl) (by kernel_rfl) ?_ (fun a w hF hS => ?_)
    · exact obs_cons (ob_load Agg22 (fun _ _ hS => (hS.at_ 3 rfl).cell rfl)) <| obs_cons (ob_ix1 (f := (Value.int .i64)) (m := g3) Und22 hi3 hs3 (hr_g3 _ (hS.dropN 4)) rfl (fun _ => hp1)) <| obs_cons (ob_get1 (n := g3.length) (m := g3) (Value.int .i64) (0 : Int) Agg3 (fun _ hS => ⟨_, (hr_g3 _ (hS.dropN 4))⟩) (fun _ hS => rfl) (fun _ => hp1)) <| obs_nil
    refine cond_ev (t := 23) (b := ((geti g3 place1) != 0)) hF (by kernel_rfl) (fun hb => ?_) (fun hb => ?_)
    · replace hm := if_t hm hb
      refine seqR ?_
      refine at_run 1 [⟨false, [], vS (Instr.loadAt 24 (.pointer (some ⟨g6, 0, none⟩))), .agg #[.int .i64 r1.1, .int .i64 r1.2.1, .slice A2 r1.2.2.length c2]⟩] [some (.agg #[.int .i64 r1.1, .int .i64 r1.2.1, .slice A2 r1.2.2.length c2])] [6, 24] [pl 6 (.pointer (some ⟨g5, 0, none⟩)), pl 24 (.agg #[.int .i64 r1.1, .int .i64 r1.2.1, .slice A2 r1.2.2.length c2])] hF hS (by kernel_rfl) (by kernel_rfl) ?_ (fun a w hF hS => ?_)
      · exact obs_cons (ob_loadA (cs := #[.int .i64 r1.1, .int .i64 r1.2.1, .slice A2 r1.2.2.length c2]) (by kernel_rfl) (by kernel_rfl) (fun _ _ hS => (hS.at_ 0 rfl).cellsAt 0 (by rfl))) <| obs_nil
      obtain ⟨w, hrun, hS⟩ := run_putA (P := Try.prog) (t := 24) (us := #[.int .i64 r1.1, .int .i64 r1.2.1, .slice A2 r1.2.2.length c2]) (o := 0) (hS.at_ 2 rfl) (by kernel_rfl) (all_one (by kernel_rfl)) (Nat.le_of_ble_eq_true (by kernel_rfl))
      refine at_skip hF (by kernel_rfl) hrun ?_
      have hS : Sep w0 B w (blk g6 24 #[.int .i64 r1.1, .int .i64 r1.2.1, .slice A2 r1.2.2.length c2] :: own 3 (.slice A2 r1.2.2.length c2) (vI r1.2.2) :: blk g5 24 #[.int .i64 r1.1, .int .i64 r1.2.1, .slice A2 r1.2.2.length c2] :: blk g4 24 #[.int .i64 g1, .int .i64 g2, .slice A1 g3.length c1] :: fs) := hS
      refine at_run 1 [] [] [6, 7] [pl 6 (.pointer (some ⟨g5, 0, none⟩)), pl 7 (.int .i64 0)] hF hS (by kernel_rfl) (by kernel_rfl) ?_ (fun a w hF hS => ?_)
      · exact obs_nil
      refine at_end [6, 7] [pl 6 (.pointer (some ⟨g5, 0, none⟩)), pl 7 (.int .i64 0)] hF rfl (by kernel_rfl) (fun hF => ?_)
      refine then_n ?_
      refine wp_ret ?_
      refine then_r ?_
      have hld0 := run_loadVarA (P := Try.prog) (t := 24) (cs := #[.int .i64 r1.1, .int .i64 r1.2.1, .slice A2 r1.2.2.length c2]) (by kernel_rfl) (by kernel_rfl) ((hS.at_ 2 rfl).cellsAt 0 (by rfl))
      have hS := hS.pickN 4 [1] (by decide)
      have hm : some (r1.1, r1.2.1, r1.2.2, 0) = some r := hm
      obtain rfl := Option.some.inj hm
      exact retV (rs := [.cell 6 24, .tmp 7]) (vs := [.agg #[.int .i64 r1.1, .int .i64 r1.2.1, .slice A2 r1.2.2.length c2], .int .i64 0]) hF rfl (rv_c (by kernel_rfl) hld0 <| rv_t (by kernel_rfl) <| rv_nil) rfl ⟨_, rfl, A2, c2, rfl, hS⟩
    · replace hm := if_f hm hb
      refine wp_skip ?_
      refine then_n ?_
      have hS := hS.pickN 4 [3, 2, 0, 1] (by decide)
      exact ⟨hF.weak [1, 2, 3, 6, 8] (by kernel_rfl), hS, hm⟩

noncomputable def gameroomref_SignPlaces_J3 (i1 : Int) (l3 : List Int) : Option (St (List Int × Int) (List Int)) :=
  some (.next (l3, (w64 (i1 + 1))))

noncomputable def gameroomref_SignPlaces_J2 (g1 : Int) (g2 : Int) (g3 : List Int) (who1 : Int) (l1 : List Int) (i1 : Int) : Option (St (List Int × Int) (List Int)) :=
  (gameroomref_PutSign_m g1 g2 g3 who1 i1).bind fun r1 => if (decide ((0 : Int) < r1.2.2.2)) then (asrt ((l1.length : Int) + 1 ≤ bigN) <| (gameroomref_SignPlaces_J3 i1) (l1 ++ ([i1] : List Int))) else ((gameroomref_SignPlaces_J3 i1) l1)

noncomputable def gameroomref_SignPlaces_J1 (l2 : List Int) : Option (List Int) :=
  some l2

noncomputable def gameroomref_SignPlaces_K1 : (List Int) → Option (List Int) :=
  fun (x : (List Int)) => match x with | l2 => gameroomref_SignPlaces_J1 l2

noncomputable def gameroomref_SignPlaces_L1 (g1 : Int) (g2 : Int) (g3 : List Int) (who1 : Int) : (List Int × Int) → Option (St (List Int × Int) (List Int)) :=
  fun (x : (List Int × Int)) => match x with | (l1, i1) => if (decide (i1 < (g3.length : Int))) then ((gameroomref_SignPlaces_J2 g1 g2 g3 who1 l1 i1)) else (some (.done l1))

noncomputable def gameroomref_SignPlaces_m (g1 : Int) (g2 : Int) (g3 : List Int) (who1 : Int) : Option (List Int) :=
  (loop (gameroomref_SignPlaces_L1 g1 g2 g3 who1) (([] : List Int), 0)).bind gameroomref_SignPlaces_K1

set_option maxRecDepth 100000 in
set_option maxHeartbeats 4000000 in
theorem gameroomref_SignPlaces_w {g1 : Int} {g2 : Int} {A1 : Option Addr} {c1 : Nat} {n1 : Nat} {g3 : List Int} {who1 : Int} {r : (List Int)} {w0 w : World} {B : Nat} {fs : List HP} (hm : gameroomref_SignPlaces_m g1 g2 g3 who1 = some r) (hS : Sep w0 B w (fs)) (hr_g3 : RdF w0 B fs A1 (vI g3)) (_hc_g3 : g3.length ≤ c1) (_hn_g3 : n1 = g3.length) :
    Calls Try.prog 21 #[.agg #[.int .i64 g1, .int .i64 g2, .slice A1 n1 c1], .int .i64 who1] w fun e w' => ∃ v, e = .returned v ∧ ∃ (A7 : Option Addr) (c7 : Nat), v = .slice A7 r.length c7 ∧ Sep w0 B w' (own 3 (.slice A7 r.length c7) (vI r) :: fs) := by
  obtain ⟨i3, hi3, hz3, hs3, hb3⟩ := info_parts Info3
  obtain rfl := _hn_g3
  unfold gameroomref_SignPlaces_m at hm
  replace hm := start_b hm
  refine enter (l := [.agg #[.int .i64 g1, .int .i64 g2, .slice A1 g3.length c1], .int .i64 who1]) (n := 30) Try.func21 rfl rfl (by simp) (fun a hF => ?_)
  refine seqR ?_
  refine at_do (d := 2) (s := vS (Instr.box 24 (.agg #[.int .i64 g1, .int .i64 g2, .slice A1 g3.length c1]))) (v := .pointer (some ⟨w.heap.size, 0, none⟩)) (w' := w.alloc (.cells #[.int .i64 g1, .int .i64 g2, .slice A1 g3.length c1] 24)) hF (by kernel_rfl) (by kernel_rfl) (by kernel_rfl) (fun a hF => ?_)
  have hS : Sep w0 B (w.alloc (.cells #[.int .i64 g1, .int .i64 g2, .slice A1 g3.length c1] 24)) (blk w.heap.size 24 #[.int .i64 g1, .int .i64 g2, .slice A1 g3.length c1] :: (fs)) := hS.box 24 #[.int .i64 g1, .int .i64 g2, .slice A1 g3.length c1]
  generalize w.heap.size = g4 at hF hS
  generalize w.alloc (.cells #[.int .i64 g1, .int .i64 g2, .slice A1 g3.length c1] 24) = w at hS ⊢
  refine at_run 1 [] [] [1, 2] [pl 1 (.int .i64 who1), pl 2 (.pointer (some ⟨g4, 0, none⟩))] hF hS (by kernel_rfl) (by kernel_rfl) ?_ (fun a w hF hS => ?_)
  · exact obs_nil
  refine at_end [1, 2] [pl 1 (.int .i64 who1), pl 2 (.pointer (some ⟨g4, 0, none⟩))] hF rfl (by kernel_rfl) (fun hF => ?_)
  refine then_n ?_
  refine reg [] [] [1, 2, 5] [pl 1 (.int .i64 who1), pl 2 (.pointer (some ⟨g4, 0, none⟩)), pl 5 (.slice none 0 0)] hF hS Fol (by kernel_rfl) (by kernel_rfl) (by kernel_rfl) ?_ (fun a w hF hS => ?_)
  · exact obs_nil
  refine seq_cut (fun a w => ∃ (l2 : List Int) (A3 : Option Addr) (c3 : Nat), Fr 30 [pl 5 (.slice A3 l2.length c3)] a ∧ Sep w0 B w (own 3 (.slice A3 l2.length c3) (vI l2) :: fs) ∧ (gameroomref_SignPlaces_J1 l2).bind some = some r) ?_ ?_
  · rintro a w ⟨l2, A3, c3, hF, hS, hm⟩
    unfold gameroomref_SignPlaces_J1 at hm
    refine reg [] [] [4] [pl 4 (.slice A3 l2.length c3)] hF hS Fol (by kernel_rfl) (by kernel_rfl) (by kernel_rfl) ?_ (fun a w hF hS => ?_)
    · exact obs_nil
    refine wp_ret ?_
    have hm : some l2 = some r := hm
    obtain rfl := Option.some.inj hm
    exact retV (rs := [.tmp 4]) (vs := [.slice A3 l2.length c3]) hF rfl (rv_t (by kernel_rfl) <| rv_nil) rfl ⟨_, rfl, A3, c3, rfl, hS⟩
  · refine reg [] [] [1, 2, 5, 6] [pl 1 (.int .i64 who1), pl 2 (.pointer (some ⟨g4, 0, none⟩)), pl 5 (.slice none 0 0), pl 6 (.int .i64 0)] hF hS Fol (by kernel_rfl) (by kernel_rfl) (by kernel_rfl) ?_ (fun a w hF hS => ?_)
    · exact obs_nil
    refine wp_block ?_
    have hS : Sep w0 B w (own 3 (.slice none 0 0) (vI ([] : List Int)) :: blk g4 24 #[.int .i64 g1, .int .i64 g2, .slice A1 g3.length c1] :: fs) := hS.nil 3
    have hl1 := (hS.at_ 0 rfl).len1
    have hS := (hS.at_ 0 rfl).reN hl1
    have hS : Sep w0 B w (own 3 (.slice none (([] : List Int).length) 0) (vI ([] : List Int)) :: blk g4 24 #[.int .i64 g1, .int .i64 g2, .slice A1 g3.length c1] :: fs) := hS
    have hF := hF.cast (t := 5) (v := .slice none 0 0) (v' := .slice none (([] : List Int).length) 0) rfl rfl (congrArg (fun k => Value.slice none k 0) hl1)
    have hS := hS.pickN 2 [1, 0] (by decide)
    refine wp_loop_model (S := (List Int × Int)) (R := (List Int)) (gameroomref_SignPlaces_L1 g1 g2 g3 who1) (fun x => (gameroomref_SignPlaces_K1 x).bind some) r (fun (x : (List Int × Int)) a w => ∃ (A2 : Option Addr) (c2 : Nat), Fr 30 [pl 1 (.int .i64 who1), pl 2 (.pointer (some ⟨g4, 0, none⟩)), pl 5 (.slice A2 x.1.length c2), pl 6 (.int .i64 x.2)] a ∧ Sep w0 B w (blk g4 24 #[.int .i64 g1, .int .i64 g2, .slice A1 g3.length c1] :: own 3 (.slice A2 x.1.length c2) (vI x.1) :: fs)) (assoc_b hm) ⟨none, 0, hF.weak [1, 2, 5, 6] (by kernel_rfl), hS⟩ ?_
    clear hF hS hm
    rintro nn1 ⟨l1, i1⟩ a w ⟨A2, c2, hF, hS⟩ hm
    generalize hφ1 : stK (gameroomref_SignPlaces_L1 g1 g2 g3 who1) nn1 (fun x => (gameroomref_SignPlaces_K1 x).bind some) = φ1 at hm
    unfold gameroomref_SignPlaces_L1 at hm
    dsimp only at hF hS hm
    refine seq_cut (fun a w => Fr 30 [pl 1 (.int .i64 who1), pl 2 (.pointer (some ⟨g4, 0, none⟩)), pl 5 (.slice A2 l1.length c2), pl 6 (.int .i64 i1)] a ∧ Sep w0 B w (blk g4 24 #[.int .i64 g1, .int .i64 g2, .slice A1 g3.length c1] :: own 3 (.slice A2 l1.length c2) (vI l1) :: fs) ∧ ((gameroomref_SignPlaces_J2 g1 g2 g3 who1 l1 i1)).bind φ1 = some r) ?_ ?_
    · rintro a w ⟨hF, hS, hm⟩
      unfold gameroomref_SignPlaces_J2 at hm
      refine seq_cut (fun a w => ∃ (l3 : List Int) (A6 : Option Addr) (c6 : Nat), Fr 30 [pl 1 (.int .i64 who1), pl 2 (.pointer (some ⟨g4, 0, none⟩)), pl 5 (.slice A6 l3.length c6), pl 6 (.int .i64 i1)] a ∧ Sep w0 B w (blk g4 24 #[.int .i64 g1, .int .i64 g2, .slice A1 g3.length c1] :: own 3 (.slice A6 l3.length c6) (vI l3) :: fs) ∧ ((gameroomref_SignPlaces_J3 i1) l3).bind φ1 = some r) ?_ ?_
      · rintro a w ⟨l3, A6, c6, hF, hS, hm⟩
        unfold gameroomref_SignPlaces_J3 at hm
        refine reg1 [] [] [1, 2, 5, 6] [pl 1 (.int .i64 who1), pl 2 (.pointer (some ⟨g4, 0, none⟩)), pl 5 (.slice A6 l3.length c6), pl 6 (.int .i64 (w64 (i1 + 1)))] hF hS Fol (by kernel_rfl) (by kernel_rfl) (by kernel_rfl) ?_ (fun a w hF hS => ?_)
        · exact obs_nil
        refine then_n ?_
        rw [← hφ1] at hm
        exact ⟨(l3, (w64 (i1 + 1))), ⟨A6, c6, hF.weak [1, 2, 5, 6] (by kernel_rfl), hS⟩, hm⟩
      · refine wp_block ?_
        refine seqR ?_
        obtain ⟨r1, hr1, hm⟩ := call_b hm
        refine at_run 3 [⟨false, [], vS (Instr.loadAt 24 (.pointer (some ⟨g4, 0, none⟩))), .agg #[.int .i64 g1, .int .i64 g2, .slice A1 g3.length c1]⟩] [some (.agg #[.int .i64 g1, .int .i64 g2, .slice A1 g3.length c1]), none, none] [1, 2, 5, 6, 17, 18, 19] [pl 1 (.int .i64 who1), pl 2 (.pointer (some ⟨g4, 0, none⟩)), pl 5 (.slice A2 l1.length c2), pl 6 (.int .i64 i1), pl 17 (.agg #[.int .i64 g1, .int .i64 g2, .slice A1 g3.length c1]), pl 18 (.int .i64 who1), pl 19 (.int .i64 i1)] hF hS (by kernel_rfl) (by kernel_rfl) ?_ (fun a w hF hS => ?_)
        · exact obs_cons (ob_loadA (cs := #[.int .i64 g1, .int .i64 g2, .slice A1 g3.length c1]) (by kernel_rfl) (by kernel_rfl) (fun _ _ hS => (hS.at_ 0 rfl).cellsAt 0 (by rfl))) <| obs_nil
        refine at_call (f := 23) (args := #[.agg #[.int .i64 g1, .int .i64 g2, .slice A1 g3.length c1], .int .i64 who1, .int .i64 i1]) (d := 20) hF (by kernel_rfl) (by kernel_rfl) Try.func23 (by kernel_rfl) rfl (gameroomref_PutSign_w hr1 hS (fun _ hS => (hr_g3 _ (hS.dropN 2))) _hc_g3 rfl) (fun v a w hR hF => ?_)
        clear hS
        obtain ⟨A4, c4, rfl, hS⟩ := hR
        have hS : Sep w0 B w (own 3 (.slice A4 r1.2.2.1.length c4) (vI r1.2.2.1) :: blk g4 24 #[.int .i64 g1, .int .i64 g2, .slice A1 g3.length c1] :: own 3 (.slice A2 l1.length c2) (vI l1) :: fs) := hS
        refine at_run 3 [] [] [1, 2, 5, 6, 21, 22] [pl 1 (.int .i64 who1), pl 2 (.pointer (some ⟨g4, 0, none⟩)), pl 5 (.slice A2 l1.length c2), pl 6 (.int .i64 i1), pl 21 (.agg #[.int .i64 r1.1, .int .i64 r1.2.1, .slice A4 r1.2.2.1.length c4]), pl 22 (.int .i64 r1.2.2.2)] hF hS (by kernel_rfl) (by kernel_rfl) ?_ (fun a w hF hS => ?_)
        · exact obs_nil
        refine at_do (d := 7) (s := vS (Instr.alloc 24 true (.tuple #[]))) (v := .pointer (some ⟨w.heap.size, 0, none⟩)) (w' := w.alloc (.cells #[.int .i64 0, .int .i64 0, .slice none 0 0] 24)) hF (by kernel_rfl) (by kernel_rfl) (by kernel_rfl) (fun a hF => ?_)
        have hS : Sep w0 B (w.alloc (.cells #[.int .i64 0, .int .i64 0, .slice none 0 0] 24)) (blk w.heap.size 24 #[.int .i64 0, .int .i64 0, .slice none 0 0] :: (own 3 (.slice A4 r1.2.2.1.length c4) (vI r1.2.2.1) :: blk g4 24 #[.int .i64 g1, .int .i64 g2, .slice A1 g3.length c1] :: own 3 (.slice A2 l1.length c2) (vI l1) :: fs)) := hS.box 24 #[.int .i64 0, .int .i64 0, .slice none 0 0]
        generalize w.heap.size = g5 at hF hS
        generalize w.alloc (.cells #[.int .i64 0, .int .i64 0, .slice none 0 0] 24) = w at hS ⊢
        obtain ⟨w, hrun, hS⟩ := run_putA (P := Try.prog) (t := 24) (us := #[.int .i64 r1.1, .int .i64 r1.2.1, .slice A4 r1.2.2.1.length c4]) (o := 0) (hS.at_ 0 rfl) (by kernel_rfl) (all_one (by kernel_rfl)) (Nat.le_of_ble_eq_true (by kernel_rfl))
        refine at_skip hF (by kernel_rfl) hrun ?_
        have hS : Sep w0 B w (blk g5 24 #[.int .i64 r1.1, .int .i64 r1.2.1, .slice A4 r1.2.2.1.length c4] :: own 3 (.slice A4 r1.2.2.1.length c4) (vI r1.2.2.1) :: blk g4 24 #[.int .i64 g1, .int .i64 g2, .slice A1 g3.length c1] :: own 3 (.slice A2 l1.length c2) (vI l1) :: fs) := hS
        refine at_run 1 [] [] [1, 2, 5, 6, 8] [pl 1 (.int .i64 who1), pl 2 (.pointer (some ⟨g4, 0, none⟩)), pl 5 (.slice A2 l1.length c2), pl 6 (.int .i64 i1), pl 8 (.int .i64 r1.2.2.2)] hF hS (by kernel_rfl) (by kernel_rfl) ?_ (fun a w hF hS => ?_)
        · exact obs_nil
        refine at_end [1, 2, 5, 6, 8] [pl 1 (.int .i64 who1), pl 2 (.pointer (some ⟨g4, 0, none⟩)), pl 5 (.slice A2 l1.length c2), pl 6 (.int .i64 i1), pl 8 (.int .i64 r1.2.2.2)] hF rfl (by kernel_rfl) (fun hF => ?_)
        refine then_n ?_
        refine reg [] [] [1, 2, 5, 6, 24] [pl 1 (.int .i64 who1), pl 2 (.pointer (some ⟨g4, 0, none⟩)), pl 5 (.slice A2 l1.length c2), pl 6 (.int .i64 i1), pl 24 (.bool (decide ((0 : Int) < r1.2.2.2)))] hF hS Fol (by kernel_rfl) (by kernel_rfl) (by kernel_rfl) ?_ (fun a w hF hS => ?_)
        · exact obs_nil
        refine cond_ev (t := 24) (b := decide ((0 : Int) < r1.2.2.2)) hF (by kernel_rfl) (fun hb => ?_) (fun hb => ?_)
        · replace hm := if_t hm hb
          refine oneR ?_
          obtain ⟨hp1, hm⟩ := asrt_b hm
          refine at_run 2 [] [] [1, 2, 6, 25, 26] [pl 1 (.int .i64 who1), pl 2 (.pointer (some ⟨g4, 0, none⟩)), pl 6 (.int .i64 i1), pl 25 (.slice A2 l1.length c2), pl 26 (.int .i64 i1)] hF hS (by kernel_rfl) (by kernel_rfl) ?_ (fun a w hF hS => ?_)
          · exact obs_nil
          refine at_do (d := 27) (s := vS (Instr.buildSlice 22 1 #[(0, .int .i64 i1)])) (v := .slice (some ⟨w.heap.size, 0, none⟩) 1 1) (w' := w.alloc (.cells #[.int .i64 i1] 3)) hF (by kernel_rfl) (by kernel_rfl) (by kernel_rfl) (fun a hF => ?_)
          have hS : Sep w0 B (w.alloc (.cells #[.int .i64 i1] 3)) (own 3 (.slice (some (⟨w.heap.size, 0, none⟩ : Addr)) 1 1) (vI ([i1] : List Int)) :: (blk g5 24 #[.int .i64 r1.1, .int .i64 r1.2.1, .slice A4 r1.2.2.1.length c4] :: own 3 (.slice A4 r1.2.2.1.length c4) (vI r1.2.2.1) :: blk g4 24 #[.int .i64 g1, .int .i64 g2, .slice A1 g3.length c1] :: own 3 (.slice A2 l1.length c2) (vI l1) :: fs)) := hS.lit 3 #[.int .i64 i1] 1 rfl (by omega)
          generalize (some (⟨w.heap.size, 0, none⟩ : Addr)) = g6 at hF hS
          generalize w.alloc (.cells #[.int .i64 i1] 3) = w at hS ⊢
          obtain ⟨A5, c5, w, hrun, hS⟩ := run_app1 (P := Try.prog) (t := 22) (m := l1) (ys := ([i1] : List Int)) (A2 := g6) (m2 := 1) (c2 := 1) (Value.int .i64) (0 : Int) (hS.at_ 4 rfl) (hS.at_ 0 rfl).rd ((hS.at_ 0 rfl).len1) 22 Und22 hi3 hz3 hs3 (by omega) rfl (fun _ => rfl) hp1
          have hS : Sep w0 B w (own 3 (.slice g6 1 1) (vI ([i1] : List Int)) :: blk g5 24 #[.int .i64 r1.1, .int .i64 r1.2.1, .slice A4 r1.2.2.1.length c4] :: own 3 (.slice A4 r1.2.2.1.length c4) (vI r1.2.2.1) :: blk g4 24 #[.int .i64 g1, .int .i64 g2, .slice A1 g3.length c1] :: own 3 (.slice A5 ((l1 ++ ([i1] : List Int)).length) c5) (vI (l1 ++ ([i1] : List Int))) :: fs) := hS
          refine at_do (d := 28) hF (by kernel_rfl) (by kernel_rfl) hrun (fun a hF => ?_)
          refine at_run 1 [] [] [1, 2, 5, 6] [pl 1 (.int .i64 who1), pl 2 (.pointer (some ⟨g4, 0, none⟩)), pl 5 (.slice A5 ((l1 ++ ([i1] : List Int)).length) c5), pl 6 (.int .i64 i1)] hF hS (by kernel_rfl) (by kernel_rfl) ?_ (fun a w hF hS => ?_)
          · exact obs_nil
          refine at_end [1, 2, 5, 6] [pl 1 (.int .i64 who1), pl 2 (.pointer (some ⟨g4, 0, none⟩)), pl 5 (.slice A5 ((l1 ++ ([i1] : List Int)).length) c5), pl 6 (.int .i64 i1)] hF rfl (by kernel_rfl) (fun hF => ?_)
          refine block_n ?_
          refine then_n ?_
          have hS := hS.pickN 5 [3, 4] (by decide)
          exact ⟨(l1 ++ ([i1] : List Int)), A5, c5, hF.weak [1, 2, 5, 6] (by kernel_rfl), hS, hm⟩
        · replace hm := if_f hm hb
          refine wp_skip ?_
          refine block_n ?_
          refine then_n ?_
          have hS := hS.pickN 4 [2, 3] (by decide)
          exact ⟨l1, A2, c2, hF.weak [1, 2, 5, 6] (by kernel_rfl), hS, hm⟩
    · refine reg [⟨false, [], vS (Instr.loadAt 22 (.pointer (some ⟨g4, 2, none⟩))), .slice A1 g3.length c1⟩] [none, none, some (.slice A1 g3.length c1), none, none] [1, 2, 5, 6, 13] [pl 1 (.int .i64 who1), pl 2 (.pointer (some ⟨g4, 0, none⟩)), pl 5 (.slice A2 l1.length c2), pl 6 (.int .i64 i1), pl 13 (.bool (decide (i1 < (g3.length : Int))))] hF hS Fol (by kernel_rfl) (by kernel_rfl) (by kernel_rfl) ?_ (fun a w hF hS => ?_)
      · exact obs_cons (ob_load Agg22 (fun _ _ hS => (hS.at_ 0 rfl).cell rfl)) <| obs_nil
      refine cond_ev (t := 13) (b := decide (i1 < (g3.length : Int))) hF (by kernel_rfl) (fun hb => ?_) (fun hb => ?_)
      · replace hm := if_t hm hb
        refine wp_skip ?_
        refine then_n ?_
        exact ⟨hF.weak [1, 2, 5, 6] (by kernel_rfl), hS, hm⟩
      · replace hm := if_f hm hb
        refine wp_exit ?_
        refine then_e (then_e (block_e (then_n ?_)))
        have hS := hS.pickN 2 [1] (by decide)
        rw [← hφ1] at hm
        replace hm := done_b hm
        unfold gameroomref_SignPlaces_K1 at hm
        try dsimp only at hm
        have hm : (gameroomref_SignPlaces_J1 l1).bind some = some r := hm
        exact ⟨l1, A2, c2, hF.weak [5] (by kernel_rfl), hS, hm⟩

noncomputable def gameroomref_OthelloNext_J2 : Option Int :=
  some 0

noncomputable def gameroomref_OthelloNext_J1 (g1 : Int) (g2 : Int) (g3 : List Int) (who1 : Int) : Option Int :=
  (gameroomref_SignPlaces_m g1 g2 g3 who1).bind fun r2 => if (decide ((0 : Int) < (r2.length : Int))) then (some who1) else (gameroomref_OthelloNext_J2)

noncomputable def gameroomref_OthelloNext_m (g1 : Int) (g2 : Int) (g3 : List Int) (who1 : Int) : Option Int :=
  (gameroomref_SignPlaces_m g1 g2 g3 (w64 (3 - who1))).bind fun r1 => if (decide ((0 : Int) < (r1.length : Int))) then (some (w64 (3 - who1))) else ((gameroomref_OthelloNext_J1 g1 g2 g3 who1))

set_option maxRecDepth 100000 in
set_option maxHeartbeats 4000000 in
theorem gameroomref_OthelloNext_w {g1 : Int} {g2 : Int} {A1 : Option Addr} {c1 : Nat} {n1 : Nat} {g3 : List Int} {who1 : Int} {r : Int} {w0 w : World} {B : Nat} {fs : List HP} (hm : gameroomref_OthelloNext_m g1 g2 g3 who1 = some r) (hS : Sep w0 B w (fs)) (hr_g3 : RdF w0 B fs A1 (vI g3)) (_hc_g3 : g3.length ≤ c1) (_hn_g3 : n1 = g3.length) :
    Calls Try.prog 22 #[.agg #[.int .i64 g1, .int .i64 g2, .slice A1 n1 c1], .int .i64 who1] w fun e w' => e = .returned (.int .i64 r) ∧ Sep w0 B w' (fs) := by
  obtain ⟨i3, hi3, hz3, hs3, hb3⟩ := info_parts Info3
  obtain rfl := _hn_g3
  unfold gameroomref_OthelloNext_m at hm
  replace hm := start_b hm
  refine enter (l := [.agg #[.int .i64 g1, .int .i64 g2, .slice A1 g3.length c1], .int .i64 who1]) (n := 19) Try.func22 rfl rfl (by simp) (fun a hF => ?_)
  refine seqR ?_
  refine at_do (d := 2) (s := vS (Instr.box 24 (.agg #[.int .i64 g1, .int .i64 g2, .slice A1 g3.length c1]))) (v := .pointer (some ⟨w.heap.size, 0, none⟩)) (w' := w.alloc (.cells #[.int .i64 g1, .int .i64 g2, .slice A1 g3.length c1] 24)) hF (by kernel_rfl) (by kernel_rfl) (by kernel_rfl) (fun a hF => ?_)
  have hS : Sep w0 B (w.alloc (.cells #[.int .i64 g1, .int .i64 g2, .slice A1 g3.length c1] 24)) (blk w.heap.size 24 #[.int .i64 g1, .int .i64 g2, .slice A1 g3.length c1] :: (fs)) := hS.box 24 #[.int .i64 g1, .int .i64 g2, .slice A1 g3.length c1]
  generalize w.heap.size = g4 at hF hS
  generalize w.alloc (.cells #[.int .i64 g1, .int .i64 g2, .slice A1 g3.length c1] 24) = w at hS ⊢
  refine at_run 1 [] [] [1, 2] [pl 1 (.int .i64 who1), pl 2 (.pointer (some ⟨g4, 0, none⟩))] hF hS (by kernel_rfl) (by kernel_rfl) ?_ (fun a w hF hS => ?_)
  · exact obs_nil
  refine at_end [1, 2] [pl 1 (.int .i64 who1), pl 2 (.pointer (some ⟨g4, 0, none⟩))] hF rfl (by kernel_rfl) (fun hF => ?_)
  refine then_n ?_
  refine seq_cut (fun a w => Fr 19 [pl 1 (.int .i64 who1), pl 2 (.pointer (some ⟨g4, 0, none⟩))] a ∧ Sep w0 B w (blk g4 24 #[.int .i64 g1, .int .i64 g2, .slice A1 g3.length c1] :: fs) ∧ ((gameroomref_OthelloNext_J1 g1 g2 g3 who1)).bind some = some r) ?_ ?_
  · rintro a w ⟨hF, hS, hm⟩
    unfold gameroomref_OthelloNext_J1 at hm
    refine seq_cut (fun a w => Fr 19 [] a ∧ Sep w0 B w (fs) ∧ (gameroomref_OthelloNext_J2).bind some = some r) ?_ ?_
    · rintro a w ⟨hF, hS, hm⟩
      unfold gameroomref_OthelloNext_J2 at hm
      refine reg [] [] [4] [pl 4 (.int .i64 0)] hF hS Fol (by kernel_rfl) (by kernel_rfl) (by kernel_rfl) ?_ (fun a w hF hS => ?_)
      · exact obs_nil
      refine wp_ret ?_
      have hm : some 0 = some r := hm
      obtain rfl := Option.some.inj hm
      exact retV (rs := [.tmp 4]) (vs := [.int .i64 0]) hF rfl (rv_t (by kernel_rfl) <| rv_nil) rfl ⟨rfl, hS⟩
    · refine seqR ?_
      obtain ⟨r2, hr2, hm⟩ := call_b hm
      refine at_run 2 [⟨false, [], vS (Instr.loadAt 24 (.pointer (some ⟨g4, 0, none⟩))), .agg #[.int .i64 g1, .int .i64 g2, .slice A1 g3.length c1]⟩] [some (.agg #[.int .i64 g1, .int .i64 g2, .slice A1 g3.length c1]), none] [1, 13, 14] [pl 1 (.int .i64 who1), pl 13 (.agg #[.int .i64 g1, .int .i64 g2, .slice A1 g3.length c1]), pl 14 (.int .i64 who1)] hF hS (by kernel_rfl) (by kernel_rfl) ?_ (fun a w hF hS => ?_)
      · exact obs_cons (ob_loadA (cs := #[.int .i64 g1, .int .i64 g2, .slice A1 g3.length c1]) (by kernel_rfl) (by kernel_rfl) (fun _ _ hS => (hS.at_ 0 rfl).cellsAt 0 (by rfl))) <| obs_nil
      refine at_call (f := 21) (args := #[.agg #[.int .i64 g1, .int .i64 g2, .slice A1 g3.length c1], .int .i64 who1]) (d := 15) hF (by kernel_rfl) (by kernel_rfl) Try.func21 (by kernel_rfl) rfl (gameroomref_SignPlaces_w hr2 hS (fun _ hS => (hr_g3 _ (hS.dropN 1))) _hc_g3 rfl) (fun v a w hR hF => ?_)
      clear hS
      obtain ⟨A3, c3, rfl, hS⟩ := hR
      have hS : Sep w0 B w (own 3 (.slice A3 r2.length c3) (vI r2) :: blk g4 24 #[.int .i64 g1, .int .i64 g2, .slice A1 g3.length c1] :: fs) := hS
      refine at_run 2 [] [] [1, 17] [pl 1 (.int .i64 who1), pl 17 (.bool (decide ((0 : Int) < (r2.length : Int))))] hF hS (by kernel_rfl) (by kernel_rfl) ?_ (fun a w hF hS => ?_)
      · exact obs_nil
      refine at_end [1, 17] [pl 1 (.int .i64 who1), pl 17 (.bool (decide ((0 : Int) < (r2.length : Int))))] hF rfl (by kernel_rfl) (fun hF => ?_)
      refine then_n ?_
      refine cond_ev (t := 17) (b := decide ((0 : Int) < (r2.length : Int))) hF (by kernel_rfl) (fun hb => ?_) (fun hb => ?_)
      · replace hm := if_t hm hb
        refine reg [] [] [4] [pl 4 (.int .i64 who1)] hF hS Fol (by kernel_rfl) (by kernel_rfl) (by kernel_rfl) ?_ (fun a w hF hS => ?_)
        · exact obs_nil
        refine wp_ret ?_
        refine then_r ?_
        have hS := hS.pickN 2 [] (by decide)
        have hm : some who1 = some r := hm
        obtain rfl := Option.some.inj hm
        exact retV (rs := [.tmp 4]) (vs := [.int .i64 who1]) hF rfl (rv_t (by kernel_rfl) <| rv_nil) rfl ⟨rfl, hS⟩
      · replace hm := if_f hm hb
        refine wp_skip ?_
        refine then_n ?_
        have hS := hS.pickN 2 [] (by decide)
        exact ⟨hF.weak [] (by kernel_rfl), hS, hm⟩
  · refine seqR ?_
    obtain ⟨r1, hr1, hm⟩ := call_b hm
    refine at_run 3 [⟨false, [], vS (Instr.loadAt 24 (.pointer (some ⟨g4, 0, none⟩))), .agg #[.int .i64 g1, .int .i64 g2, .slice A1 g3.length c1]⟩] [some (.agg #[.int .i64 g1, .int .i64 g2, .slice A1 g3.length c1]), none, none] [1, 2, 5, 7] [pl 1 (.int .i64 who1), pl 2 (.pointer (some ⟨g4, 0, none⟩)), pl 5 (.agg #[.int .i64 g1, .int .i64 g2, .slice A1 g3.length c1]), pl 7 (.int .i64 (w64 (3 - who1)))] hF hS (by kernel_rfl) (by kernel_rfl) ?_ (fun a w hF hS => ?_)
    · exact obs_cons (ob_loadA (cs := #[.int .i64 g1, .int .i64 g2, .slice A1 g3.length c1]) (by kernel_rfl) (by kernel_rfl) (fun _ _ hS => (hS.at_ 0 rfl).cellsAt 0 (by rfl))) <| obs_nil
    refine at_call (f := 21) (args := #[.agg #[.int .i64 g1, .int .i64 g2, .slice A1 g3.length c1], .int .i64 (w64 (3 - who1))]) (d := 8) hF (by kernel_rfl) (by kernel_rfl) Try.func21 (by kernel_rfl) rfl (gameroomref_SignPlaces_w hr1 hS (fun _ hS => (hr_g3 _ (hS.dropN 1))) _hc_g3 rfl) (fun v a w hR hF => ?_)
    clear hS
    obtain ⟨A2, c2, rfl, hS⟩ := hR
    have hS : Sep w0 B w (own 3 (.slice A2 r1.length c2) (vI r1) :: blk g4 24 #[.int .i64 g1, .int .i64 g2, .slice A1 g3.length c1] :: fs) := hS
    refine at_run 2 [] [] [1, 2, 10] [pl 1 (.int .i64 who1), pl 2 (.pointer (some ⟨g4, 0, none⟩)), pl 10 (.bool (decide ((0 : Int) < (r1.length : Int))))] hF hS (by kernel_rfl) (by kernel_rfl) ?_ (fun a w hF hS => ?_)
    · exact obs_nil
    refine at_end [1, 2, 10] [pl 1 (.int .i64 who1), pl 2 (.pointer (some ⟨g4, 0, none⟩)), pl 10 (.bool (decide ((0 : Int) < (r1.length : Int))))] hF rfl (by kernel_rfl) (fun hF => ?_)
    refine then_n ?_
    refine cond_ev (t := 10) (b := decide ((0 : Int) < (r1.length : Int))) hF (by kernel_rfl) (fun hb => ?_) (fun hb => ?_)
    · replace hm := if_t hm hb
      refine reg [] [] [4] [pl 4 (.int .i64 (w64 (3 - who1)))] hF hS Fol (by kernel_rfl) (by kernel_rfl) (by kernel_rfl) ?_ (fun a w hF hS => ?_)
      · exact obs_nil
      refine wp_ret ?_
      refine then_r ?_
      have hS := hS.pickN 2 [] (by decide)
      have hm : some (w64 (3 - who1)) = some r := hm
      obtain rfl := Option.some.inj hm
      exact retV (rs := [.tmp 4]) (vs := [.int .i64 (w64 (3 - who1))]) hF rfl (rv_t (by kernel_rfl) <| rv_nil) rfl ⟨rfl, hS⟩
    · replace hm := if_f hm hb
      refine wp_skip ?_
      refine then_n ?_
      have hS := hS.pickN 2 [1] (by decide)
      exact ⟨hF.weak [1, 2] (by kernel_rfl), hS, hm⟩

noncomputable def gameroomlaw_OthelloPuts_J8 (r5 : (Int × Int × List Int × Int)) (r20 : (Int × Int × List Int × Int)) : Option Bool :=
  ((if (r5.2.2.2 == 0) then gameroomref_SameGrid_m r5.1 r5.2.1 r5.2.2.1 r20.1 r20.2.1 r20.2.2.1 else some false)).bind fun r22 => some ((r5.2.2.2 == 0) && r22)

noncomputable def gameroomlaw_OthelloPuts_J7 (g1 : Int) (g2 : Int) (g3 : List Int) (who1 : Int) (place1 : Int) (r5 : (Int × Int × List Int × Int)) : Option Bool :=
  (gameroomref_PutSign_m g1 g2 g3 who1 place1).bind fun r20 => if (r20.2.2.2 == 0) then (((if (r5.2.2.2 == 8) then gameroomlaw_noGrid_m r5.1 r5.2.1 r5.2.2.1 else some false)).bind fun r21 => some ((r5.2.2.2 == 8) && r21)) else ((gameroomlaw_OthelloPuts_J8 r5 r20))

noncomputable def gameroomlaw_OthelloPuts_J5 (g1 : Int) (g2 : Int) (g3 : List Int) (who1 : Int) (place1 : Int) (r5 : (Int × Int × List Int × Int)) : Option Bool :=
  if ((decide (place1 < 0)) || (decide ((g3.length : Int) ≤ place1))) then (((if (r5.2.2.2 == 3) then gameroomlaw_noGrid_m r5.1 r5.2.1 r5.2.2.1 else some false)).bind fun r19 => some ((r5.2.2.2 == 3) && r19)) else ((gameroomlaw_OthelloPuts_J7 g1 g2 g3 who1 place1 r5))

noncomputable def gameroomlaw_OthelloPuts_J6 (g1 : Int) (g2 : Int) (g3 : List Int) (who1 : Int) (place1 : Int) (r5 : (Int × Int × List Int × Int)) (z2 : Bool) : Option Bool :=
  if z2 then (some false) else ((gameroomlaw_OthelloPuts_J5 g1 g2 g3 who1 place1 r5))

noncomputable def gameroomlaw_OthelloPuts_J4 (g1 : Int) (g2 : Int) (g3 : List Int) (who1 : Int) (place1 : Int) (r3 : (List Int × Int)) (r5 : (Int × Int × List Int × Int)) (r7 : (Int × Int)) : Option Bool :=
  if (r3.2 != 0) then (((if (!(r3.2 != 0)) then gameroomlaw_sameInts_m r3.1 ([] : List Int) else some false)).bind fun r14 => ((if (!(((r3.2 != 0) || (!r14)) || (r7.2 != 0))) then gameroomref_OthelloNext_m g1 g2 g3 who1 else some 0)).bind fun r15 => (gameroomlaw_OthelloPuts_J6 g1 g2 g3 who1 place1 r5) ((((r3.2 != 0) || (!r14)) || (r7.2 != 0)) || (r7.1 != r15))) else ((gameroomref_SignPlaces_m g1 g2 g3 who1).bind fun r16 => ((if (!(r3.2 != 0)) then gameroomlaw_sameInts_m r3.1 r16 else some false)).bind fun r17 => ((if (!(((r3.2 != 0) || (!r17)) || (r7.2 != 0))) then gameroomref_OthelloNext_m g1 g2 g3 who1 else some 0)).bind fun r18 => (gameroomlaw_OthelloPuts_J6 g1 g2 g3 who1 place1 r5) ((((r3.2 != 0) || (!r17)) || (r7.2 != 0)) || (r7.1 != r18)))

noncomputable def gameroomlaw_OthelloPuts_J3 (g1 : Int) (g2 : Int) (g3 : List Int) (who1 : Int) (place1 : Int) (r3 : (List Int × Int)) (r5 : (Int × Int × List Int × Int)) (r7 : (Int × Int)) (no1 : Int) : Option Bool :=
  if (no1 != 0) then (((if ((((r3.2 == no1) && (r5.2.2.2 == no1)) && (r7.2 == no1)) && ((r3.1.length : Int) == 0)) then gameroomlaw_noGrid_m r5.1 r5.2.1 r5.2.2.1 else some false)).bind fun r13 => some ((((((r3.2 == no1) && (r5.2.2.2 == no1)) && (r7.2 == no1)) && ((r3.1.length : Int) == 0)) && r13) && (r7.1 == 0))) else ((gameroomlaw_OthelloPuts_J4 g1 g2 g3 who1 place1 r3 r5 r7))

noncomputable def gameroomlaw_OthelloPuts_J1 (g1 : Int) (g2 : Int) (g3 : List Int) (who1 : Int) (place1 : Int) (r3 : (List Int × Int)) (r5 : (Int × Int × List Int × Int)) (r7 : (Int × Int)) : Option Bool :=
  (gameroomref_OthelloMay_m g1 g2 g3).bind fun r12 => if (!r12) then ((gameroomlaw_OthelloPuts_J3 g1 g2 g3 who1 place1 r3 r5 r7) 12) else (if ((who1 != 1) && (who1 != 2)) then ((gameroomlaw_OthelloPuts_J3 g1 g2 g3 who1 place1 r3 r5 r7) 4) else ((gameroomlaw_OthelloPuts_J3 g1 g2 g3 who1 place1 r3 r5 r7) 0))

noncomputable def gameroomlaw_OthelloPuts_J2 (g1 : Int) (g2 : Int) (g3 : List Int) (who1 : Int) (place1 : Int) (r3 : (List Int × Int)) (r5 : (Int × Int × List Int × Int)) (r7 : (Int × Int)) (z1 : Bool) : Option Bool :=
  if z1 then (some false) else ((gameroomlaw_OthelloPuts_J1 g1 g2 g3 who1 place1 r3 r5 r7))

noncomputable def gameroomlaw_OthelloPuts_m (g1 : Int) (g2 : Int) (g3 : List Int) (who1 : Int) (place1 : Int) (w1 : Int) (h1 : Int) : Option Bool :=
  (othello_New_m w1 h1).bind fun r1 => (gameroomref_GridOf_m g1 g2 g3).bind fun r2 => (othello_Places_m r2.1 r2.2.1 r2.2.2 who1).bind fun r3 => (gameroomref_GridOf_m g1 g2 g3).bind fun r4 => (othello_Put_m r4.1 r4.2.1 r4.2.2 who1 place1).bind fun r5 => (gameroomref_GridOf_m g1 g2 g3).bind fun r6 => (othello_Next_m r6.1 r6.2.1 r6.2.2 who1).bind fun r7 => if ((((((decide (w1 < 4)) || (decide ((8 : Int) < w1))) || (decide (h1 < 4))) || (decide ((8 : Int) < h1))) || ((Int.tmod w1 2) == 1)) || ((Int.tmod h1 2) == 1)) then (((if (!(r1.2.2.2 != 3)) then gameroomlaw_noGrid_m r1.1 r1.2.1 r1.2.2.1 else some false)).bind fun r8 => if ((r1.2.2.2 != 3) || (!r8)) then (some false) else ((gameroomlaw_OthelloPuts_J1 g1 g2 g3 who1 place1 r3 r5 r7))) else (if (r1.2.2.2 != 0) then (((if (!(r1.2.2.2 != 0)) then gameroomref_SameGrid_m r1.1 r1.2.1 r1.2.2.1 0 0 ([] : List Int) else some false)).bind fun r9 => (gameroomlaw_OthelloPuts_J2 g1 g2 g3 who1 place1 r3 r5 r7) ((r1.2.2.2 != 0) || (!r9))) else ((gameroomref_OthelloNew_m w1 h1).bind fun r10 => ((if (!(r1.2.2.2 != 0)) then gameroomref_SameGrid_m r1.1 r1.2.1 r1.2.2.1 r10.1 r10.2.1 r10.2.2 else some false)).bind fun r11 => (gameroomlaw_OthelloPuts_J2 g1 g2 g3 who1 place1 r3 r5 r7) ((r1.2.2.2 != 0) || (!r11))))

set_option maxRecDepth 100000 in
set_option maxHeartbeats 4000000 in
theorem gameroomlaw_OthelloPuts_w {g1 : Int} {g2 : Int} {A1 : Option Addr} {c1 : Nat} {n1 : Nat} {g3 : List Int} {who1 : Int} {place1 : Int} {w1 : Int} {h1 : Int} {r : Bool} {w0 w : World} {B : Nat} {fs : List HP} (hm : gameroomlaw_OthelloPuts_m g1 g2 g3 who1 place1 w1 h1 = some r) (hS : Sep w0 B w (fs)) (hr_g3 : RdF w0 B fs A1 (vI g3)) (_hc_g3 : g3.length ≤ c1) (_hn_g3 : n1 = g3.length) :
    Calls Try.prog 3 #[.agg #[.int .i64 g1, .int .i64 g2, .slice A1 n1 c1], .int .i64 who1, .int .i64 place1, .int .i64 w1, .int .i64 h1] w fun e w' => e = .returned (.bool r) ∧ Sep w0 B w' (fs) := by
  obtain ⟨i3, hi3, hz3, hs3, hb3⟩ := info_parts Info3
  obtain rfl := _hn_g3
  unfold gameroomlaw_OthelloPuts_m at hm
  replace hm := start_b hm
  refine enter (l := [.agg #[.int .i64 g1, .int .i64 g2, .slice A1 g3.length c1], .int .i64 who1, .int .i64 place1, .int .i64 w1, .int .i64 h1]) (n := 186) Try.func3 rfl rfl (by simp) (fun a hF => ?_)
  refine seqR ?_
  refine at_do (d := 5) (s := vS (Instr.box 24 (.agg #[.int .i64 g1, .int .i64 g2, .slice A1 g3.length c1]))) (v := .pointer (some ⟨w.heap.size, 0, none⟩)) (w' := w.alloc (.cells #[.int .i64 g1, .int .i64 g2, .slice A1 g3.length c1] 24)) hF (by kernel_rfl) (by kernel_rfl) (by kernel_rfl) (fun a hF => ?_)
  have hS : Sep w0 B (w.alloc (.cells #[.int .i64 g1, .int .i64 g2, .slice A1 g3.length c1] 24)) (blk w.heap.size 24 #[.int .i64 g1, .int .i64 g2, .slice A1 g3.length c1] :: (fs)) := hS.box 24 #[.int .i64 g1, .int .i64 g2, .slice A1 g3.length c1]
  generalize w.heap.size = g4 at hF hS
  generalize w.alloc (.cells #[.int .i64 g1, .int .i64 g2, .slice A1 g3.length c1] 24) = w at hS ⊢
  refine at_run 1 [] [] [1, 2, 3, 4, 5] [pl 1 (.int .i64 who1), pl 2 (.int .i64 place1), pl 3 (.int .i64 w1), pl 4 (.int .i64 h1), pl 5 (.pointer (some ⟨g4, 0, none⟩))] hF hS (by kernel_rfl) (by kernel_rfl) ?_ (fun a w hF hS => ?_)
  · exact obs_nil
  refine at_end [1, 2, 3, 4, 5] [pl 1 (.int .i64 who1), pl 2 (.int .i64 place1), pl 3 (.int .i64 w1), pl 4 (.int .i64 h1), pl 5 (.pointer (some ⟨g4, 0, none⟩))] hF rfl (by kernel_rfl) (fun hF => ?_)
  refine then_n ?_
  refine seqR ?_
  obtain ⟨r1, hr1, hm⟩ := call_b hm
  refine at_run 2 [] [] [1, 2, 3, 4, 5, 23, 24] [pl 1 (.int .i64 who1), pl 2 (.int .i64 place1), pl 3 (.int .i64 w1), pl 4 (.int .i64 h1), pl 5 (.pointer (some ⟨g4, 0, none⟩)), pl 23 (.int .i64 w1), pl 24 (.int .i64 h1)] hF hS (by kernel_rfl) (by kernel_rfl) ?_ (fun a w hF hS => ?_)
  · exact obs_nil
  refine at_call (f := 11) (args := #[.int .i64 w1, .int .i64 h1]) (d := 25) hF (by kernel_rfl) (by kernel_rfl) Try.func11 (by kernel_rfl) rfl (othello_New_w hr1 hS ) (fun v a w hR hF => ?_)
  clear hS
  obtain ⟨A2, c2, rfl, hS⟩ := hR
  have hS : Sep w0 B w (own 3 (.slice A2 r1.2.2.1.length c2) (vI r1.2.2.1) :: blk g4 24 #[.int .i64 g1, .int .i64 g2, .slice A1 g3.length c1] :: fs) := hS
  refine at_run 3 [] [] [1, 2, 3, 4, 5, 26, 27] [pl 1 (.int .i64 who1), pl 2 (.int .i64 place1), pl 3 (.int .i64 w1), pl 4 (.int .i64 h1), pl 5 (.pointer (some ⟨g4, 0, none⟩)), pl 26 (.agg #[.int .i64 r1.1, .int .i64 r1.2.1, .slice A2 r1.2.2.1.length c2]), pl 27 (.int .i64 r1.2.2.2)] hF hS (by kernel_rfl) (by kernel_rfl) ?_ (fun a w hF hS => ?_)
  · exact obs_nil
  refine at_do (d := 11) (s := vS (Instr.alloc 24 true (.tuple #[]))) (v := .pointer (some ⟨w.heap.size, 0, none⟩)) (w' := w.alloc (.cells #[.int .i64 0, .int .i64 0, .slice none 0 0] 24)) hF (by kernel_rfl) (by kernel_rfl) (by kernel_rfl) (fun a hF => ?_)
  have hS : Sep w0 B (w.alloc (.cells #[.int .i64 0, .int .i64 0, .slice none 0 0] 24)) (blk w.heap.size 24 #[.int .i64 0, .int .i64 0, .slice none 0 0] :: (own 3 (.slice A2 r1.2.2.1.length c2) (vI r1.2.2.1) :: blk g4 24 #[.int .i64 g1, .int .i64 g2, .slice A1 g3.length c1] :: fs)) := hS.box 24 #[.int .i64 0, .int .i64 0, .slice none 0 0]
  generalize w.heap.size = g5 at hF hS
  generalize w.alloc (.cells #[.int .i64 0, .int .i64 0, .slice none 0 0] 24) = w at hS ⊢
  obtain ⟨w, hrun, hS⟩ := run_putA (P := Try.prog) (t := 24) (us := #[.int .i64 r1.1, .int .i64 r1.2.1, .slice A2 r1.2.2.1.length c2]) (o := 0) (hS.at_ 0 rfl) (by kernel_rfl) (all_one (by kernel_rfl)) (Nat.le_of_ble_eq_true (by kernel_rfl))
  refine at_skip hF (by kernel_rfl) hrun ?_
  have hS : Sep w0 B w (blk g5 24 #[.int .i64 r1.1, .int .i64 r1.2.1, .slice A2 r1.2.2.1.length c2] :: own 3 (.slice A2 r1.2.2.1.length c2) (vI r1.2.2.1) :: blk g4 24 #[.int .i64 g1, .int .i64 g2, .slice A1 g3.length c1] :: fs) := hS
  refine at_run 1 [] [] [1, 2, 3, 4, 5, 11, 12] [pl 1 (.int .i64 who1), pl 2 (.int .i64 place1), pl 3 (.int .i64 w1), pl 4 (.int .i64 h1), pl 5 (.pointer (some ⟨g4, 0, none⟩)), pl 11 (.pointer (some ⟨g5, 0, none⟩)), pl 12 (.int .i64 r1.2.2.2)] hF hS (by kernel_rfl) (by kernel_rfl) ?_ (fun a w hF hS => ?_)
  · exact obs_nil
  refine at_end [1, 2, 3, 4, 5, 11, 12] [pl 1 (.int .i64 who1), pl 2 (.int .i64 place1), pl 3 (.int .i64 w1), pl 4 (.int .i64 h1), pl 5 (.pointer (some ⟨g4, 0, none⟩)), pl 11 (.pointer (some ⟨g5, 0, none⟩)), pl 12 (.int .i64 r1.2.2.2)] hF rfl (by kernel_rfl) (fun hF => ?_)
  refine then_n ?_
  refine seqR ?_
  obtain ⟨r2, hr2, hm⟩ := call_b hm
  obtain ⟨r3, hr3, hm⟩ := call_b hm
  refine at_run 1 [⟨false, [], vS (Instr.loadAt 24 (.pointer (some ⟨g4, 0, none⟩))), .agg #[.int .i64 g1, .int .i64 g2, .slice A1 g3.length c1]⟩] [some (.agg #[.int .i64 g1, .int .i64 g2, .slice A1 g3.length c1])] [1, 2, 3, 4, 5, 11, 12, 29] [pl 1 (.int .i64 who1), pl 2 (.int .i64 place1), pl 3 (.int .i64 w1), pl 4 (.int .i64 h1), pl 5 (.pointer (some ⟨g4, 0, none⟩)), pl 11 (.pointer (some ⟨g5, 0, none⟩)), pl 12 (.int .i64 r1.2.2.2), pl 29 (.agg #[.int .i64 g1, .int .i64 g2, .slice A1 g3.length c1])] hF hS (by kernel_rfl) (by kernel_rfl) ?_ (fun a w hF hS => ?_)
  · exact obs_cons (ob_loadA (cs := #[.int .i64 g1, .int .i64 g2, .slice A1 g3.length c1]) (by kernel_rfl) (by kernel_rfl) (fun _ _ hS => (hS.at_ 2 rfl).cellsAt 0 (by rfl))) <| obs_nil
  refine at_call (f := 13) (args := #[.agg #[.int .i64 g1, .int .i64 g2, .slice A1 g3.length c1]]) (d := 30) hF (by kernel_rfl) (by kernel_rfl) Try.func13 (by kernel_rfl) rfl (gameroomref_GridOf_w hr2 hS (fun _ hS => (hr_g3 _ (hS.dropN 3))) _hc_g3 rfl) (fun v a w hR hF => ?_)
  clear hS
  obtain ⟨A3, c3, rfl, hS⟩ := hR
  have hS : Sep w0 B w (own 3 (.slice A3 r2.2.2.length c3) (vI r2.2.2) :: blk g5 24 #[.int .i64 r1.1, .int .i64 r1.2.1, .slice A2 r1.2.2.1.length c2] :: own 3 (.slice A2 r1.2.2.1.length c2) (vI r1.2.2.1) :: blk g4 24 #[.int .i64 g1, .int .i64 g2, .slice A1 g3.length c1] :: fs) := hS
  refine at_run 1 [] [] [1, 2, 3, 4, 5, 11, 12, 30, 31] [pl 1 (.int .i64 who1), pl 2 (.int .i64 place1), pl 3 (.int .i64 w1), pl 4 (.int .i64 h1), pl 5 (.pointer (some ⟨g4, 0, none⟩)), pl 11 (.pointer (some ⟨g5, 0, none⟩)), pl 12 (.int .i64 r1.2.2.2), pl 30 (.agg #[.int .i64 r2.1, .int .i64 r2.2.1, .slice A3 r2.2.2.length c3]), pl 31 (.int .i64 who1)] hF hS (by kernel_rfl) (by kernel_rfl) ?_ (fun a w hF hS => ?_)
  · exact obs_nil
  refine at_call (f := 12) (args := #[.agg #[.int .i64 r2.1, .int .i64 r2.2.1, .slice A3 r2.2.2.length c3], .int .i64 who1]) (d := 32) hF (by kernel_rfl) (by kernel_rfl) Try.func12 (by kernel_rfl) rfl (othello_Places_w hr3 hS (fun _ hS => (hS.at_ 0 rfl).rd) ((hS.at_ 0 rfl).cap1) rfl) (fun v a w hR hF => ?_)
  clear hS
  obtain ⟨A4, c4, rfl, hS⟩ := hR
  have hS : Sep w0 B w (own 3 (.slice A4 r3.1.length c4) (vI r3.1) :: own 3 (.slice A3 r2.2.2.length c3) (vI r2.2.2) :: blk g5 24 #[.int .i64 r1.1, .int .i64 r1.2.1, .slice A2 r1.2.2.1.length c2] :: own 3 (.slice A2 r1.2.2.1.length c2) (vI r1.2.2.1) :: blk g4 24 #[.int .i64 g1, .int .i64 g2, .slice A1 g3.length c1] :: fs) := hS
  refine at_run 5 [] [] [1, 2, 3, 4, 5, 11, 12, 13, 14] [pl 1 (.int .i64 who1), pl 2 (.int .i64 place1), pl 3 (.int .i64 w1), pl 4 (.int .i64 h1), pl 5 (.pointer (some ⟨g4, 0, none⟩)), pl 11 (.pointer (some ⟨g5, 0, none⟩)), pl 12 (.int .i64 r1.2.2.2), pl 13 (.slice A4 r3.1.length c4), pl 14 (.int .i64 r3.2)] hF hS (by kernel_rfl) (by kernel_rfl) ?_ (fun a w hF hS => ?_)
  · exact obs_nil
  refine at_end [1, 2, 3, 4, 5, 11, 12, 13, 14] [pl 1 (.int .i64 who1), pl 2 (.int .i64 place1), pl 3 (.int .i64 w1), pl 4 (.int .i64 h1), pl 5 (.pointer (some ⟨g4, 0, none⟩)), pl 11 (.pointer (some ⟨g5, 0, none⟩)), pl 12 (.int .i64 r1.2.2.2), pl 13 (.slice A4 r3.1.length c4), pl 14 (.int .i64 r3.2)] hF rfl (by kernel_rfl) (fun hF => ?_)
  refine then_n ?_
  refine seqR ?_
  obtain ⟨r4, hr4, hm⟩ := call_b hm
  obtain ⟨r5, hr5, hm⟩ := call_b hm
  refine at_run 1 [⟨false, [], vS (Instr.loadAt 24 (.pointer (some ⟨g4, 0, none⟩))), .agg #[.int .i64 g1, .int .i64 g2, .slice A1 g3.length c1]⟩] [some (.agg #[.int .i64 g1, .int .i64 g2, .slice A1 g3.length c1])] [1, 2, 3, 4, 5, 11, 12, 13, 14, 36] [pl 1 (.int .i64 who1), pl 2 (.int .i64 place1), pl 3 (.int .i64 w1), pl 4 (.int .i64 h1), pl 5 (.pointer (some ⟨g4, 0, none⟩)), pl 11 (.pointer (some ⟨g5, 0, none⟩)), pl 12 (.int .i64 r1.2.2.2), pl 13 (.slice A4 r3.1.length c4), pl 14 (.int .i64 r3.2), pl 36 (.agg #[.int .i64 g1, .int .i64 g2, .slice A1 g3.length c1])] hF hS (by kernel_rfl) (by kernel_rfl) ?_ (fun a w hF hS => ?_)
  · exact obs_cons (ob_loadA (cs := #[.int .i64 g1, .int .i64 g2, .slice A1 g3.length c1]) (by kernel_rfl) (by kernel_rfl) (fun _ _ hS => (hS.at_ 4 rfl).cellsAt 0 (by rfl))) <| obs_nil
  refine at_call (f := 13) (args := #[.agg #[.int .i64 g1, .int .i64 g2, .slice A1 g3.length c1]]) (d := 37) hF (by kernel_rfl) (by kernel_rfl) Try.func13 (by kernel_rfl) rfl (gameroomref_GridOf_w hr4 hS (fun _ hS => (hr_g3 _ (hS.dropN 5))) _hc_g3 rfl) (fun v a w hR hF => ?_)
  clear hS
  obtain ⟨A5, c5, rfl, hS⟩ := hR
  have hS : Sep w0 B w (own 3 (.slice A5 r4.2.2.length c5) (vI r4.2.2) :: own 3 (.slice A4 r3.1.length c4) (vI r3.1) :: own 3 (.slice A3 r2.2.2.length c3) (vI r2.2.2) :: blk g5 24 #[.int .i64 r1.1, .int .i64 r1.2.1, .slice A2 r1.2.2.1.length c2] :: own 3 (.slice A2 r1.2.2.1.length c2) (vI r1.2.2.1) :: blk g4 24 #[.int .i64 g1, .int .i64 g2, .slice A1 g3.length c1] :: fs) := hS
  refine at_run 2 [] [] [1, 2, 3, 4, 5, 11, 12, 13, 14, 37, 38, 39] [pl 1 (.int .i64 who1), pl 2 (.int .i64 place1), pl 3 (.int .i64 w1), pl 4 (.int .i64 h1), pl 5 (.pointer (some ⟨g4, 0, none⟩)), pl 11 (.pointer (some ⟨g5, 0, none⟩)), pl 12 (.int .i64 r1.2.2.2), pl 13 (.slice A4 r3.1.length c4), pl 14 (.int .i64 r3.2), pl 37 (.agg #[.int .i64 r4.1, .int .i64 r4.2.1, .slice A5 r4.2.2.length c5]), pl 38 (.int .i64 who1), pl 39 (.int .i64 place1)] hF hS (by kernel_rfl) (by kernel_rfl) ?_ (fun a w hF hS => ?_)
  · exact obs_nil
  refine at_call (f := 14) (args := #[.agg #[.int .i64 r4.1, .int .i64 r4.2.1, .slice A5 r4.2.2.length c5], .int .i64 who1, .int .i64 place1]) (d := 40) hF (by kernel_rfl) (by kernel_rfl) Try.func14 (by kernel_rfl) rfl (othello_Put_w hr5 hS (fun _ hS => (hS.at_ 0 rfl).rd) ((hS.at_ 0 rfl).cap1) rfl) (fun v a w hR hF => ?_)
  clear hS
  obtain ⟨A6, c6, rfl, hS⟩ := hR
  have hS : Sep w0 B w (own 3 (.slice A6 r5.2.2.1.length c6) (vI r5.2.2.1) :: own 3 (.slice A5 r4.2.2.length c5) (vI r4.2.2) :: own 3 (.slice A4 r3.1.length c4) (vI r3.1) :: own 3 (.slice A3 r2.2.2.length c3) (vI r2.2.2) :: blk g5 24 #[.int .i64 r1.1, .int .i64 r1.2.1, .slice A2 r1.2.2.1.length c2] :: own 3 (.slice A2 r1.2.2.1.length c2) (vI r1.2.2.1) :: blk g4 24 #[.int .i64 g1, .int .i64 g2, .slice A1 g3.length c1] :: fs) := hS
  refine at_run 3 [] [] [1, 2, 3, 4, 5, 11, 12, 13, 14, 41, 42] [pl 1 (.int .i64 who1), pl 2 (.int .i64 place1), pl 3 (.int .i64 w1), pl 4 (.int .i64 h1), pl 5 (.pointer (some ⟨g4, 0, none⟩)), pl 11 (.pointer (some ⟨g5, 0, none⟩)), pl 12 (.int .i64 r1.2.2.2), pl 13 (.slice A4 r3.1.length c4), pl 14 (.int .i64 r3.2), pl 41 (.agg #[.int .i64 r5.1, .int .i64 r5.2.1, .slice A6 r5.2.2.1.length c6]), pl 42 (.int .i64 r5.2.2.2)] hF hS (by kernel_rfl) (by kernel_rfl) ?_ (fun a w hF hS => ?_)
  · exact obs_nil
  refine at_do (d := 15) (s := vS (Instr.alloc 24 true (.tuple #[]))) (v := .pointer (some ⟨w.heap.size, 0, none⟩)) (w' := w.alloc (.cells #[.int .i64 0, .int .i64 0, .slice none 0 0] 24)) hF (by kernel_rfl) (by kernel_rfl) (by kernel_rfl) (fun a hF => ?_)
  have hS : Sep w0 B (w.alloc (.cells #[.int .i64 0, .int .i64 0, .slice none 0 0] 24)) (blk w.heap.size 24 #[.int .i64 0, .int .i64 0, .slice none 0 0] :: (own 3 (.slice A6 r5.2.2.1.length c6) (vI r5.2.2.1) :: own 3 (.slice A5 r4.2.2.length c5) (vI r4.2.2) :: own 3 (.slice A4 r3.1.length c4) (vI r3.1) :: own 3 (.slice A3 r2.2.2.length c3) (vI r2.2.2) :: blk g5 24 #[.int .i64 r1.1, .int .i64 r1.2.1, .slice A2 r1.2.2.1.length c2] :: own 3 (.slice A2 r1.2.2.1.length c2) (vI r1.2.2.1) :: blk g4 24 #[.int .i64 g1, .int .i64 g2, .slice A1 g3.length c1] :: fs)) := hS.box 24 #[.int .i64 0, .int .i64 0, .slice none 0 0]
  generalize w.heap.size = g6 at hF hS
  generalize w.alloc (.cells #[.int .i64 0, .int .i64 0, .slice none 0 0] 24) = w at hS ⊢
  obtain ⟨w, hrun, hS⟩ := run_putA (P := Try.prog) (t := 24) (us := #[.int .i64 r5.1, .int .i64 r5.2.1, .slice A6 r5.2.2.1.length c6]) (o := 0) (hS.at_ 0 rfl) (by kernel_rfl) (all_one (by kernel_rfl)) (Nat.le_of_ble_eq_true (by kernel_rfl))
  refine at_skip hF (by kernel_rfl) hrun ?_
  have hS : Sep w0 B w (blk g6 24 #[.int .i64 r5.1, .int .i64 r5.2.1, .slice A6 r5.2.2.1.length c6] :: own 3 (.slice A6 r5.2.2.1.length c6) (vI r5.2.2.1) :: own 3 (.slice A5 r4.2.2.length c5) (vI r4.2.2) :: own 3 (.slice A4 r3.1.length c4) (vI r3.1) :: own 3 (.slice A3 r2.2.2.length c3) (vI r2.2.2) :: blk g5 24 #[.int .i64 r1.1, .int .i64 r1.2.1, .slice A2 r1.2.2.1.length c2] :: own 3 (.slice A2 r1.2.2.1.length c2) (vI r1.2.2.1) :: blk g4 24 #[.int .i64 g1, .int .i64 g2, .slice A1 g3.length c1] :: fs) := hS
  refine at_run 1 [] [] [1, 2, 3, 4, 5, 11, 12, 13, 14, 15, 16] [pl 1 (.int .i64 who1), pl 2 (.int .i64 place1), pl 3 (.int .i64 w1), pl 4 (.int .i64 h1), pl 5 (.pointer (some ⟨g4, 0, none⟩)), pl 11 (.pointer (some ⟨g5, 0, none⟩)), pl 12 (.int .i64 r1.2.2.2), pl 13 (.slice A4 r3.1.length c4), pl 14 (.int .i64 r3.2), pl 15 (.pointer (some ⟨g6, 0, none⟩)), pl 16 (.int .i64 r5.2.2.2)] hF hS (by kernel_rfl) (by kernel_rfl) ?_ (fun a w hF hS => ?_)
  · exact obs_nil
  refine at_end [1, 2, 3, 4, 5, 11, 12, 13, 14, 15, 16] [pl 1 (.int .i64 who1), pl 2 (.int .i64 place1), pl 3 (.int .i64 w1), pl 4 (.int .i64 h1), pl 5 (.pointer (some ⟨g4, 0, none⟩)), pl 11 (.pointer (some ⟨g5, 0, none⟩)), pl 12 (.int .i64 r1.2.2.2), pl 13 (.slice A4 r3.1.length c4), pl 14 (.int .i64 r3.2), pl 15 (.pointer (some ⟨g6, 0, none⟩)), pl 16 (.int .i64 r5.2.2.2)] hF rfl (by kernel_rfl) (fun hF => ?_)
  refine then_n ?_
  refine seqR ?_
  obtain ⟨r6, hr6, hm⟩ := call_b hm
  obtain ⟨r7, hr7, hm⟩ := call_b hm
  refine at_run 1 [⟨false, [], vS (Instr.loadAt 24 (.pointer (some ⟨g4, 0, none⟩))), .agg #[.int .i64 g1, .int .i64 g2, .slice A1 g3.length c1]⟩] [some (.agg #[.int .i64 g1, .int .i64 g2, .slice A1 g3.length c1])] [1, 2, 3, 4, 5, 11, 12, 13, 14, 15, 16, 44] [pl 1 (.int .i64 who1), pl 2 (.int .i64 place1), pl 3 (.int .i64 w1), pl 4 (.int .i64 h1), pl 5 (.pointer (some ⟨g4, 0, none⟩)), pl 11 (.pointer (some ⟨g5, 0, none⟩)), pl 12 (.int .i64 r1.2.2.2), pl 13 (.slice A4 r3.1.length c4), pl 14 (.int .i64 r3.2), pl 15 (.pointer (some ⟨g6, 0, none⟩)), pl 16 (.int .i64 r5.2.2.2), pl 44 (.agg #[.int .i64 g1, .int .i64 g2, .slice A1 g3.length c1])] hF hS (by kernel_rfl) (by kernel_rfl) ?_ (fun a w hF hS => ?_)
  · exact obs_cons (ob_loadA (cs := #[.int .i64 g1, .int .i64 g2, .slice A1 g3.length c1]) (by kernel_rfl) (by kernel_rfl) (fun _ _ hS => (hS.at_ 7 rfl).cellsAt 0 (by rfl))) <| obs_nil
  refine at_call (f := 13) (args := #[.agg #[.int .i64 g1, .int .i64 g2, .slice A1 g3.length c1]]) (d := 45) hF (by kernel_rfl) (by kernel_rfl) Try.func13 (by kernel_rfl) rfl (gameroomref_GridOf_w hr6 hS (fun _ hS => (hr_g3 _ (hS.dropN 8))) _hc_g3 rfl) (fun v a w hR hF => ?_)
  clear hS
  obtain ⟨A7, c7, rfl, hS⟩ := hR
  have hS : Sep w0 B w (own 3 (.slice A7 r6.2.2.length c7) (vI r6.2.2) :: blk g6 24 #[.int .i64 r5.1, .int .i64 r5.2.1, .slice A6 r5.2.2.1.length c6] :: own 3 (.slice A6 r5.2.2.1.length c6) (vI r5.2.2.1) :: own 3 (.slice A5 r4.2.2.length c5) (vI r4.2.2) :: own 3 (.slice A4 r3.1.length c4) (vI r3.1) :: own 3 (.slice A3 r2.2.2.length c3) (vI r2.2.2) :: blk g5 24 #[.int .i64 r1.1, .int .i64 r1.2.1, .slice A2 r1.2.2.1.length c2] :: own 3 (.slice A2 r1.2.2.1.length c2) (vI r1.2.2.1) :: blk g4 24 #[.int .i64 g1, .int .i64 g2, .slice A1 g3.length c1] :: fs) := hS
  refine at_run 7 [⟨false, [], callFunc 15 #[.agg #[.int .i64 r6.1, .int .i64 r6.2.1, .slice A7 r6.2.2.length c7], .int .i64 who1], .tuple #[.int .i64 r7.1, .int .i64 r7.2]⟩] [none, some (.tuple #[.int .i64 r7.1, .int .i64 r7.2]), none, none, none, none, none] [1, 2, 3, 4, 5, 11, 12, 13, 14, 15, 16, 17, 18] [pl 1 (.int .i64 who1), pl 2 (.int .i64 place1), pl 3 (.int .i64 w1), pl 4 (.int .i64 h1), pl 5 (.pointer (some ⟨g4, 0, none⟩)), pl 11 (.pointer (some ⟨g5, 0, none⟩)), pl 12 (.int .i64 r1.2.2.2), pl 13 (.slice A4 r3.1.length c4), pl 14 (.int .i64 r3.2), pl 15 (.pointer (some ⟨g6, 0, none⟩)), pl 16 (.int .i64 r5.2.2.2), pl 17 (.int .i64 r7.1), pl 18 (.int .i64 r7.2)] hF hS (by kernel_rfl) (by kernel_rfl) ?_ (fun a w hF hS => ?_)
  · exact obs_cons (ob_call Try.func15 (by kernel_rfl) rfl (fun _ _ hS => othello_Next_w hr7 hS (fun _ hS => (hS.at_ 0 rfl).rd) ((hS.at_ 0 rfl).cap1) rfl)) <| obs_nil
  refine at_end [1, 2, 3, 4, 5, 11, 12, 13, 14, 15, 16, 17, 18] [pl 1 (.int .i64 who1), pl 2 (.int .i64 place1), pl 3 (.int .i64 w1), pl 4 (.int .i64 h1), pl 5 (.pointer (some ⟨g4, 0, none⟩)), pl 11 (.pointer (some ⟨g5, 0, none⟩)), pl 12 (.int .i64 r1.2.2.2), pl 13 (.slice A4 r3.1.length c4), pl 14 (.int .i64 r3.2), pl 15 (.pointer (some ⟨g6, 0, none⟩)), pl 16 (.int .i64 r5.2.2.2), pl 17 (.int .i64 r7.1), pl 18 (.int .i64 r7.2)] hF rfl (by kernel_rfl) (fun hF => ?_)
  refine then_n ?_
  refine seq_cut (fun a w => Fr 186 [pl 1 (.int .i64 who1), pl 2 (.int .i64 place1), pl 5 (.pointer (some ⟨g4, 0, none⟩)), pl 13 (.slice A4 r3.1.length c4), pl 14 (.int .i64 r3.2), pl 15 (.pointer (some ⟨g6, 0, none⟩)), pl 16 (.int .i64 r5.2.2.2), pl 17 (.int .i64 r7.1), pl 18 (.int .i64 r7.2)] a ∧ Sep w0 B w (blk g4 24 #[.int .i64 g1, .int .i64 g2, .slice A1 g3.length c1] :: own 3 (.slice A4 r3.1.length c4) (vI r3.1) :: blk g6 24 #[.int .i64 r5.1, .int .i64 r5.2.1, .slice A6 r5.2.2.1.length c6] :: own 3 (.slice A6 r5.2.2.1.length c6) (vI r5.2.2.1) :: fs) ∧ ((gameroomlaw_OthelloPuts_J1 g1 g2 g3 who1 place1 r3 r5 r7)).bind some = some r) ?_ ?_
  · rintro a w ⟨hF, hS, hm⟩
    unfold gameroomlaw_OthelloPuts_J1 at hm
    refine reg [] [] [1, 2, 5, 13, 14, 15, 16, 17, 18, 19] [pl 1 (.int .i64 who1), pl 2 (.int .i64 place1), pl 5 (.pointer (some ⟨g4, 0, none⟩)), pl 13 (.slice A4 r3.1.length c4), pl 14 (.int .i64 r3.2), pl 15 (.pointer (some ⟨g6, 0, none⟩)), pl 16 (.int .i64 r5.2.2.2), pl 17 (.int .i64 r7.1), pl 18 (.int .i64 r7.2), pl 19 (.int .i64 0)] hF hS Fol (by kernel_rfl) (by kernel_rfl) (by kernel_rfl) ?_ (fun a w hF hS => ?_)
    · exact obs_nil
    refine seq_cut (fun a w => ∃ (no1 : Int), Fr 186 [pl 1 (.int .i64 who1), pl 2 (.int .i64 place1), pl 5 (.pointer (some ⟨g4, 0, none⟩)), pl 13 (.slice A4 r3.1.length c4), pl 14 (.int .i64 r3.2), pl 15 (.pointer (some ⟨g6, 0, none⟩)), pl 16 (.int .i64 r5.2.2.2), pl 17 (.int .i64 r7.1), pl 18 (.int .i64 r7.2), pl 19 (.int .i64 no1)] a ∧ Sep w0 B w (blk g4 24 #[.int .i64 g1, .int .i64 g2, .slice A1 g3.length c1] :: own 3 (.slice A4 r3.1.length c4) (vI r3.1) :: blk g6 24 #[.int .i64 r5.1, .int .i64 r5.2.1, .slice A6 r5.2.2.1.length c6] :: own 3 (.slice A6 r5.2.2.1.length c6) (vI r5.2.2.1) :: fs) ∧ ((gameroomlaw_OthelloPuts_J3 g1 g2 g3 who1 place1 r3 r5 r7) no1).bind some = some r) ?_ ?_
    · rintro a w ⟨no1, hF, hS, hm⟩
      unfold gameroomlaw_OthelloPuts_J3 at hm
      refine seq_cut (fun a w => Fr 186 [pl 1 (.int .i64 who1), pl 2 (.int .i64 place1), pl 5 (.pointer (some ⟨g4, 0, none⟩)), pl 13 (.slice A4 r3.1.length c4), pl 14 (.int .i64 r3.2), pl 15 (.pointer (some ⟨g6, 0, none⟩)), pl 16 (.int .i64 r5.2.2.2), pl 17 (.int .i64 r7.1), pl 18 (.int .i64 r7.2)] a ∧ Sep w0 B w (blk g4 24 #[.int .i64 g1, .int .i64 g2, .slice A1 g3.length c1] :: own 3 (.slice A4 r3.1.length c4) (vI r3.1) :: blk g6 24 #[.int .i64 r5.1, .int .i64 r5.2.1, .slice A6 r5.2.2.1.length c6] :: own 3 (.slice A6 r5.2.2.1.length c6) (vI r5.2.2.1) :: fs) ∧ ((gameroomlaw_OthelloPuts_J4 g1 g2 g3 who1 place1 r3 r5 r7)).bind some = some r) ?_ ?_
      · rintro a w ⟨hF, hS, hm⟩
        unfold gameroomlaw_OthelloPuts_J4 at hm
        refine seq_cut (fun a w => Fr 186 [pl 1 (.int .i64 who1), pl 2 (.int .i64 place1), pl 5 (.pointer (some ⟨g4, 0, none⟩)), pl 15 (.pointer (some ⟨g6, 0, none⟩)), pl 16 (.int .i64 r5.2.2.2)] a ∧ Sep w0 B w (blk g4 24 #[.int .i64 g1, .int .i64 g2, .slice A1 g3.length c1] :: blk g6 24 #[.int .i64 r5.1, .int .i64 r5.2.1, .slice A6 r5.2.2.1.length c6] :: own 3 (.slice A6 r5.2.2.1.length c6) (vI r5.2.2.1) :: fs) ∧ ((gameroomlaw_OthelloPuts_J5 g1 g2 g3 who1 place1 r5)).bind some = some r) ?_ ?_
        · rintro a w ⟨hF, hS, hm⟩
          unfold gameroomlaw_OthelloPuts_J5 at hm
          refine seq_cut (fun a w => Fr 186 [pl 1 (.int .i64 who1), pl 2 (.int .i64 place1), pl 5 (.pointer (some ⟨g4, 0, none⟩)), pl 15 (.pointer (some ⟨g6, 0, none⟩)), pl 16 (.int .i64 r5.2.2.2)] a ∧ Sep w0 B w (blk g4 24 #[.int .i64 g1, .int .i64 g2, .slice A1 g3.length c1] :: blk g6 24 #[.int .i64 r5.1, .int .i64 r5.2.1, .slice A6 r5.2.2.1.length c6] :: own 3 (.slice A6 r5.2.2.1.length c6) (vI r5.2.2.1) :: fs) ∧ ((gameroomlaw_OthelloPuts_J7 g1 g2 g3 who1 place1 r5)).bind some = some r) ?_ ?_
          · rintro a w ⟨hF, hS, hm⟩
            unfold gameroomlaw_OthelloPuts_J7 at hm
            refine seqR ?_
            obtain ⟨r20, hr20, hm⟩ := call_b hm
            refine at_run 3 [⟨false, [], vS (Instr.loadAt 24 (.pointer (some ⟨g4, 0, none⟩))), .agg #[.int .i64 g1, .int .i64 g2, .slice A1 g3.length c1]⟩] [some (.agg #[.int .i64 g1, .int .i64 g2, .slice A1 g3.length c1]), none, none] [15, 16, 165, 166, 167] [pl 15 (.pointer (some ⟨g6, 0, none⟩)), pl 16 (.int .i64 r5.2.2.2), pl 165 (.agg #[.int .i64 g1, .int .i64 g2, .slice A1 g3.length c1]), pl 166 (.int .i64 who1), pl 167 (.int .i64 place1)] hF hS (by kernel_rfl) (by kernel_rfl) ?_ (fun a w hF hS => ?_)
            · exact obs_cons (ob_loadA (cs := #[.int .i64 g1, .int .i64 g2, .slice A1 g3.length c1]) (by kernel_rfl) (by kernel_rfl) (fun _ _ hS => (hS.at_ 0 rfl).cellsAt 0 (by rfl))) <| obs_nil
            refine at_call (f := 23) (args := #[.agg #[.int .i64 g1, .int .i64 g2, .slice A1 g3.length c1], .int .i64 who1, .int .i64 place1]) (d := 168) hF (by kernel_rfl) (by kernel_rfl) Try.func23 (by kernel_rfl) rfl (gameroomref_PutSign_w hr20 hS (fun _ hS => (hr_g3 _ (hS.dropN 3))) _hc_g3 rfl) (fun v a w hR hF => ?_)
            clear hS
            obtain ⟨A10, c10, rfl, hS⟩ := hR
            have hS : Sep w0 B w (own 3 (.slice A10 r20.2.2.1.length c10) (vI r20.2.2.1) :: blk g4 24 #[.int .i64 g1, .int .i64 g2, .slice A1 g3.length c1] :: blk g6 24 #[.int .i64 r5.1, .int .i64 r5.2.1, .slice A6 r5.2.2.1.length c6] :: own 3 (.slice A6 r5.2.2.1.length c6) (vI r5.2.2.1) :: fs) := hS
            refine at_run 3 [] [] [15, 16, 169, 170] [pl 15 (.pointer (some ⟨g6, 0, none⟩)), pl 16 (.int .i64 r5.2.2.2), pl 169 (.agg #[.int .i64 r20.1, .int .i64 r20.2.1, .slice A10 r20.2.2.1.length c10]), pl 170 (.int .i64 r20.2.2.2)] hF hS (by kernel_rfl) (by kernel_rfl) ?_ (fun a w hF hS => ?_)
            · exact obs_nil
            refine at_do (d := 20) (s := vS (Instr.alloc 24 true (.tuple #[]))) (v := .pointer (some ⟨w.heap.size, 0, none⟩)) (w' := w.alloc (.cells #[.int .i64 0, .int .i64 0, .slice none 0 0] 24)) hF (by kernel_rfl) (by kernel_rfl) (by kernel_rfl) (fun a hF => ?_)
            have hS : Sep w0 B (w.alloc (.cells #[.int .i64 0, .int .i64 0, .slice none 0 0] 24)) (blk w.heap.size 24 #[.int .i64 0, .int .i64 0, .slice none 0 0] :: (own 3 (.slice A10 r20.2.2.1.length c10) (vI r20.2.2.1) :: blk g4 24 #[.int .i64 g1, .int .i64 g2, .slice A1 g3.length c1] :: blk g6 24 #[.int .i64 r5.1, .int .i64 r5.2.1, .slice A6 r5.2.2.1.length c6] :: own 3 (.slice A6 r5.2.2.1.length c6) (vI r5.2.2.1) :: fs)) := hS.box 24 #[.int .i64 0, .int .i64 0, .slice none 0 0]
            generalize w.heap.size = g7 at hF hS
            generalize w.alloc (.cells #[.int .i64 0, .int .i64 0, .slice none 0 0] 24) = w at hS ⊢
            obtain ⟨w, hrun, hS⟩ := run_putA (P := Try.prog) (t := 24) (us := #[.int .i64 r20.1, .int .i64 r20.2.1, .slice A10 r20.2.2.1.length c10]) (o := 0) (hS.at_ 0 rfl) (by kernel_rfl) (all_one (by kernel_rfl)) (Nat.le_of_ble_eq_true (by kernel_rfl))
            refine at_skip hF (by kernel_rfl) hrun ?_
            have hS : Sep w0 B w (blk g7 24 #[.int .i64 r20.1, .int .i64 r20.2.1, .slice A10 r20.2.2.1.length c10] :: own 3 (.slice A10 r20.2.2.1.length c10) (vI r20.2.2.1) :: blk g4 24 #[.int .i64 g1, .int .i64 g2, .slice A1 g3.length c1] :: blk g6 24 #[.int .i64 r5.1, .int .i64 r5.2.1, .slice A6 r5.2.2.1.length c6] :: own 3 (.slice A6 r5.2.2.1.length c6) (vI r5.2.2.1) :: fs) := hS
            refine at_run 1 [] [] [15, 16, 20, 21] [pl 15 (.pointer (some ⟨g6, 0, none⟩)), pl 16 (.int .i64 r5.2.2.2), pl 20 (.pointer (some ⟨g7, 0, none⟩)), pl 21 (.int .i64 r20.2.2.2)] hF hS (by kernel_rfl) (by kernel_rfl) ?_ (fun a w hF hS => ?_)
            · exact obs_nil
            refine at_end [15, 16, 20, 21] [pl 15 (.pointer (some ⟨g6, 0, none⟩)), pl 16 (.int .i64 r5.2.2.2), pl 20 (.pointer (some ⟨g7, 0, none⟩)), pl 21 (.int .i64 r20.2.2.2)] hF rfl (by kernel_rfl) (fun hF => ?_)
            refine then_n ?_
            refine seq_cut (fun a w => Fr 186 [pl 15 (.pointer (some ⟨g6, 0, none⟩)), pl 16 (.int .i64 r5.2.2.2), pl 20 (.pointer (some ⟨g7, 0, none⟩))] a ∧ Sep w0 B w (blk g6 24 #[.int .i64 r5.1, .int .i64 r5.2.1, .slice A6 r5.2.2.1.length c6] :: own 3 (.slice A6 r5.2.2.1.length c6) (vI r5.2.2.1) :: blk g7 24 #[.int .i64 r20.1, .int .i64 r20.2.1, .slice A10 r20.2.2.1.length c10] :: own 3 (.slice A10 r20.2.2.1.length c10) (vI r20.2.2.1) :: fs) ∧ ((gameroomlaw_OthelloPuts_J8 r5 r20)).bind some = some r) ?_ ?_
            · rintro a w ⟨hF, hS, hm⟩
              unfold gameroomlaw_OthelloPuts_J8 at hm
              obtain ⟨r22, hr22, hm⟩ := call_b hm
              refine reg [⟨false, [((r5.2.2.2 == 0), true)], vS (Instr.loadAt 24 (.pointer (some ⟨g6, 0, none⟩))), .agg #[.int .i64 r5.1, .int .i64 r5.2.1, .slice A6 r5.2.2.1.length c6]⟩, ⟨false, [((r5.2.2.2 == 0), true)], vS (Instr.loadAt 24 (.pointer (some ⟨g7, 0, none⟩))), .agg #[.int .i64 r20.1, .int .i64 r20.2.1, .slice A10 r20.2.2.1.length c10]⟩, ⟨false, [((r5.2.2.2 == 0), true)], callFunc 17 #[.agg #[.int .i64 r5.1, .int .i64 r5.2.1, .slice A6 r5.2.2.1.length c6], .agg #[.int .i64 r20.1, .int .i64 r20.2.1, .slice A10 r20.2.2.1.length c10]], .bool r22⟩] [none, none, none, some (.agg #[.int .i64 r5.1, .int .i64 r5.2.1, .slice A6 r5.2.2.1.length c6]), some (.agg #[.int .i64 r20.1, .int .i64 r20.2.1, .slice A10 r20.2.2.1.length c10]), some (.bool r22), none, none] [10] [pl 10 (.bool ((r5.2.2.2 == 0) && r22))] hF hS Fol (by kernel_rfl) (by kernel_rfl) (by kernel_rfl) ?_ (fun a w hF hS => ?_)
              · exact obs_cons (ob_loadA (cs := #[.int .i64 r5.1, .int .i64 r5.2.1, .slice A6 r5.2.2.1.length c6]) (by kernel_rfl) (by kernel_rfl) (fun _ _ hS => (hS.at_ 0 rfl).cellsAt 0 (by rfl))) <| obs_cons (ob_loadA (cs := #[.int .i64 r20.1, .int .i64 r20.2.1, .slice A10 r20.2.2.1.length c10]) (by kernel_rfl) (by kernel_rfl) (fun _ _ hS => (hS.at_ 2 rfl).cellsAt 0 (by rfl))) <| obs_cons (ob_call Try.func17 (by kernel_rfl) rfl (fun hy _ hS => gameroomref_SameGrid_w (ite_some hr22 (by rw [show (r5.2.2.2 == 0) = true from hy ((r5.2.2.2 == 0), true) (by simp)]; try rfl)) hS (fun _ hS => (hS.at_ 1 rfl).rd) ((hS.at_ 1 rfl).cap1) rfl (fun _ hS => (hS.at_ 3 rfl).rd) ((hS.at_ 3 rfl).cap1) rfl)) <| obs_nil
              refine wp_ret ?_
              have hS := hS.pickN 4 [] (by decide)
              have hm : some ((r5.2.2.2 == 0) && r22) = some r := hm
              obtain rfl := Option.some.inj hm
              exact retV (rs := [.tmp 10]) (vs := [.bool ((r5.2.2.2 == 0) && r22)]) hF rfl (rv_t (by kernel_rfl) <| rv_nil) rfl ⟨rfl, hS⟩
            · refine reg [] [] [15, 16, 20, 172] [pl 15 (.pointer (some ⟨g6, 0, none⟩)), pl 16 (.int .i64 r5.2.2.2), pl 20 (.pointer (some ⟨g7, 0, none⟩)), pl 172 (.bool (r20.2.2.2 == 0))] hF hS Fol (by kernel_rfl) (by kernel_rfl) (by kernel_rfl) ?_ (fun a w hF hS => ?_)
              · exact obs_nil
              refine cond_ev (t := 172) (b := (r20.2.2.2 == 0)) hF (by kernel_rfl) (fun hb => ?_) (fun hb => ?_)
              · replace hm := if_t hm hb
                obtain ⟨r21, hr21, hm⟩ := call_b hm
                refine reg [⟨false, [((r5.2.2.2 == 8), true)], vS (Instr.loadAt 24 (.pointer (some ⟨g6, 0, none⟩))), .agg #[.int .i64 r5.1, .int .i64 r5.2.1, .slice A6 r5.2.2.1.length c6]⟩, ⟨false, [((r5.2.2.2 == 8), true)], callFunc 16 #[.agg #[.int .i64 r5.1, .int .i64 r5.2.1, .slice A6 r5.2.2.1.length c6]], .bool r21⟩] [none, none, none, some (.agg #[.int .i64 r5.1, .int .i64 r5.2.1, .slice A6 r5.2.2.1.length c6]), some (.bool r21), none, none] [10] [pl 10 (.bool ((r5.2.2.2 == 8) && r21))] hF hS Fol (by kernel_rfl) (by kernel_rfl) (by kernel_rfl) ?_ (fun a w hF hS => ?_)
                · exact obs_cons (ob_loadA (cs := #[.int .i64 r5.1, .int .i64 r5.2.1, .slice A6 r5.2.2.1.length c6]) (by kernel_rfl) (by kernel_rfl) (fun _ _ hS => (hS.at_ 3 rfl).cellsAt 0 (by rfl))) <| obs_cons (ob_call Try.func16 (by kernel_rfl) rfl (fun hy _ hS => gameroomlaw_noGrid_w (ite_some hr21 (by rw [show (r5.2.2.2 == 8) = true from hy ((r5.2.2.2 == 8), true) (by simp)]; try rfl)) hS (fun _ hS => (hS.at_ 4 rfl).rd) ((hS.at_ 4 rfl).cap1) rfl)) <| obs_nil
                refine wp_ret ?_
                refine then_r ?_
                have hS := hS.pickN 5 [] (by decide)
                have hm : some ((r5.2.2.2 == 8) && r21) = some r := hm
                obtain rfl := Option.some.inj hm
                exact retV (rs := [.tmp 10]) (vs := [.bool ((r5.2.2.2 == 8) && r21)]) hF rfl (rv_t (by kernel_rfl) <| rv_nil) rfl ⟨rfl, hS⟩
              · replace hm := if_f hm hb
                refine wp_skip ?_
                refine then_n ?_
                have hS := hS.pickN 5 [3, 4, 0, 1] (by decide)
                exact ⟨hF.weak [15, 16, 20] (by kernel_rfl), hS, hm⟩
          · refine reg [⟨false, [(decide (place1 < 0), false)], vS (Instr.loadAt 22 (.pointer (some ⟨g4, 2, none⟩))), .slice A1 g3.length c1⟩] [none, none, none, none, none, some (.slice A1 g3.length c1), none, none, none] [1, 2, 5, 15, 16, 157] [pl 1 (.int .i64 who1), pl 2 (.int .i64 place1), pl 5 (.pointer (some ⟨g4, 0, none⟩)), pl 15 (.pointer (some ⟨g6, 0, none⟩)), pl 16 (.int .i64 r5.2.2.2), pl 157 (.bool ((decide (place1 < 0)) || (decide ((g3.length : Int) ≤ place1))))] hF hS Fol (by kernel_rfl) (by kernel_rfl) (by kernel_rfl) ?_ (fun a w hF hS => ?_)
            · exact obs_cons (ob_load Agg22 (fun _ _ hS => (hS.at_ 0 rfl).cell rfl)) <| obs_nil
            refine cond_ev (t := 157) (b := (decide (place1 < 0)) || (decide ((g3.length : Int) ≤ place1))) hF (by kernel_rfl) (fun hb => ?_) (fun hb => ?_)
            · replace hm := if_t hm hb
              obtain ⟨r19, hr19, hm⟩ := call_b hm
              refine reg [⟨false, [((r5.2.2.2 == 3), true)], vS (Instr.loadAt 24 (.pointer (some ⟨g6, 0, none⟩))), .agg #[.int .i64 r5.1, .int .i64 r5.2.1, .slice A6 r5.2.2.1.length c6]⟩, ⟨false, [((r5.2.2.2 == 3), true)], callFunc 16 #[.agg #[.int .i64 r5.1, .int .i64 r5.2.1, .slice A6 r5.2.2.1.length c6]], .bool r19⟩] [none, none, none, some (.agg #[.int .i64 r5.1, .int .i64 r5.2.1, .slice A6 r5.2.2.1.length c6]), some (.bool r19), none, none] [10] [pl 10 (.bool ((r5.2.2.2 == 3) && r19))] hF hS Fol (by kernel_rfl) (by kernel_rfl) (by kernel_rfl) ?_ (fun a w hF hS => ?_)
              · exact obs_cons (ob_loadA (cs := #[.int .i64 r5.1, .int .i64 r5.2.1, .slice A6 r5.2.2.1.length c6]) (by kernel_rfl) (by kernel_rfl) (fun _ _ hS => (hS.at_ 1 rfl).cellsAt 0 (by rfl))) <| obs_cons (ob_call Try.func16 (by kernel_rfl) rfl (fun hy _ hS => gameroomlaw_noGrid_w (ite_some hr19 (by rw [show (r5.2.2.2 == 3) = true from hy ((r5.2.2.2 == 3), true) (by simp)]; try rfl)) hS (fun _ hS => (hS.at_ 2 rfl).rd) ((hS.at_ 2 rfl).cap1) rfl)) <| obs_nil
              refine wp_ret ?_
              refine then_r ?_
              have hS := hS.pickN 3 [] (by decide)
              have hm : some ((r5.2.2.2 == 3) && r19) = some r := hm
              obtain rfl := Option.some.inj hm
              exact retV (rs := [.tmp 10]) (vs := [.bool ((r5.2.2.2 == 3) && r19)]) hF rfl (rv_t (by kernel_rfl) <| rv_nil) rfl ⟨rfl, hS⟩
            · replace hm := if_f hm hb
              refine wp_skip ?_
              refine then_n ?_
              exact ⟨hF.weak [1, 2, 5, 15, 16] (by kernel_rfl), hS, hm⟩
        · refine seq_cut (fun a w => ∃ (z2 : Bool), Fr 186 [pl 1 (.int .i64 who1), pl 2 (.int .i64 place1), pl 5 (.pointer (some ⟨g4, 0, none⟩)), pl 15 (.pointer (some ⟨g6, 0, none⟩)), pl 16 (.int .i64 r5.2.2.2), pl 148 (.bool z2)] a ∧ Sep w0 B w (blk g4 24 #[.int .i64 g1, .int .i64 g2, .slice A1 g3.length c1] :: blk g6 24 #[.int .i64 r5.1, .int .i64 r5.2.1, .slice A6 r5.2.2.1.length c6] :: own 3 (.slice A6 r5.2.2.1.length c6) (vI r5.2.2.1) :: fs) ∧ ((gameroomlaw_OthelloPuts_J6 g1 g2 g3 who1 place1 r5) z2).bind some = some r) ?_ ?_
          · rintro a w ⟨z2, hF, hS, hm⟩
            unfold gameroomlaw_OthelloPuts_J6 at hm
            refine cond_ev (t := 148) (b := z2) hF (by kernel_rfl) (fun hb => ?_) (fun hb => ?_)
            · replace hm := if_t hm hb
              refine reg [] [] [10] [pl 10 (.bool false)] hF hS Fol (by kernel_rfl) (by kernel_rfl) (by kernel_rfl) ?_ (fun a w hF hS => ?_)
              · exact obs_nil
              refine wp_ret ?_
              refine then_r ?_
              have hS := hS.pickN 3 [] (by decide)
              have hm : some false = some r := hm
              obtain rfl := Option.some.inj hm
              exact retV (rs := [.tmp 10]) (vs := [.bool false]) hF rfl (rv_t (by kernel_rfl) <| rv_nil) rfl ⟨rfl, hS⟩
            · replace hm := if_f hm hb
              refine wp_skip ?_
              refine then_n ?_
              exact ⟨hF.weak [1, 2, 5, 15, 16] (by kernel_rfl), hS, hm⟩
          · refine oneR ?_
            refine at_run 6 [⟨false, [((r3.2 != 0), false)], vS (Instr.loadAt 24 (.pointer (some ⟨g4, 0, none⟩))), .agg #[.int .i64 g1, .int .i64 g2, .slice A1 g3.length c1]⟩] [none, none, none, none, some (.agg #[.int .i64 g1, .int .i64 g2, .slice A1 g3.length c1]), none] [1, 2, 5, 15, 16, 17, 18, 130, 131, 132, 133] [pl 1 (.int .i64 who1), pl 2 (.int .i64 place1), pl 5 (.pointer (some ⟨g4, 0, none⟩)), pl 15 (.pointer (some ⟨g6, 0, none⟩)), pl 16 (.int .i64 r5.2.2.2), pl 17 (.int .i64 r7.1), pl 18 (.int .i64 r7.2), pl 130 (.bool (r3.2 != 0)), ⟨131, [(130, false)], .slice A4 r3.1.length c4⟩, ⟨132, [(130, false)], .agg #[.int .i64 g1, .int .i64 g2, .slice A1 g3.length c1]⟩, ⟨133, [(130, false)], .int .i64 who1⟩] hF hS (by kernel_rfl) (by kernel_rfl) ?_ (fun a w hF hS => ?_)
            · exact obs_cons (ob_loadA (cs := #[.int .i64 g1, .int .i64 g2, .slice A1 g3.length c1]) (by kernel_rfl) (by kernel_rfl) (fun _ _ hS => (hS.at_ 0 rfl).cellsAt 0 (by rfl))) <| obs_nil
            rcases Bool.eq_false_or_eq_true (r3.2 != 0) with hg2 | hg2
            · replace hm := if_t hm hg2
              obtain ⟨r14, hr14, hm⟩ := call_b hm
              obtain ⟨r15, hr15, hm⟩ := call_b hm
              refine at_gskip (d := 134) (v := .slice none 0 0) (hs := [((r3.2 != 0), false)]) (ctx := [(130, false)]) hF (by kernel_rfl) (by kernel_rfl) (fun h => absurd (h ((r3.2 != 0), false) (by simp)) (by simp [hg2])) (fun a hF => ?_)
              refine at_run 14 [⟨false, [((r3.2 != 0), false)], callFunc 20 #[.slice A4 r3.1.length c4, .slice none 0 0], .bool r14⟩, ⟨false, [(((r3.2 != 0) || (!r14)) || (r7.2 != 0), false)], vS (Instr.loadAt 24 (.pointer (some ⟨g4, 0, none⟩))), .agg #[.int .i64 g1, .int .i64 g2, .slice A1 g3.length c1]⟩, ⟨false, [(((r3.2 != 0) || (!r14)) || (r7.2 != 0), false)], callFunc 22 #[.agg #[.int .i64 g1, .int .i64 g2, .slice A1 g3.length c1], .int .i64 who1], .int .i64 r15⟩] [some (.bool r14), none, none, none, none, none, none, none, none, some (.agg #[.int .i64 g1, .int .i64 g2, .slice A1 g3.length c1]), none, some (.int .i64 r15), none, none] [1, 2, 5, 15, 16, 148] [pl 1 (.int .i64 who1), pl 2 (.int .i64 place1), pl 5 (.pointer (some ⟨g4, 0, none⟩)), pl 15 (.pointer (some ⟨g6, 0, none⟩)), pl 16 (.int .i64 r5.2.2.2), pl 148 (.bool ((((r3.2 != 0) || (!r14)) || (r7.2 != 0)) || (r7.1 != r15)))] hF hS (by kernel_rfl) (by kernel_rfl) ?_ (fun a w hF hS => ?_)
              · exact obs_cons (Ob.vac (fun h => absurd (h ((r3.2 != 0), false) (by simp)) (by simp [hg2]))) <| obs_cons (ob_loadA (cs := #[.int .i64 g1, .int .i64 g2, .slice A1 g3.length c1]) (by kernel_rfl) (by kernel_rfl) (fun _ _ hS => (hS.at_ 0 rfl).cellsAt 0 (by rfl))) <| obs_cons (ob_call Try.func22 (by kernel_rfl) rfl (fun hy _ hS => gameroomref_OthelloNext_w (ite_some hr15 (by rw [show (((r3.2 != 0) || (!r14)) || (r7.2 != 0)) = false from hy (((r3.2 != 0) || (!r14)) || (r7.2 != 0), false) (by simp)]; try rfl)) hS (fun _ hS => (hr_g3 _ (hS.dropN 4))) _hc_g3 rfl)) <| obs_nil
              refine at_end [1, 2, 5, 15, 16, 148] [pl 1 (.int .i64 who1), pl 2 (.int .i64 place1), pl 5 (.pointer (some ⟨g4, 0, none⟩)), pl 15 (.pointer (some ⟨g6, 0, none⟩)), pl 16 (.int .i64 r5.2.2.2), pl 148 (.bool ((((r3.2 != 0) || (!r14)) || (r7.2 != 0)) || (r7.1 != r15)))] hF rfl (by kernel_rfl) (fun hF => ?_)
              refine then_n ?_
              have hS := hS.pickN 4 [0, 2, 3] (by decide)
              exact ⟨((((r3.2 != 0) || (!r14)) || (r7.2 != 0)) || (r7.1 != r15)), hF.weak [1, 2, 5, 15, 16, 148] (by kernel_rfl), hS, hm⟩
            · replace hm := if_f hm hg2
              obtain ⟨r16, hr16, hm⟩ := call_b hm
              obtain ⟨r17, hr17, hm⟩ := call_b hm
              obtain ⟨r18, hr18, hm⟩ := call_b hm
              refine at_gcall (hs := [((r3.2 != 0), false)]) (fun y hy => by simp only [List.mem_cons, List.not_mem_nil, or_false] at hy; subst hy; first | exact hg2) (f := 21) (args := #[.agg #[.int .i64 g1, .int .i64 g2, .slice A1 g3.length c1], .int .i64 who1]) (d := 134) hF (by kernel_rfl) (by kernel_rfl) Try.func21 (by kernel_rfl) rfl (gameroomref_SignPlaces_w hr16 hS (fun _ hS => (hr_g3 _ (hS.dropN 4))) _hc_g3 rfl) (fun v a w hR hF => ?_)
              clear hS
              obtain ⟨A9, c9, rfl, hS⟩ := hR
              have hS : Sep w0 B w (own 3 (.slice A9 r16.length c9) (vI r16) :: blk g4 24 #[.int .i64 g1, .int .i64 g2, .slice A1 g3.length c1] :: own 3 (.slice A4 r3.1.length c4) (vI r3.1) :: blk g6 24 #[.int .i64 r5.1, .int .i64 r5.2.1, .slice A6 r5.2.2.1.length c6] :: own 3 (.slice A6 r5.2.2.1.length c6) (vI r5.2.2.1) :: fs) := hS
              refine at_run 14 [⟨false, [((r3.2 != 0), false)], callFunc 20 #[.slice A4 r3.1.length c4, .slice A9 r16.length c9], .bool r17⟩, ⟨false, [(((r3.2 != 0) || (!r17)) || (r7.2 != 0), false)], vS (Instr.loadAt 24 (.pointer (some ⟨g4, 0, none⟩))), .agg #[.int .i64 g1, .int .i64 g2, .slice A1 g3.length c1]⟩, ⟨false, [(((r3.2 != 0) || (!r17)) || (r7.2 != 0), false)], callFunc 22 #[.agg #[.int .i64 g1, .int .i64 g2, .slice A1 g3.length c1], .int .i64 who1], .int .i64 r18⟩] [some (.bool r17), none, none, none, none, none, none, none, none, some (.agg #[.int .i64 g1, .int .i64 g2, .slice A1 g3.length c1]), none, some (.int .i64 r18), none, none] [1, 2, 5, 15, 16, 148] [pl 1 (.int .i64 who1), pl 2 (.int .i64 place1), pl 5 (.pointer (some ⟨g4, 0, none⟩)), pl 15 (.pointer (some ⟨g6, 0, none⟩)), pl 16 (.int .i64 r5.2.2.2), pl 148 (.bool ((((r3.2 != 0) || (!r17)) || (r7.2 != 0)) || (r7.1 != r18)))] hF hS (by kernel_rfl) (by kernel_rfl) ?_ (fun a w hF hS => ?_)
              · exact obs_cons (ob_call Try.func20 (by kernel_rfl) rfl (fun hy _ hS => gameroomlaw_sameInts_w (ite_some hr17 (by rw [show (r3.2 != 0) = false from hy ((r3.2 != 0), false) (by simp)]; try rfl)) hS (fun _ hS => (hS.at_ 2 rfl).rd) ((hS.at_ 2 rfl).cap1) rfl (fun _ hS => (hS.at_ 0 rfl).rd) ((hS.at_ 0 rfl).cap1) rfl)) <| obs_cons (ob_loadA (cs := #[.int .i64 g1, .int .i64 g2, .slice A1 g3.length c1]) (by kernel_rfl) (by kernel_rfl) (fun _ _ hS => (hS.at_ 1 rfl).cellsAt 0 (by rfl))) <| obs_cons (ob_call Try.func22 (by kernel_rfl) rfl (fun hy _ hS => gameroomref_OthelloNext_w (ite_some hr18 (by rw [show (((r3.2 != 0) || (!r17)) || (r7.2 != 0)) = false from hy (((r3.2 != 0) || (!r17)) || (r7.2 != 0), false) (by simp)]; try rfl)) hS (fun _ hS => (hr_g3 _ (hS.dropN 5))) _hc_g3 rfl)) <| obs_nil
              refine at_end [1, 2, 5, 15, 16, 148] [pl 1 (.int .i64 who1), pl 2 (.int .i64 place1), pl 5 (.pointer (some ⟨g4, 0, none⟩)), pl 15 (.pointer (some ⟨g6, 0, none⟩)), pl 16 (.int .i64 r5.2.2.2), pl 148 (.bool ((((r3.2 != 0) || (!r17)) || (r7.2 != 0)) || (r7.1 != r18)))] hF rfl (by kernel_rfl) (fun hF => ?_)
              refine then_n ?_
              have hS := hS.pickN 5 [1, 3, 4] (by decide)
              exact ⟨((((r3.2 != 0) || (!r17)) || (r7.2 != 0)) || (r7.1 != r18)), hF.weak [1, 2, 5, 15, 16, 148] (by kernel_rfl), hS, hm⟩
      · refine reg [] [] [1, 2, 5, 13, 14, 15, 16, 17, 18, 19, 101] [pl 1 (.int .i64 who1), pl 2 (.int .i64 place1), pl 5 (.pointer (some ⟨g4, 0, none⟩)), pl 13 (.slice A4 r3.1.length c4), pl 14 (.int .i64 r3.2), pl 15 (.pointer (some ⟨g6, 0, none⟩)), pl 16 (.int .i64 r5.2.2.2), pl 17 (.int .i64 r7.1), pl 18 (.int .i64 r7.2), pl 19 (.int .i64 no1), pl 101 (.bool (no1 != 0))] hF hS Fol (by kernel_rfl) (by kernel_rfl) (by kernel_rfl) ?_ (fun a w hF hS => ?_)
        · exact obs_nil
        refine cond_ev (t := 101) (b := (no1 != 0)) hF (by kernel_rfl) (fun hb => ?_) (fun hb => ?_)
        · replace hm := if_t hm hb
          obtain ⟨r13, hr13, hm⟩ := call_b hm
          refine reg [⟨false, [((((r3.2 == no1) && (r5.2.2.2 == no1)) && (r7.2 == no1)) && ((r3.1.length : Int) == 0), true)], vS (Instr.loadAt 24 (.pointer (some ⟨g6, 0, none⟩))), .agg #[.int .i64 r5.1, .int .i64 r5.2.1, .slice A6 r5.2.2.1.length c6]⟩, ⟨false, [((((r3.2 == no1) && (r5.2.2.2 == no1)) && (r7.2 == no1)) && ((r3.1.length : Int) == 0), true)], callFunc 16 #[.agg #[.int .i64 r5.1, .int .i64 r5.2.1, .slice A6 r5.2.2.1.length c6]], .bool r13⟩] [none, none, none, none, none, none, none, none, none, none, none, none, none, none, none, none, none, none, none, some (.agg #[.int .i64 r5.1, .int .i64 r5.2.1, .slice A6 r5.2.2.1.length c6]), some (.bool r13), none, none, none, none, none, none] [10] [pl 10 (.bool ((((((r3.2 == no1) && (r5.2.2.2 == no1)) && (r7.2 == no1)) && ((r3.1.length : Int) == 0)) && r13) && (r7.1 == 0)))] hF hS Fol (by kernel_rfl) (by kernel_rfl) (by kernel_rfl) ?_ (fun a w hF hS => ?_)
          · exact obs_cons (ob_loadA (cs := #[.int .i64 r5.1, .int .i64 r5.2.1, .slice A6 r5.2.2.1.length c6]) (by kernel_rfl) (by kernel_rfl) (fun _ _ hS => (hS.at_ 2 rfl).cellsAt 0 (by rfl))) <| obs_cons (ob_call Try.func16 (by kernel_rfl) rfl (fun hy _ hS => gameroomlaw_noGrid_w (ite_some hr13 (by rw [show ((((r3.2 == no1) && (r5.2.2.2 == no1)) && (r7.2 == no1)) && ((r3.1.length : Int) == 0)) = true from hy ((((r3.2 == no1) && (r5.2.2.2 == no1)) && (r7.2 == no1)) && ((r3.1.length : Int) == 0), true) (by simp)]; try rfl)) hS (fun _ hS => (hS.at_ 3 rfl).rd) ((hS.at_ 3 rfl).cap1) rfl)) <| obs_nil
          refine wp_ret ?_
          refine then_r ?_
          have hS := hS.pickN 4 [] (by decide)
          have hm : some ((((((r3.2 == no1) && (r5.2.2.2 == no1)) && (r7.2 == no1)) && ((r3.1.length : Int) == 0)) && r13) && (r7.1 == 0)) = some r := hm
          obtain rfl := Option.some.inj hm
          exact retV (rs := [.tmp 10]) (vs := [.bool ((((((r3.2 == no1) && (r5.2.2.2 == no1)) && (r7.2 == no1)) && ((r3.1.length : Int) == 0)) && r13) && (r7.1 == 0))]) hF rfl (rv_t (by kernel_rfl) <| rv_nil) rfl ⟨rfl, hS⟩
        · replace hm := if_f hm hb
          refine wp_skip ?_
          refine then_n ?_
          exact ⟨hF.weak [1, 2, 5, 13, 14, 15, 16, 17, 18] (by kernel_rfl), hS, hm⟩
    · obtain ⟨r12, hr12, hm⟩ := call_b hm
      refine reg [⟨false, [], vS (Instr.loadAt 24 (.pointer (some ⟨g4, 0, none⟩))), .agg #[.int .i64 g1, .int .i64 g2, .slice A1 g3.length c1]⟩, ⟨false, [], callFunc 19 #[.agg #[.int .i64 g1, .int .i64 g2, .slice A1 g3.length c1]], .bool r12⟩] [some (.agg #[.int .i64 g1, .int .i64 g2, .slice A1 g3.length c1]), some (.bool r12), none] [1, 2, 5, 13, 14, 15, 16, 17, 18, 19, 93] [pl 1 (.int .i64 who1), pl 2 (.int .i64 place1), pl 5 (.pointer (some ⟨g4, 0, none⟩)), pl 13 (.slice A4 r3.1.length c4), pl 14 (.int .i64 r3.2), pl 15 (.pointer (some ⟨g6, 0, none⟩)), pl 16 (.int .i64 r5.2.2.2), pl 17 (.int .i64 r7.1), pl 18 (.int .i64 r7.2), pl 19 (.int .i64 0), pl 93 (.bool (!r12))] hF hS Fol (by kernel_rfl) (by kernel_rfl) (by kernel_rfl) ?_ (fun a w hF hS => ?_)
      · exact obs_cons (ob_loadA (cs := #[.int .i64 g1, .int .i64 g2, .slice A1 g3.length c1]) (by kernel_rfl) (by kernel_rfl) (fun _ _ hS => (hS.at_ 0 rfl).cellsAt 0 (by rfl))) <| obs_cons (ob_call Try.func19 (by kernel_rfl) rfl (fun _ _ hS => gameroomref_OthelloMay_w hr12 hS (fun _ hS => (hr_g3 _ (hS.dropN 4))) _hc_g3 rfl)) <| obs_nil
      refine cond_ev (t := 93) (b := !r12) hF (by kernel_rfl) (fun hb => ?_) (fun hb => ?_)
      · replace hm := if_t hm hb
        refine reg1 [] [] [1, 2, 5, 13, 14, 15, 16, 17, 18, 19] [pl 1 (.int .i64 who1), pl 2 (.int .i64 place1), pl 5 (.pointer (some ⟨g4, 0, none⟩)), pl 13 (.slice A4 r3.1.length c4), pl 14 (.int .i64 r3.2), pl 15 (.pointer (some ⟨g6, 0, none⟩)), pl 16 (.int .i64 r5.2.2.2), pl 17 (.int .i64 r7.1), pl 18 (.int .i64 r7.2), pl 19 (.int .i64 12)] hF hS Fol (by kernel_rfl) (by kernel_rfl) (by kernel_rfl) ?_ (fun a w hF hS => ?_)
        · exact obs_nil
        refine then_n ?_
        exact ⟨12, hF.weak [1, 2, 5, 13, 14, 15, 16, 17, 18, 19] (by kernel_rfl), hS, hm⟩
      · replace hm := if_f hm hb
        refine reg [] [] [1, 2, 5, 13, 14, 15, 16, 17, 18, 19, 99] [pl 1 (.int .i64 who1), pl 2 (.int .i64 place1), pl 5 (.pointer (some ⟨g4, 0, none⟩)), pl 13 (.slice A4 r3.1.length c4), pl 14 (.int .i64 r3.2), pl 15 (.pointer (some ⟨g6, 0, none⟩)), pl 16 (.int .i64 r5.2.2.2), pl 17 (.int .i64 r7.1), pl 18 (.int .i64 r7.2), pl 19 (.int .i64 0), pl 99 (.bool ((who1 != 1) && (who1 != 2)))] hF hS Fol (by kernel_rfl) (by kernel_rfl) (by kernel_rfl) ?_ (fun a w hF hS => ?_)
        · exact obs_nil
        refine cond_ev (t := 99) (b := (who1 != 1) && (who1 != 2)) hF (by kernel_rfl) (fun hb => ?_) (fun hb => ?_)
        · replace hm := if_t hm hb
          refine reg1 [] [] [1, 2, 5, 13, 14, 15, 16, 17, 18, 19] [pl 1 (.int .i64 who1), pl 2 (.int .i64 place1), pl 5 (.pointer (some ⟨g4, 0, none⟩)), pl 13 (.slice A4 r3.1.length c4), pl 14 (.int .i64 r3.2), pl 15 (.pointer (some ⟨g6, 0, none⟩)), pl 16 (.int .i64 r5.2.2.2), pl 17 (.int .i64 r7.1), pl 18 (.int .i64 r7.2), pl 19 (.int .i64 4)] hF hS Fol (by kernel_rfl) (by kernel_rfl) (by kernel_rfl) ?_ (fun a w hF hS => ?_)
          · exact obs_nil
          refine then_n ?_
          exact ⟨4, hF.weak [1, 2, 5, 13, 14, 15, 16, 17, 18, 19] (by kernel_rfl), hS, hm⟩
        · replace hm := if_f hm hb
          refine wp_skip ?_
          refine then_n ?_
          exact ⟨0, hF.weak [1, 2, 5, 13, 14, 15, 16, 17, 18, 19] (by kernel_rfl), hS, hm⟩
  · refine reg [] [] [1, 2, 3, 4, 5, 11, 12, 13, 14, 15, 16, 17, 18, 73] [pl 1 (.int .i64 who1), pl 2 (.int .i64 place1), pl 3 (.int .i64 w1), pl 4 (.int .i64 h1), pl 5 (.pointer (some ⟨g4, 0, none⟩)), pl 11 (.pointer (some ⟨g5, 0, none⟩)), pl 12 (.int .i64 r1.2.2.2), pl 13 (.slice A4 r3.1.length c4), pl 14 (.int .i64 r3.2), pl 15 (.pointer (some ⟨g6, 0, none⟩)), pl 16 (.int .i64 r5.2.2.2), pl 17 (.int .i64 r7.1), pl 18 (.int .i64 r7.2), pl 73 (.bool ((((((decide (w1 < 4)) || (decide ((8 : Int) < w1))) || (decide (h1 < 4))) || (decide ((8 : Int) < h1))) || ((Int.tmod w1 2) == 1)) || ((Int.tmod h1 2) == 1)))] hF hS Fol (by kernel_rfl) (by kernel_rfl) (by kernel_rfl) ?_ (fun a w hF hS => ?_)
    · exact obs_nil
    refine cond_ev (t := 73) (b := (((((decide (w1 < 4)) || (decide ((8 : Int) < w1))) || (decide (h1 < 4))) || (decide ((8 : Int) < h1))) || ((Int.tmod w1 2) == 1)) || ((Int.tmod h1 2) == 1)) hF (by kernel_rfl) (fun hb => ?_) (fun hb => ?_)
    · replace hm := if_t hm hb
      obtain ⟨r8, hr8, hm⟩ := call_b hm
      refine reg [⟨false, [((r1.2.2.2 != 3), false)], vS (Instr.loadAt 24 (.pointer (some ⟨g5, 0, none⟩))), .agg #[.int .i64 r1.1, .int .i64 r1.2.1, .slice A2 r1.2.2.1.length c2]⟩, ⟨false, [((r1.2.2.2 != 3), false)], callFunc 16 #[.agg #[.int .i64 r1.1, .int .i64 r1.2.1, .slice A2 r1.2.2.1.length c2]], .bool r8⟩] [none, none, none, some (.agg #[.int .i64 r1.1, .int .i64 r1.2.1, .slice A2 r1.2.2.1.length c2]), some (.bool r8), none, none] [1, 2, 5, 13, 14, 15, 16, 17, 18, 80] [pl 1 (.int .i64 who1), pl 2 (.int .i64 place1), pl 5 (.pointer (some ⟨g4, 0, none⟩)), pl 13 (.slice A4 r3.1.length c4), pl 14 (.int .i64 r3.2), pl 15 (.pointer (some ⟨g6, 0, none⟩)), pl 16 (.int .i64 r5.2.2.2), pl 17 (.int .i64 r7.1), pl 18 (.int .i64 r7.2), pl 80 (.bool ((r1.2.2.2 != 3) || (!r8)))] hF hS Fol (by kernel_rfl) (by kernel_rfl) (by kernel_rfl) ?_ (fun a w hF hS => ?_)
      · exact obs_cons (ob_loadA (cs := #[.int .i64 r1.1, .int .i64 r1.2.1, .slice A2 r1.2.2.1.length c2]) (by kernel_rfl) (by kernel_rfl) (fun _ _ hS => (hS.at_ 6 rfl).cellsAt 0 (by rfl))) <| obs_cons (ob_call Try.func16 (by kernel_rfl) rfl (fun hy _ hS => gameroomlaw_noGrid_w (ite_some hr8 (by rw [show (r1.2.2.2 != 3) = false from hy ((r1.2.2.2 != 3), false) (by simp)]; try rfl)) hS (fun _ hS => (hS.at_ 7 rfl).rd) ((hS.at_ 7 rfl).cap1) rfl)) <| obs_nil
      refine cond_ev (t := 80) (b := (r1.2.2.2 != 3) || (!r8)) hF (by kernel_rfl) (fun hb => ?_) (fun hb => ?_)
      · replace hm := if_t hm hb
        refine reg [] [] [10] [pl 10 (.bool false)] hF hS Fol (by kernel_rfl) (by kernel_rfl) (by kernel_rfl) ?_ (fun a w hF hS => ?_)
        · exact obs_nil
        refine wp_ret ?_
        refine then_r ?_
        have hS := hS.pickN 9 [] (by decide)
        have hm : some false = some r := hm
        obtain rfl := Option.some.inj hm
        exact retV (rs := [.tmp 10]) (vs := [.bool false]) hF rfl (rv_t (by kernel_rfl) <| rv_nil) rfl ⟨rfl, hS⟩
      · replace hm := if_f hm hb
        refine wp_skip ?_
        refine then_n ?_
        have hS := hS.pickN 9 [8, 4, 1, 2] (by decide)
        exact ⟨hF.weak [1, 2, 5, 13, 14, 15, 16, 17, 18] (by kernel_rfl), hS, hm⟩
    · replace hm := if_f hm hb
      refine seq_cut (fun a w => ∃ (z1 : Bool), Fr 186 [pl 1 (.int .i64 who1), pl 2 (.int .i64 place1), pl 5 (.pointer (some ⟨g4, 0, none⟩)), pl 13 (.slice A4 r3.1.length c4), pl 14 (.int .i64 r3.2), pl 15 (.pointer (some ⟨g6, 0, none⟩)), pl 16 (.int .i64 r5.2.2.2), pl 17 (.int .i64 r7.1), pl 18 (.int .i64 r7.2), pl 90 (.bool z1)] a ∧ Sep w0 B w (blk g4 24 #[.int .i64 g1, .int .i64 g2, .slice A1 g3.length c1] :: own 3 (.slice A4 r3.1.length c4) (vI r3.1) :: blk g6 24 #[.int .i64 r5.1, .int .i64 r5.2.1, .slice A6 r5.2.2.1.length c6] :: own 3 (.slice A6 r5.2.2.1.length c6) (vI r5.2.2.1) :: fs) ∧ ((gameroomlaw_OthelloPuts_J2 g1 g2 g3 who1 place1 r3 r5 r7) z1).bind some = some r) ?_ ?_
      · rintro a w ⟨z1, hF, hS, hm⟩
        unfold gameroomlaw_OthelloPuts_J2 at hm
        refine cond_ev (t := 90) (b := z1) hF (by kernel_rfl) (fun hb => ?_) (fun hb => ?_)
        · replace hm := if_t hm hb
          refine reg [] [] [10] [pl 10 (.bool false)] hF hS Fol (by kernel_rfl) (by kernel_rfl) (by kernel_rfl) ?_ (fun a w hF hS => ?_)
          · exact obs_nil
          refine wp_ret ?_
          refine then_r ?_
          have hS := hS.pickN 4 [] (by decide)
          have hm : some false = some r := hm
          obtain rfl := Option.some.inj hm
          exact retV (rs := [.tmp 10]) (vs := [.bool false]) hF rfl (rv_t (by kernel_rfl) <| rv_nil) rfl ⟨rfl, hS⟩
        · replace hm := if_f hm hb
          refine wp_skip ?_
          refine then_n ?_
          exact ⟨hF.weak [1, 2, 5, 13, 14, 15, 16, 17, 18] (by kernel_rfl), hS, hm⟩
      · refine regMix3 [0, 1, 2, 3, 4, 5] 6 [7, 8, 9] [⟨false, [((r1.2.2.2 != 0), false)], vS (Instr.loadAt 24 (.pointer (some ⟨g5, 0, none⟩))), .agg #[.int .i64 r1.1, .int .i64 r1.2.1, .slice A2 r1.2.2.1.length c2]⟩] [none, none, none, some (.agg #[.int .i64 r1.1, .int .i64 r1.2.1, .slice A2 r1.2.2.1.length c2]), none, none] [1, 2, 5, 13, 14, 15, 16, 17, 18, 83, 84, 85, 86] [pl 1 (.int .i64 who1), pl 2 (.int .i64 place1), pl 5 (.pointer (some ⟨g4, 0, none⟩)), pl 13 (.slice A4 r3.1.length c4), pl 14 (.int .i64 r3.2), pl 15 (.pointer (some ⟨g6, 0, none⟩)), pl 16 (.int .i64 r5.2.2.2), pl 17 (.int .i64 r7.1), pl 18 (.int .i64 r7.2), pl 83 (.bool (r1.2.2.2 != 0)), ⟨84, [(83, false)], .agg #[.int .i64 r1.1, .int .i64 r1.2.1, .slice A2 r1.2.2.1.length c2]⟩, ⟨85, [(83, false)], .int .i64 w1⟩, ⟨86, [(83, false)], .int .i64 h1⟩] hF hS Fol (by kernel_rfl) (by kernel_rfl) (by kernel_rfl) (by kernel_rfl) (by kernel_rfl) (by kernel_rfl) ?_ (fun a w hF hS => ?_)
        · exact obs_cons (ob_loadA (cs := #[.int .i64 r1.1, .int .i64 r1.2.1, .slice A2 r1.2.2.1.length c2]) (by kernel_rfl) (by kernel_rfl) (fun _ _ hS => (hS.at_ 6 rfl).cellsAt 0 (by rfl))) <| obs_nil
        rcases Bool.eq_false_or_eq_true (r1.2.2.2 != 0) with hg1 | hg1
        · replace hm := if_t hm hg1
          obtain ⟨r9, hr9, hm⟩ := call_b hm
          refine at_gskip (d := 87) (v := .agg #[.int .i64 0, .int .i64 0, .slice none 0 0]) (hs := [((r1.2.2.2 != 0), false)]) (ctx := [(83, false)]) hF (by kernel_rfl) (by kernel_rfl) (fun h => absurd (h ((r1.2.2.2 != 0), false) (by simp)) (by simp [hg1])) (fun a hF => ?_)
          refine at_fin3 rfl (hS) ?_
          refine at_run 3 [⟨false, [((r1.2.2.2 != 0), false)], callFunc 17 #[.agg #[.int .i64 r1.1, .int .i64 r1.2.1, .slice A2 r1.2.2.1.length c2], .agg #[.int .i64 0, .int .i64 0, .slice none 0 0]], .bool r9⟩] [some (.bool r9), none, none] [1, 2, 5, 13, 14, 15, 16, 17, 18, 90] [pl 1 (.int .i64 who1), pl 2 (.int .i64 place1), pl 5 (.pointer (some ⟨g4, 0, none⟩)), pl 13 (.slice A4 r3.1.length c4), pl 14 (.int .i64 r3.2), pl 15 (.pointer (some ⟨g6, 0, none⟩)), pl 16 (.int .i64 r5.2.2.2), pl 17 (.int .i64 r7.1), pl 18 (.int .i64 r7.2), pl 90 (.bool ((r1.2.2.2 != 0) || (!r9)))] hF hS (by kernel_rfl) (by kernel_rfl) ?_ (fun a w hF hS => ?_)
          · exact obs_cons (Ob.vac (fun h => absurd (h ((r1.2.2.2 != 0), false) (by simp)) (by simp [hg1]))) <| obs_nil
          refine at_end [1, 2, 5, 13, 14, 15, 16, 17, 18, 90] [pl 1 (.int .i64 who1), pl 2 (.int .i64 place1), pl 5 (.pointer (some ⟨g4, 0, none⟩)), pl 13 (.slice A4 r3.1.length c4), pl 14 (.int .i64 r3.2), pl 15 (.pointer (some ⟨g6, 0, none⟩)), pl 16 (.int .i64 r5.2.2.2), pl 17 (.int .i64 r7.1), pl 18 (.int .i64 r7.2), pl 90 (.bool ((r1.2.2.2 != 0) || (!r9)))] hF rfl (by kernel_rfl) (fun hF => ?_)
          refine np_n ?_
          refine then_n ?_
          have hS := hS.pickN 9 [8, 4, 1, 2] (by decide)
          exact ⟨((r1.2.2.2 != 0) || (!r9)), hF.weak [1, 2, 5, 13, 14, 15, 16, 17, 18, 90] (by kernel_rfl), hS, hm⟩
        · replace hm := if_f hm hg1
          obtain ⟨r10, hr10, hm⟩ := call_b hm
          obtain ⟨r11, hr11, hm⟩ := call_b hm
          refine at_gcall (hs := [((r1.2.2.2 != 0), false)]) (fun y hy => by simp only [List.mem_cons, List.not_mem_nil, or_false] at hy; subst hy; first | exact hg1) (f := 18) (args := #[.int .i64 w1, .int .i64 h1]) (d := 87) hF (by kernel_rfl) (by kernel_rfl) Try.func18 (by kernel_rfl) rfl (gameroomref_OthelloNew_w hr10 hS ) (fun v a w hR hF => ?_)
          clear hS
          obtain ⟨A8, c8, rfl, hS⟩ := hR
          have hS : Sep w0 B w (own 3 (.slice A8 r10.2.2.length c8) (vI r10.2.2) :: own 3 (.slice A7 r6.2.2.length c7) (vI r6.2.2) :: blk g6 24 #[.int .i64 r5.1, .int .i64 r5.2.1, .slice A6 r5.2.2.1.length c6] :: own 3 (.slice A6 r5.2.2.1.length c6) (vI r5.2.2.1) :: own 3 (.slice A5 r4.2.2.length c5) (vI r4.2.2) :: own 3 (.slice A4 r3.1.length c4) (vI r3.1) :: own 3 (.slice A3 r2.2.2.length c3) (vI r2.2.2) :: blk g5 24 #[.int .i64 r1.1, .int .i64 r1.2.1, .slice A2 r1.2.2.1.length c2] :: own 3 (.slice A2 r1.2.2.1.length c2) (vI r1.2.2.1) :: blk g4 24 #[.int .i64 g1, .int .i64 g2, .slice A1 g3.length c1] :: fs) := hS
          refine at_fin3 rfl (hS.pickN 10 [1, 2, 3, 4, 5, 6, 7, 8, 9] (by decide)) ?_
          refine at_run 3 [⟨false, [((r1.2.2.2 != 0), false)], callFunc 17 #[.agg #[.int .i64 r1.1, .int .i64 r1.2.1, .slice A2 r1.2.2.1.length c2], .agg #[.int .i64 r10.1, .int .i64 r10.2.1, .slice A8 r10.2.2.length c8]], .bool r11⟩] [some (.bool r11), none, none] [1, 2, 5, 13, 14, 15, 16, 17, 18, 90] [pl 1 (.int .i64 who1), pl 2 (.int .i64 place1), pl 5 (.pointer (some ⟨g4, 0, none⟩)), pl 13 (.slice A4 r3.1.length c4), pl 14 (.int .i64 r3.2), pl 15 (.pointer (some ⟨g6, 0, none⟩)), pl 16 (.int .i64 r5.2.2.2), pl 17 (.int .i64 r7.1), pl 18 (.int .i64 r7.2), pl 90 (.bool ((r1.2.2.2 != 0) || (!r11)))] hF hS (by kernel_rfl) (by kernel_rfl) ?_ (fun a w hF hS => ?_)
          · exact obs_cons (ob_call Try.func17 (by kernel_rfl) rfl (fun hy _ hS => gameroomref_SameGrid_w (ite_some hr11 (by rw [show (r1.2.2.2 != 0) = false from hy ((r1.2.2.2 != 0), false) (by simp)]; try rfl)) hS (fun _ hS => (hS.at_ 8 rfl).rd) ((hS.at_ 8 rfl).cap1) rfl (fun _ hS => (hS.at_ 0 rfl).rd) ((hS.at_ 0 rfl).cap1) rfl)) <| obs_nil
          refine at_end [1, 2, 5, 13, 14, 15, 16, 17, 18, 90] [pl 1 (.int .i64 who1), pl 2 (.int .i64 place1), pl 5 (.pointer (some ⟨g4, 0, none⟩)), pl 13 (.slice A4 r3.1.length c4), pl 14 (.int .i64 r3.2), pl 15 (.pointer (some ⟨g6, 0, none⟩)), pl 16 (.int .i64 r5.2.2.2), pl 17 (.int .i64 r7.1), pl 18 (.int .i64 r7.2), pl 90 (.bool ((r1.2.2.2 != 0) || (!r11)))] hF rfl (by kernel_rfl) (fun hF => ?_)
          refine np_n ?_
          refine then_n ?_
          have hS := hS.pickN 10 [9, 5, 2, 3] (by decide)
          exact ⟨((r1.2.2.2 != 0) || (!r11)), hF.weak [1, 2, 5, 13, 14, 15, 16, 17, 18, 90] (by kernel_rfl), hS, hm⟩

end Go.Proofs.Ytogecbgngnjhgaa
