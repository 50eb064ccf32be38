/-
  Models and walks, printed by our own program (wip/gen).
-/
import Derived.Test.YtlkdblflibgfpaaFB
import Derived.Test.YtlkdblflibgfpaaSI
import Derived.Test.YtlkdblflibgfpaaNVa
namespace Go.Proofs.Ytlkdblflibgfpaa
open Go Go.GL Go.RowKit

noncomputable def gameroomref_SlideHome_m (w1 : Int) (h1 : Int) : Option (Int × Int × List Int) :=
  (loop (gameroomref_SlideHome_L1 w1 h1) (([] : List Int), 1)).bind (gameroomref_SlideHome_K1 w1 h1)

set_option maxRecDepth 100000 in
set_option maxHeartbeats 4000000 in
theorem gameroomref_SlideHome_w {w1 : Int} {h1 : Int} {r : (Int × Int × List Int)} {w0 w : World} {B : Nat} {fs : List HP} (hm : gameroomref_SlideHome_m w1 h1 = some r) (hS : Sep w0 B w (fs)) :
    Calls Try.prog 66 #[.int .i64 w1, .int .i64 h1] w fun e w' => ∃ v, e = .returned v ∧ ∃ (A5 : Option Addr) (c5 : Nat), v = .agg #[.int .i64 r.1, .int .i64 r.2.1, .slice A5 r.2.2.length c5] ∧ Sep w0 B w' (own 3 (.slice A5 r.2.2.length c5) (vI r.2.2) :: fs) := by
  obtain ⟨i3, hi3, hz3, hs3, hb3⟩ := info_parts Info3
  obtain ⟨i22, hi22, hz22, hs22, hb22⟩ := info_parts Info22
  unfold gameroomref_SlideHome_m at hm
  replace hm := start_b hm
  refine enter (l := [.int .i64 w1, .int .i64 h1]) (n := 28) Try.func66 rfl rfl (by simp) (fun a hF => ?_)
  refine seqR ?_
  refine at_do (d := 4) (s := vS (Instr.alloc 41 true (.tuple #[]))) (v := .pointer (some ⟨w.heap.size, 0, none⟩)) (w' := w.alloc (.cells #[.int .i64 0, .int .i64 0, .slice none 0 0] 41)) hF (by kernel_rfl) (by kernel_rfl) (by kernel_rfl) (fun a hF => ?_)
  have hS : Sep w0 B (w.alloc (.cells #[.int .i64 0, .int .i64 0, .slice none 0 0] 41)) (blk w.heap.size 41 #[.int .i64 0, .int .i64 0, .slice none 0 0] :: (fs)) := hS.box 41 #[.int .i64 0, .int .i64 0, .slice none 0 0]
  generalize w.heap.size = g1 at hF hS
  generalize w.alloc (.cells #[.int .i64 0, .int .i64 0, .slice none 0 0] 41) = w at hS ⊢
  refine at_end [0, 1, 4] [pl 0 (.int .i64 w1), pl 1 (.int .i64 h1), pl 4 (.pointer (some ⟨g1, 0, none⟩))] hF rfl (by kernel_rfl) (fun hF => ?_)
  refine then_n ?_
  refine seqR ?_
  refine at_run 3 [] [] [0, 1, 4, 9] [pl 0 (.int .i64 w1), pl 1 (.int .i64 h1), pl 4 (.pointer (some ⟨g1, 0, none⟩)), pl 9 (.agg #[.int .i64 w1, .int .i64 h1, .slice none 0 0])] hF hS (by kernel_rfl) (by kernel_rfl) ?_ (fun a w hF hS => ?_)
  · exact obs_nil
  refine at_do (d := 5) (s := vS (Instr.alloc 41 true (.tuple #[]))) (v := .pointer (some ⟨w.heap.size, 0, none⟩)) (w' := w.alloc (.cells #[.int .i64 0, .int .i64 0, .slice none 0 0] 41)) hF (by kernel_rfl) (by kernel_rfl) (by kernel_rfl) (fun a hF => ?_)
  have hS : Sep w0 B (w.alloc (.cells #[.int .i64 0, .int .i64 0, .slice none 0 0] 41)) (blk w.heap.size 41 #[.int .i64 0, .int .i64 0, .slice none 0 0] :: (blk g1 41 #[.int .i64 0, .int .i64 0, .slice none 0 0] :: fs)) := hS.box 41 #[.int .i64 0, .int .i64 0, .slice none 0 0]
  generalize w.heap.size = g2 at hF hS
  generalize w.alloc (.cells #[.int .i64 0, .int .i64 0, .slice none 0 0] 41) = w at hS ⊢
  obtain ⟨w, hrun, hS⟩ := run_putA (P := Try.prog) (t := 41) (us := #[.int .i64 w1, .int .i64 h1, .slice none 0 0]) (o := 0) (hS.at_ 0 rfl) (by kernel_rfl) (all_one (by kernel_rfl)) (Nat.le_of_ble_eq_true (by kernel_rfl))
  refine at_skip hF (by kernel_rfl) hrun ?_
  have hS : Sep w0 B w (blk g2 41 #[.int .i64 w1, .int .i64 h1, .slice none 0 0] :: blk g1 41 #[.int .i64 0, .int .i64 0, .slice none 0 0] :: fs) := hS
  refine at_end [0, 1, 4, 5] [pl 0 (.int .i64 w1), pl 1 (.int .i64 h1), pl 4 (.pointer (some ⟨g1, 0, none⟩)), pl 5 (.pointer (some ⟨g2, 0, none⟩))] hF rfl (by kernel_rfl) (fun hF => ?_)
  refine then_n ?_
  refine seq_cut (fun a w => ∃ (g4 : List Int) (A2 : Option Addr) (c2 : Nat), Fr 28 [pl 4 (.pointer (some ⟨g1, 0, none⟩)), pl 5 (.pointer (some ⟨g2, 0, none⟩))] a ∧ Sep w0 B w (blk g1 41 #[.int .i64 0, .int .i64 0, .slice none 0 0] :: blk g2 41 #[.int .i64 w1, .int .i64 h1, .slice A2 g4.length c2] :: own 3 (.slice A2 g4.length c2) (vI g4) :: fs) ∧ ((gameroomref_SlideHome_J1 w1 h1) g4).bind some = some r) ?_ ?_
  · rintro a w ⟨g4, A2, c2, hF, hS, hm⟩
    unfold gameroomref_SlideHome_J1 at hm
    refine seqR ?_
    refine at_run 1 [⟨false, [], vS (Instr.loadAt 41 (.pointer (some ⟨g2, 0, none⟩))), .agg #[.int .i64 w1, .int .i64 h1, .slice A2 g4.length c2]⟩] [some (.agg #[.int .i64 w1, .int .i64 h1, .slice A2 g4.length c2])] [4, 27] [pl 4 (.pointer (some ⟨g1, 0, none⟩)), pl 27 (.agg #[.int .i64 w1, .int .i64 h1, .slice A2 g4.length c2])] hF hS (by kernel_rfl) (by kernel_rfl) ?_ (fun a w hF hS => ?_)
    · exact obs_cons (ob_loadA (cs := #[.int .i64 w1, .int .i64 h1, .slice A2 g4.length c2]) (by kernel_rfl) (by kernel_rfl) (fun _ _ hS => (hS.at_ 1 rfl).cellsAt 0 (by rfl))) <| obs_nil
    obtain ⟨w, hrun, hS⟩ := run_putA (P := Try.prog) (t := 41) (us := #[.int .i64 w1, .int .i64 h1, .slice A2 g4.length c2]) (o := 0) (hS.at_ 0 rfl) (by kernel_rfl) (all_one (by kernel_rfl)) (Nat.le_of_ble_eq_true (by kernel_rfl))
    refine at_skip hF (by kernel_rfl) hrun ?_
    have hS : Sep w0 B w (blk g1 41 #[.int .i64 w1, .int .i64 h1, .slice A2 g4.length c2] :: blk g2 41 #[.int .i64 w1, .int .i64 h1, .slice A2 g4.length c2] :: own 3 (.slice A2 g4.length c2) (vI g4) :: fs) := hS
    refine at_end [4] [pl 4 (.pointer (some ⟨g1, 0, none⟩))] hF rfl (by kernel_rfl) (fun hF => ?_)
    refine then_n ?_
    refine wp_ret ?_
    have hld0 := run_loadVarA (P := Try.prog) (t := 41) (cs := #[.int .i64 w1, .int .i64 h1, .slice A2 g4.length c2]) (by kernel_rfl) (by kernel_rfl) ((hS.at_ 0 rfl).cellsAt 0 (by rfl))
    have hS := hS.pickN 3 [2] (by decide)
    have hm : some (w1, h1, g4) = some r := hm
    obtain rfl := Option.some.inj hm
    exact retV (rs := [.cell 4 41]) (vs := [.agg #[.int .i64 w1, .int .i64 h1, .slice A2 g4.length c2]]) hF rfl (rv_c (by kernel_rfl) hld0 <| rv_nil) rfl ⟨_, rfl, A2, c2, rfl, hS⟩
  · refine reg [] [] [0, 1, 4, 5, 6] [pl 0 (.int .i64 w1), pl 1 (.int .i64 h1), pl 4 (.pointer (some ⟨g1, 0, none⟩)), pl 5 (.pointer (some ⟨g2, 0, none⟩)), pl 6 (.int .i64 1)] hF hS Fol (by kernel_rfl) (by kernel_rfl) (by kernel_rfl) ?_ (fun a w hF hS => ?_)
    · exact obs_nil
    refine wp_block ?_
    have hS : Sep w0 B w (own 3 (.slice none 0 0) (vI ([] : List Int)) :: blk g2 41 #[.int .i64 w1, .int .i64 h1, .slice none 0 0] :: blk g1 41 #[.int .i64 0, .int .i64 0, .slice none 0 0] :: fs) := hS.nil 3
    have hS : Sep w0 B w (own 3 (.slice none 0 0) (vI ([] : List Int)) :: blk g2 41 #[.int .i64 w1, .int .i64 h1, .slice none 0 0] :: blk g1 41 #[.int .i64 0, .int .i64 0, .slice none 0 0] :: fs) := hS
    have hl1 := (hS.at_ 0 rfl).len1
    have hS := (hS.at_ 0 rfl).reN hl1
    have hS := (hS.at_ 1 rfl).reBlk (congrArg (fun k9 => (#[.int .i64 w1, .int .i64 h1, .slice none k9 0] : Array Value)) hl1)
    have hS : Sep w0 B w (own 3 (.slice none (([] : List Int).length) 0) (vI ([] : List Int)) :: blk g2 41 #[.int .i64 w1, .int .i64 h1, .slice none (([] : List Int).length) 0] :: blk g1 41 #[.int .i64 0, .int .i64 0, .slice none 0 0] :: fs) := hS
    have hS := hS.pickN 3 [2, 1, 0] (by decide)
    refine wp_loop_model (S := (List Int × Int)) (R := (List Int)) (gameroomref_SlideHome_L1 w1 h1) (fun x => ((gameroomref_SlideHome_K1 w1 h1) x).bind some) r (fun (x : (List Int × Int)) a w => ∃ (A1 : Option Addr) (c1 : Nat), Fr 28 [pl 0 (.int .i64 w1), pl 1 (.int .i64 h1), pl 4 (.pointer (some ⟨g1, 0, none⟩)), pl 5 (.pointer (some ⟨g2, 0, none⟩)), pl 6 (.int .i64 x.2)] a ∧ Sep w0 B w (blk g1 41 #[.int .i64 0, .int .i64 0, .slice none 0 0] :: blk g2 41 #[.int .i64 w1, .int .i64 h1, .slice A1 x.1.length c1] :: own 3 (.slice A1 x.1.length c1) (vI x.1) :: fs)) (assoc_b hm) ⟨none, 0, hF.weak [0, 1, 4, 5, 6] (by kernel_rfl), hS⟩ ?_
    clear hF hS hm
    rintro nn1 ⟨g3, i1⟩ a w ⟨A1, c1, hF, hS⟩ hm
    generalize hφ1 : stK (gameroomref_SlideHome_L1 w1 h1) nn1 (fun x => ((gameroomref_SlideHome_K1 w1 h1) x).bind some) = φ1 at hm
    unfold gameroomref_SlideHome_L1 at hm
    dsimp only at hF hS hm
    refine seq_cut (fun a w => Fr 28 [pl 0 (.int .i64 w1), pl 1 (.int .i64 h1), pl 4 (.pointer (some ⟨g1, 0, none⟩)), pl 5 (.pointer (some ⟨g2, 0, none⟩)), pl 6 (.int .i64 i1)] a ∧ Sep w0 B w (blk g1 41 #[.int .i64 0, .int .i64 0, .slice none 0 0] :: blk g2 41 #[.int .i64 w1, .int .i64 h1, .slice A1 g3.length c1] :: own 3 (.slice A1 g3.length c1) (vI g3) :: fs) ∧ ((gameroomref_SlideHome_J2 w1 h1 g3 i1)).bind φ1 = some r) ?_ ?_
    · rintro a w ⟨hF, hS, hm⟩
      unfold gameroomref_SlideHome_J2 at hm
      refine seq_cut (fun a w => ∃ (g6 : List Int) (A4 : Option Addr) (c4 : Nat), Fr 28 [pl 0 (.int .i64 w1), pl 1 (.int .i64 h1), pl 4 (.pointer (some ⟨g1, 0, none⟩)), pl 5 (.pointer (some ⟨g2, 0, none⟩)), pl 6 (.int .i64 i1)] a ∧ Sep w0 B w (blk g1 41 #[.int .i64 0, .int .i64 0, .slice none 0 0] :: blk g2 41 #[.int .i64 w1, .int .i64 h1, .slice A4 g6.length c4] :: own 3 (.slice A4 g6.length c4) (vI g6) :: fs) ∧ ((gameroomref_SlideHome_J3 i1) g6).bind φ1 = some r) ?_ ?_
      · rintro a w ⟨g6, A4, c4, hF, hS, hm⟩
        unfold gameroomref_SlideHome_J3 at hm
        refine reg1 [] [] [0, 1, 4, 5, 6] [pl 0 (.int .i64 w1), pl 1 (.int .i64 h1), pl 4 (.pointer (some ⟨g1, 0, none⟩)), pl 5 (.pointer (some ⟨g2, 0, none⟩)), pl 6 (.int .i64 (w64 (i1 + 1)))] hF hS Fol (by kernel_rfl) (by kernel_rfl) (by kernel_rfl) ?_ (fun a w hF hS => ?_)
        · exact obs_nil
        refine then_n ?_
        rw [← hφ1] at hm
        exact ⟨(g6, (w64 (i1 + 1))), ⟨A4, c4, hF.weak [0, 1, 4, 5, 6] (by kernel_rfl), hS⟩, hm⟩
      · refine wp_block ?_
        obtain ⟨hp1, hm⟩ := asrt_b hm
        obtain ⟨hp2, hm⟩ := asrt_b hm
        refine regMix5 [0, 1, 2, 3, 4, 5, 6] [8, 10] 4 #[true, true, true, true, true, true, true, false, false, false, false] [⟨false, [], vS (Instr.loadAt 22 (.pointer (some ⟨g2, 2, none⟩))), .slice A1 g3.length c1⟩, ⟨true, [], vS (Op.intDiv .rem .i64 i1 (w64 (w1 * h1))), .int .i64 (Int.tmod i1 (w64 (w1 * h1)))⟩] [none, some (.slice A1 g3.length c1), none, none, none, none, some (.int .i64 (Int.tmod i1 (w64 (w1 * h1))))] [0, 1, 4, 5, 6, 18, 23] [pl 0 (.int .i64 w1), pl 1 (.int .i64 h1), pl 4 (.pointer (some ⟨g1, 0, none⟩)), pl 5 (.pointer (some ⟨g2, 0, none⟩)), pl 6 (.int .i64 i1), pl 18 (.slice A1 g3.length c1), pl 23 (.int .i64 (Int.tmod i1 (w64 (w1 * h1))))] hF hS Fol (by kernel_rfl) (by kernel_rfl) (by kernel_rfl) (by kernel_rfl) ?_ (fun a w hF hS => ?_)
        · exact obs_cons (ob_load Agg22 (fun _ _ hS => (hS.at_ 1 rfl).cell rfl)) <| obs_cons (ob_rem rfl (fun _ => hp1)) <| obs_nil
        refine any_step [7] (by kernel_rfl) rfl ?_
        refine (all_cons ?_ all_nil)
        · refine any_op (listed' := #[true, true, true, true, true, true, true, true, false, false, false]) (by kernel_rfl) (by kernel_rfl) ?_
          refine at_do (d := 24) (s := vS (Instr.buildSlice 22 1 #[(0, .int .i64 (Int.tmod i1 (w64 (w1 * h1))))])) (v := .slice (some ⟨w.heap.size, 0, none⟩) 1 1) (w' := w.alloc (.cells #[.int .i64 (Int.tmod i1 (w64 (w1 * h1)))] 3)) hF (by kernel_rfl) (by kernel_rfl) (by kernel_rfl) (fun a hF => ?_)
          have hS : Sep w0 B (w.alloc (.cells #[.int .i64 (Int.tmod i1 (w64 (w1 * h1)))] 3)) (own 3 (.slice (some (⟨w.heap.size, 0, none⟩ : Addr)) 1 1) (vI ([Int.tmod i1 (w64 (w1 * h1))] : List Int)) :: (blk g1 41 #[.int .i64 0, .int .i64 0, .slice none 0 0] :: blk g2 41 #[.int .i64 w1, .int .i64 h1, .slice A1 g3.length c1] :: own 3 (.slice A1 g3.length c1) (vI g3) :: fs)) := hS.lit 3 #[.int .i64 (Int.tmod i1 (w64 (w1 * h1)))] 1 rfl (by omega)
          generalize (some (⟨w.heap.size, 0, none⟩ : Addr)) = g5 at hF hS
          generalize w.alloc (.cells #[.int .i64 (Int.tmod i1 (w64 (w1 * h1)))] 3) = w at hS ⊢
          refine any_fin rfl (hS.pickN 4 [1, 2, 3] (by decide)) ?_
          refine any_step [8] (by kernel_rfl) rfl ?_
          refine (all_cons ?_ all_nil)
          · refine any_op (listed' := #[true, true, true, true, true, true, true, true, true, false, false]) (by kernel_rfl) (by kernel_rfl) ?_
            obtain ⟨A3, c3, w, hrun, hS⟩ := run_app1 (P := Try.prog) (t := 22) (m := g3) (ys := ([Int.tmod i1 (w64 (w1 * h1))] : List Int)) (A2 := g5) (m2 := 1) (c2 := 1) (Value.int .i64) (0 : Int) (hS.at_ 3 rfl) (hS.at_ 0 rfl).rd ((hS.at_ 0 rfl).len1) 22 Und22 hi3 hz3 hs3 (by omega) rfl (fun _ => rfl) hp2
            have hS : Sep w0 B w (own 3 (.slice g5 1 1) (vI ([Int.tmod i1 (w64 (w1 * h1))] : List Int)) :: blk g1 41 #[.int .i64 0, .int .i64 0, .slice none 0 0] :: blk g2 41 #[.int .i64 w1, .int .i64 h1, .slice A1 g3.length c1] :: own 3 (.slice A3 ((g3 ++ ([Int.tmod i1 (w64 (w1 * h1))] : List Int)).length) c3) (vI (g3 ++ ([Int.tmod i1 (w64 (w1 * h1))] : List Int))) :: fs) := hS
            refine at_do (d := 25) hF (by kernel_rfl) (by kernel_rfl) hrun (fun a hF => ?_)
            refine any_finE rfl (by decide) ?_
            refine any_step [9] (by kernel_rfl) rfl ?_
            refine (all_cons ?_ all_nil)
            · refine any_op (listed' := #[true, true, true, true, true, true, true, true, true, true, false]) (by kernel_rfl) (by kernel_rfl) ?_
              refine at_runW 1 [] [] [0, 1, 4, 5, 6, 25, 26] [pl 0 (.int .i64 w1), pl 1 (.int .i64 h1), pl 4 (.pointer (some ⟨g1, 0, none⟩)), pl 5 (.pointer (some ⟨g2, 0, none⟩)), pl 6 (.int .i64 i1), pl 25 (.slice A3 ((g3 ++ ([Int.tmod i1 (w64 (w1 * h1))] : List Int)).length) c3), pl 26 (.pointer (some ⟨g2, 2, none⟩))] hF hS (by kernel_rfl) (by kernel_rfl) ?_ (fun a hF => ?_)
              · exact obs_nil
              refine any_finI rfl (fun h => h) ?_
              refine any_step [10] (by kernel_rfl) rfl ?_
              refine (all_cons ?_ all_nil)
              · refine any_op (listed' := #[true, true, true, true, true, true, true, true, true, true, true]) (by kernel_rfl) (by kernel_rfl) ?_
                obtain ⟨w, hrun, hS⟩ := run_put (P := Try.prog) (t := 22) (u := .slice A3 ((g3 ++ ([Int.tmod i1 (w64 (w1 * h1))] : List Int)).length) c3) (i := 2) (hS.at_ 2 rfl) hi22 hs22 rfl (Nat.lt_of_lt_of_eq (Nat.lt_of_succ_le (Nat.le_of_ble_eq_true (by kernel_rfl))) rfl)
                refine at_skip hF (by kernel_rfl) hrun ?_
                have hS : Sep w0 B w (own 3 (.slice g5 1 1) (vI ([Int.tmod i1 (w64 (w1 * h1))] : List Int)) :: blk g1 41 #[.int .i64 0, .int .i64 0, .slice none 0 0] :: blk g2 41 #[.int .i64 w1, .int .i64 h1, .slice A3 ((g3 ++ ([Int.tmod i1 (w64 (w1 * h1))] : List Int)).length) c3] :: own 3 (.slice A3 ((g3 ++ ([Int.tmod i1 (w64 (w1 * h1))] : List Int)).length) c3) (vI (g3 ++ ([Int.tmod i1 (w64 (w1 * h1))] : List Int))) :: fs) := hS
                refine any_finE rfl (by decide) ?_
                refine any_end (by kernel_rfl) ?_
                refine np_n ?_
                refine block_n ?_
                refine then_n ?_
                have hS := hS.pickN 4 [1, 2, 3] (by decide)
                exact ⟨(g3 ++ ([Int.tmod i1 (w64 (w1 * h1))] : List Int)), A3, c3, hF.weak [0, 1, 4, 5, 6] (by kernel_rfl), hS, hm⟩
    · refine reg [] [] [0, 1, 4, 5, 6, 14] [pl 0 (.int .i64 w1), pl 1 (.int .i64 h1), pl 4 (.pointer (some ⟨g1, 0, none⟩)), pl 5 (.pointer (some ⟨g2, 0, none⟩)), pl 6 (.int .i64 i1), pl 14 (.bool (decide (i1 ≤ (w64 (w1 * h1)))))] hF hS Fol (by kernel_rfl) (by kernel_rfl) (by kernel_rfl) ?_ (fun a w hF hS => ?_)
      · exact obs_nil
      refine cond_ev (t := 14) (b := decide (i1 ≤ (w64 (w1 * h1)))) hF (by kernel_rfl) (fun hb => ?_) (fun hb => ?_)
      · replace hm := if_t hm hb
        refine wp_skip ?_
        refine then_n ?_
        exact ⟨hF.weak [0, 1, 4, 5, 6] (by kernel_rfl), hS, hm⟩
      · replace hm := if_f hm hb
        refine wp_exit ?_
        refine then_e (then_e (block_e (then_n ?_)))
        rw [← hφ1] at hm
        replace hm := done_b hm
        unfold gameroomref_SlideHome_K1 at hm
        try dsimp only at hm
        have hm : ((gameroomref_SlideHome_J1 w1 h1) g3).bind some = some r := hm
        exact ⟨g3, A1, c1, hF.weak [4, 5] (by kernel_rfl), hS, hm⟩

noncomputable def gameroomref_SignOf_J5 (k1 : Int) (s5 : Int) : Option (St (Int × Int) Int) :=
  some (.next (s5, (w64 (k1 + 1))))

noncomputable def gameroomref_SignOf_J4 (l1 : List Int) (i1 : Int) (s3 : Int) (k1 : Int) : Option (St (Int × Int) Int) :=
  asrt (0 ≤ k1 ∧ k1 < (l1.length : Int)) <| asrt (0 ≤ i1 ∧ i1 < (l1.length : Int)) <| if (decide ((geti l1 i1) < (geti l1 k1))) then ((gameroomref_SignOf_J5 k1) (w64 (0 - s3))) else ((gameroomref_SignOf_J5 k1) s3)

noncomputable def gameroomref_SignOf_J3 (i1 : Int) (s4 : Int) : Option (St (Int × Int) Int) :=
  some (.next (s4, (w64 (i1 + 1))))

noncomputable def gameroomref_SignOf_K2 (i1 : Int) : Int → Option (St (Int × Int) Int) :=
  fun (x : Int) => match x with | s4 => (gameroomref_SignOf_J3 i1) s4

noncomputable def gameroomref_SignOf_L2 (l1 : List Int) (i1 : Int) : (Int × Int) → Option (St (Int × Int) Int) :=
  fun (x : (Int × Int)) => match x with | (s3, k1) => if (decide (k1 < i1)) then ((gameroomref_SignOf_J4 l1 i1 s3 k1)) else (some (.done s3))

noncomputable def gameroomref_SignOf_J2 (l1 : List Int) (s1 : Int) (i1 : Int) : Option (St (Int × Int) Int) :=
  (loop (gameroomref_SignOf_L2 l1 i1) (s1, 0)).bind (gameroomref_SignOf_K2 i1)

noncomputable def gameroomref_SignOf_J1 (s2 : Int) : Option Int :=
  some s2

noncomputable def gameroomref_SignOf_K1 : Int → Option Int :=
  fun (x : Int) => match x with | s2 => gameroomref_SignOf_J1 s2

noncomputable def gameroomref_SignOf_L1 (l1 : List Int) : (Int × Int) → Option (St (Int × Int) Int) :=
  fun (x : (Int × Int)) => match x with | (s1, i1) => if (decide (i1 < (l1.length : Int))) then ((gameroomref_SignOf_J2 l1 s1 i1)) else (some (.done s1))

noncomputable def gameroomref_SignOf_m (l1 : List Int) : Option Int :=
  (loop (gameroomref_SignOf_L1 l1) (1, 0)).bind gameroomref_SignOf_K1

set_option maxRecDepth 100000 in
set_option maxHeartbeats 4000000 in
theorem gameroomref_SignOf_w {A1 : Option Addr} {c1 : Nat} {n1 : Nat} {l1 : List Int} {r : Int} {w0 w : World} {B : Nat} {fs : List HP} (hm : gameroomref_SignOf_m l1 = some r) (hS : Sep w0 B w (fs)) (hr_l1 : RdF w0 B fs A1 (vI l1)) (_hc_l1 : l1.length ≤ c1) (_hn_l1 : n1 = l1.length) :
    Calls Try.prog 20 #[.slice A1 n1 c1] w fun e w' => e = .returned (.int .i64 r) ∧ Sep w0 B w' (fs) := by
  obtain ⟨i3, hi3, hz3, hs3, hb3⟩ := info_parts Info3
  obtain rfl := _hn_l1
  unfold gameroomref_SignOf_m at hm
  replace hm := start_b hm
  refine enter (l := [.slice A1 l1.length c1]) (n := 29) Try.func20 rfl rfl (by simp) (fun a hF => ?_)
  refine reg [] [] [0] [pl 0 (.slice A1 l1.length c1)] hF hS Fol (by kernel_rfl) (by kernel_rfl) (by kernel_rfl) ?_ (fun a w hF hS => ?_)
  · exact obs_nil
  refine reg [] [] [0, 3] [pl 0 (.slice A1 l1.length c1), pl 3 (.int .i64 1)] hF hS Fol (by kernel_rfl) (by kernel_rfl) (by kernel_rfl) ?_ (fun a w hF hS => ?_)
  · exact obs_nil
  refine seq_cut (fun a w => ∃ (s2 : Int), Fr 29 [pl 3 (.int .i64 s2)] a ∧ Sep w0 B w (fs) ∧ (gameroomref_SignOf_J1 s2).bind some = some r) ?_ ?_
  · rintro a w ⟨s2, hF, hS, hm⟩
    unfold gameroomref_SignOf_J1 at hm
    refine reg [] [] [2] [pl 2 (.int .i64 s2)] hF hS Fol (by kernel_rfl) (by kernel_rfl) (by kernel_rfl) ?_ (fun a w hF hS => ?_)
    · exact obs_nil
    refine wp_ret ?_
    have hm : some s2 = some r := hm
    obtain rfl := Option.some.inj hm
    exact retV (rs := [.tmp 2]) (vs := [.int .i64 s2]) hF rfl (rv_t (by kernel_rfl) <| rv_nil) rfl ⟨rfl, hS⟩
  · refine reg [] [] [0, 3, 4] [pl 0 (.slice A1 l1.length c1), pl 3 (.int .i64 1), pl 4 (.int .i64 0)] hF hS Fol (by kernel_rfl) (by kernel_rfl) (by kernel_rfl) ?_ (fun a w hF hS => ?_)
    · exact obs_nil
    refine wp_block ?_
    refine wp_loop_model (S := (Int × Int)) (R := Int) (gameroomref_SignOf_L1 l1) (fun x => (gameroomref_SignOf_K1 x).bind some) r (fun (x : (Int × Int)) a w => Fr 29 [pl 0 (.slice A1 l1.length c1), pl 3 (.int .i64 x.1), pl 4 (.int .i64 x.2)] a ∧ Sep w0 B w (fs)) (assoc_b hm) ⟨hF.weak [0, 3, 4] (by kernel_rfl), hS⟩ ?_
    clear hF hS hm
    rintro nn1 ⟨s1, i1⟩ a w ⟨hF, hS⟩ hm
    generalize hφ1 : stK (gameroomref_SignOf_L1 l1) nn1 (fun x => (gameroomref_SignOf_K1 x).bind some) = φ1 at hm
    unfold gameroomref_SignOf_L1 at hm
    dsimp only at hF hS hm
    refine seq_cut (fun a w => Fr 29 [pl 0 (.slice A1 l1.length c1), pl 3 (.int .i64 s1), pl 4 (.int .i64 i1)] a ∧ Sep w0 B w (fs) ∧ ((gameroomref_SignOf_J2 l1 s1 i1)).bind φ1 = some r) ?_ ?_
    · rintro a w ⟨hF, hS, hm⟩
      unfold gameroomref_SignOf_J2 at hm
      refine seq_cut (fun a w => ∃ (s4 : Int), Fr 29 [pl 0 (.slice A1 l1.length c1), pl 3 (.int .i64 s4), pl 4 (.int .i64 i1)] a ∧ Sep w0 B w (fs) ∧ ((gameroomref_SignOf_J3 i1) s4).bind φ1 = some r) ?_ ?_
      · rintro a w ⟨s4, hF, hS, hm⟩
        unfold gameroomref_SignOf_J3 at hm
        refine reg1 [] [] [0, 3, 4] [pl 0 (.slice A1 l1.length c1), pl 3 (.int .i64 s4), pl 4 (.int .i64 (w64 (i1 + 1)))] hF hS Fol (by kernel_rfl) (by kernel_rfl) (by kernel_rfl) ?_ (fun a w hF hS => ?_)
        · exact obs_nil
        refine then_n ?_
        rw [← hφ1] at hm
        exact ⟨(s4, (w64 (i1 + 1))), ⟨hF.weak [0, 3, 4] (by kernel_rfl), hS⟩, hm⟩
      · refine wp_block ?_
        refine reg [] [] [0, 3, 4, 5] [pl 0 (.slice A1 l1.length c1), pl 3 (.int .i64 s1), pl 4 (.int .i64 i1), pl 5 (.int .i64 0)] hF hS Fol (by kernel_rfl) (by kernel_rfl) (by kernel_rfl) ?_ (fun a w hF hS => ?_)
        · exact obs_nil
        refine wp_block ?_
        refine wp_loop_model (S := (Int × Int)) (R := Int) (gameroomref_SignOf_L2 l1 i1) (fun x => ((gameroomref_SignOf_K2 i1) x).bind φ1) r (fun (x : (Int × Int)) a w => Fr 29 [pl 0 (.slice A1 l1.length c1), pl 3 (.int .i64 x.1), pl 4 (.int .i64 i1), pl 5 (.int .i64 x.2)] a ∧ Sep w0 B w (fs)) (assoc_b hm) ⟨hF.weak [0, 3, 4, 5] (by kernel_rfl), hS⟩ ?_
        clear hF hS hm
        rintro nn2 ⟨s3, k1⟩ a w ⟨hF, hS⟩ hm
        generalize hφ2 : stK (gameroomref_SignOf_L2 l1 i1) nn2 (fun x => ((gameroomref_SignOf_K2 i1) x).bind φ1) = φ2 at hm
        unfold gameroomref_SignOf_L2 at hm
        dsimp only at hF hS hm
        refine seq_cut (fun a w => Fr 29 [pl 0 (.slice A1 l1.length c1), pl 3 (.int .i64 s3), pl 4 (.int .i64 i1), pl 5 (.int .i64 k1)] a ∧ Sep w0 B w (fs) ∧ ((gameroomref_SignOf_J4 l1 i1 s3 k1)).bind φ2 = some r) ?_ ?_
        · rintro a w ⟨hF, hS, hm⟩
          unfold gameroomref_SignOf_J4 at hm
          refine seq_cut (fun a w => ∃ (s5 : Int), Fr 29 [pl 0 (.slice A1 l1.length c1), pl 3 (.int .i64 s5), pl 4 (.int .i64 i1), pl 5 (.int .i64 k1)] a ∧ Sep w0 B w (fs) ∧ ((gameroomref_SignOf_J5 k1) s5).bind φ2 = some r) ?_ ?_
          · rintro a w ⟨s5, hF, hS, hm⟩
            unfold gameroomref_SignOf_J5 at hm
            refine reg1 [] [] [0, 3, 4, 5] [pl 0 (.slice A1 l1.length c1), pl 3 (.int .i64 s5), pl 4 (.int .i64 i1), pl 5 (.int .i64 (w64 (k1 + 1)))] hF hS Fol (by kernel_rfl) (by kernel_rfl) (by kernel_rfl) ?_ (fun a w hF hS => ?_)
            · exact obs_nil
            refine then_n ?_
            rw [← hφ2] at hm
            exact ⟨(s5, (w64 (k1 + 1))), ⟨hF.weak [0, 3, 4, 5] (by kernel_rfl), hS⟩, hm⟩
          · refine wp_block ?_
            obtain ⟨hp1, hm⟩ := asrt_b hm
            obtain ⟨hp2, hm⟩ := asrt_b hm
            refine reg [⟨true, [], vS (Instr.indexAt 22 (.slice A1 l1.length c1) (.int .i64 k1)), .pointer (some (sAddr A1 k1))⟩, ⟨false, [], vS (Instr.loadAt 3 (.pointer (some (sAddr A1 k1)))), .int .i64 (geti l1 k1)⟩, ⟨true, [], vS (Instr.indexAt 22 (.slice A1 l1.length c1) (.int .i64 i1)), .pointer (some (sAddr A1 i1))⟩, ⟨false, [], vS (Instr.loadAt 3 (.pointer (some (sAddr A1 i1)))), .int .i64 (geti l1 i1)⟩] [none, none, some (.pointer (some (sAddr A1 k1))), some (.int .i64 (geti l1 k1)), none, none, some (.pointer (some (sAddr A1 i1))), some (.int .i64 (geti l1 i1)), none] [0, 3, 4, 5, 25] [pl 0 (.slice A1 l1.length c1), pl 3 (.int .i64 s3), pl 4 (.int .i64 i1), pl 5 (.int .i64 k1), pl 25 (.bool (decide ((geti l1 i1) < (geti l1 k1))))] hF hS Fol (by kernel_rfl) (by kernel_rfl) (by kernel_rfl) ?_ (fun a w hF hS => ?_)
            · exact obs_cons (ob_ix1 (f := (Value.int .i64)) (m := l1) Und22 hi3 hs3 (hr_l1 _ (hS.dropN 0)) rfl (fun _ => hp1)) <| obs_cons (ob_get1 (n := l1.length) (m := l1) (Value.int .i64) (0 : Int) Agg3 (fun _ hS => ⟨_, (hr_l1 _ (hS.dropN 0))⟩) (fun _ hS => rfl) (fun _ => hp1)) <| obs_cons (ob_ix1 (f := (Value.int .i64)) (m := l1) Und22 hi3 hs3 (hr_l1 _ (hS.dropN 0)) rfl (fun _ => hp2)) <| obs_cons (ob_get1 (n := l1.length) (m := l1) (Value.int .i64) (0 : Int) Agg3 (fun _ hS => ⟨_, (hr_l1 _ (hS.dropN 0))⟩) (fun _ hS => rfl) (fun _ => hp2)) <| obs_nil
            refine cond_ev (t := 25) (b := decide ((geti l1 i1) < (geti l1 k1))) hF (by kernel_rfl) (fun hb => ?_) (fun hb => ?_)
            · replace hm := if_t hm hb
              refine reg1 [] [] [0, 3, 4, 5] [pl 0 (.slice A1 l1.length c1), pl 3 (.int .i64 (w64 (0 - s3))), pl 4 (.int .i64 i1), pl 5 (.int .i64 k1)] hF hS Fol (by kernel_rfl) (by kernel_rfl) (by kernel_rfl) ?_ (fun a w hF hS => ?_)
              · exact obs_nil
              refine block_n ?_
              refine then_n ?_
              exact ⟨(w64 (0 - s3)), hF.weak [0, 3, 4, 5] (by kernel_rfl), hS, hm⟩
            · replace hm := if_f hm hb
              refine wp_skip ?_
              refine block_n ?_
              refine then_n ?_
              exact ⟨s3, hF.weak [0, 3, 4, 5] (by kernel_rfl), hS, hm⟩
        · refine reg [] [] [0, 3, 4, 5, 14] [pl 0 (.slice A1 l1.length c1), pl 3 (.int .i64 s3), pl 4 (.int .i64 i1), pl 5 (.int .i64 k1), pl 14 (.bool (decide (k1 < i1)))] hF hS Fol (by kernel_rfl) (by kernel_rfl) (by kernel_rfl) ?_ (fun a w hF hS => ?_)
          · exact obs_nil
          refine cond_ev (t := 14) (b := decide (k1 < i1)) hF (by kernel_rfl) (fun hb => ?_) (fun hb => ?_)
          · replace hm := if_t hm hb
            refine wp_skip ?_
            refine then_n ?_
            exact ⟨hF.weak [0, 3, 4, 5] (by kernel_rfl), hS, hm⟩
          · replace hm := if_f hm hb
            refine wp_exit ?_
            refine then_e (then_e (block_e (block_n (then_n ?_))))
            rw [← hφ2] at hm
            replace hm := done_b hm
            unfold gameroomref_SignOf_K2 at hm
            try dsimp only at hm
            have hm : ((gameroomref_SignOf_J3 i1) s3).bind φ1 = some r := hm
            exact ⟨s3, hF.weak [0, 3, 4] (by kernel_rfl), hS, hm⟩
    · refine reg [] [] [0, 3, 4, 9] [pl 0 (.slice A1 l1.length c1), pl 3 (.int .i64 s1), pl 4 (.int .i64 i1), pl 9 (.bool (decide (i1 < (l1.length : Int))))] hF hS Fol (by kernel_rfl) (by kernel_rfl) (by kernel_rfl) ?_ (fun a w hF hS => ?_)
      · exact obs_nil
      refine cond_ev (t := 9) (b := decide (i1 < (l1.length : Int))) hF (by kernel_rfl) (fun hb => ?_) (fun hb => ?_)
      · replace hm := if_t hm hb
        refine wp_skip ?_
        refine then_n ?_
        exact ⟨hF.weak [0, 3, 4] (by kernel_rfl), hS, hm⟩
      · replace hm := if_f hm hb
        refine wp_exit ?_
        refine then_e (then_e (block_e (then_n ?_)))
        rw [← hφ1] at hm
        replace hm := done_b hm
        unfold gameroomref_SignOf_K1 at hm
        try dsimp only at hm
        have hm : (gameroomref_SignOf_J1 s1).bind some = some r := hm
        exact ⟨s1, hF.weak [3] (by kernel_rfl), hS, hm⟩

noncomputable def gameroomref_SlideCan_J3 (i1 : Int) (order3 : List Int) : Option (St (List Int × Int) (List Int)) :=
  some (.next (order3, (w64 (i1 + 1))))

noncomputable def gameroomref_SlideCan_J2 (g3 : List Int) (r1 : (Int × Int × List Int)) (order1 : List Int) (i1 : Int) : Option (St (List Int × Int) (List Int)) :=
  asrt (0 ≤ i1 ∧ i1 < (r1.2.2.length : Int)) <| (gameroomref_at_m g3 (geti r1.2.2 i1)).bind fun r2 => asrt ((order1.length : Int) + 1 ≤ bigN) <| (gameroomref_SlideCan_J3 i1) (order1 ++ ([r2] : List Int))

noncomputable def gameroomref_SlideCan_J1 (g1 : Int) (g2 : Int) (g3 : List Int) (order2 : List Int) : Option Bool :=
  (gameroomref_at_m g3 0).bind fun r3 => asrt (g1 ≠ (0 : Int)) <| asrt (g1 ≠ (0 : Int)) <| (gameroomref_SignOf_m order2).bind fun r4 => some ((r4 == 1) == ((Int.tmod (w64 ((w64 ((w64 ((w64 ((w64 (g1 - 1)) - (Int.tmod r3 g1))) + g2)) - 1)) - (w64 (Int.tdiv r3 g1)))) 2) == 0))

noncomputable def gameroomref_SlideCan_K1 (g1 : Int) (g2 : Int) (g3 : List Int) : (List Int) → Option Bool :=
  fun (x : (List Int)) => match x with | order2 => (gameroomref_SlideCan_J1 g1 g2 g3) order2

noncomputable def gameroomref_SlideCan_L1 (g3 : List Int) (r1 : (Int × Int × List Int)) : (List Int × Int) → Option (St (List Int × Int) (List Int)) :=
  fun (x : (List Int × Int)) => match x with | (order1, i1) => if (decide (i1 < (r1.2.2.length : Int))) then ((gameroomref_SlideCan_J2 g3 r1 order1 i1)) else (some (.done order1))

noncomputable def gameroomref_SlideCan_m (g1 : Int) (g2 : Int) (g3 : List Int) : Option Bool :=
  (gameroomref_SlideHome_m g1 g2).bind fun r1 => (loop (gameroomref_SlideCan_L1 g3 r1) (([] : List Int), 0)).bind (gameroomref_SlideCan_K1 g1 g2 g3)

set_option maxRecDepth 100000 in
set_option maxHeartbeats 4000000 in
theorem gameroomref_SlideCan_w {g1 : Int} {g2 : Int} {A1 : Option Addr} {c1 : Nat} {n1 : Nat} {g3 : List Int} {r : Bool} {w0 w : World} {B : Nat} {fs : List HP} (hm : gameroomref_SlideCan_m g1 g2 g3 = some r) (hS : Sep w0 B w (fs)) (hr_g3 : RdF w0 B fs A1 (vI g3)) (_hc_g3 : g3.length ≤ c1) (_hn_g3 : n1 = g3.length) :
    Calls Try.prog 48 #[.agg #[.int .i64 g1, .int .i64 g2, .slice A1 n1 c1]] w fun e w' => e = .returned (.bool r) ∧ Sep w0 B w' (fs) := by
  obtain ⟨i3, hi3, hz3, hs3, hb3⟩ := info_parts Info3
  obtain rfl := _hn_g3
  unfold gameroomref_SlideCan_m at hm
  replace hm := start_b hm
  refine enter (l := [.agg #[.int .i64 g1, .int .i64 g2, .slice A1 g3.length c1]]) (n := 58) Try.func48 rfl rfl (by simp) (fun a hF => ?_)
  refine seqR ?_
  refine at_do (d := 1) (s := vS (Instr.box 41 (.agg #[.int .i64 g1, .int .i64 g2, .slice A1 g3.length c1]))) (v := .pointer (some ⟨w.heap.size, 0, none⟩)) (w' := w.alloc (.cells #[.int .i64 g1, .int .i64 g2, .slice A1 g3.length c1] 41)) hF (by kernel_rfl) (by kernel_rfl) (by kernel_rfl) (fun a hF => ?_)
  have hS : Sep w0 B (w.alloc (.cells #[.int .i64 g1, .int .i64 g2, .slice A1 g3.length c1] 41)) (blk w.heap.size 41 #[.int .i64 g1, .int .i64 g2, .slice A1 g3.length c1] :: (fs)) := hS.box 41 #[.int .i64 g1, .int .i64 g2, .slice A1 g3.length c1]
  generalize w.heap.size = g4 at hF hS
  generalize w.alloc (.cells #[.int .i64 g1, .int .i64 g2, .slice A1 g3.length c1] 41) = w at hS ⊢
  refine at_run 1 [] [] [1] [pl 1 (.pointer (some ⟨g4, 0, none⟩))] hF hS (by kernel_rfl) (by kernel_rfl) ?_ (fun a w hF hS => ?_)
  · exact obs_nil
  refine at_end [1] [pl 1 (.pointer (some ⟨g4, 0, none⟩))] hF rfl (by kernel_rfl) (fun hF => ?_)
  refine then_n ?_
  refine seqR ?_
  obtain ⟨r1, hr1, hm⟩ := call_b hm
  refine at_run 4 [⟨false, [], vS (Instr.loadAt 3 (.pointer (some ⟨g4, 0, none⟩))), .int .i64 g1⟩, ⟨false, [], vS (Instr.loadAt 3 (.pointer (some ⟨g4, 1, none⟩))), .int .i64 g2⟩] [none, some (.int .i64 g1), none, some (.int .i64 g2)] [1, 9, 11] [pl 1 (.pointer (some ⟨g4, 0, none⟩)), pl 9 (.int .i64 g1), pl 11 (.int .i64 g2)] hF hS (by kernel_rfl) (by kernel_rfl) ?_ (fun a w hF hS => ?_)
  · exact obs_cons (ob_load Agg3 (fun _ _ hS => (hS.at_ 0 rfl).cell rfl)) <| obs_cons (ob_load Agg3 (fun _ _ hS => (hS.at_ 0 rfl).cell rfl)) <| obs_nil
  refine at_call (f := 66) (args := #[.int .i64 g1, .int .i64 g2]) (d := 12) hF (by kernel_rfl) (by kernel_rfl) Try.func66 (by kernel_rfl) rfl (gameroomref_SlideHome_w hr1 hS ) (fun v a w hR hF => ?_)
  clear hS
  obtain ⟨A2, c2, rfl, hS⟩ := hR
  have hS : Sep w0 B w (own 3 (.slice A2 r1.2.2.length c2) (vI r1.2.2) :: blk g4 41 #[.int .i64 g1, .int .i64 g2, .slice A1 g3.length c1] :: fs) := hS
  refine at_do (d := 3) (s := vS (Instr.alloc 41 true (.tuple #[]))) (v := .pointer (some ⟨w.heap.size, 0, none⟩)) (w' := w.alloc (.cells #[.int .i64 0, .int .i64 0, .slice none 0 0] 41)) hF (by kernel_rfl) (by kernel_rfl) (by kernel_rfl) (fun a hF => ?_)
  have hS : Sep w0 B (w.alloc (.cells #[.int .i64 0, .int .i64 0, .slice none 0 0] 41)) (blk w.heap.size 41 #[.int .i64 0, .int .i64 0, .slice none 0 0] :: (own 3 (.slice A2 r1.2.2.length c2) (vI r1.2.2) :: blk g4 41 #[.int .i64 g1, .int .i64 g2, .slice A1 g3.length c1] :: fs)) := hS.box 41 #[.int .i64 0, .int .i64 0, .slice none 0 0]
  generalize w.heap.size = g5 at hF hS
  generalize w.alloc (.cells #[.int .i64 0, .int .i64 0, .slice none 0 0] 41) = w at hS ⊢
  obtain ⟨w, hrun, hS⟩ := run_putA (P := Try.prog) (t := 41) (us := #[.int .i64 r1.1, .int .i64 r1.2.1, .slice A2 r1.2.2.length c2]) (o := 0) (hS.at_ 0 rfl) (by kernel_rfl) (all_one (by kernel_rfl)) (Nat.le_of_ble_eq_true (by kernel_rfl))
  refine at_skip hF (by kernel_rfl) hrun ?_
  have hS : Sep w0 B w (blk g5 41 #[.int .i64 r1.1, .int .i64 r1.2.1, .slice A2 r1.2.2.length c2] :: own 3 (.slice A2 r1.2.2.length c2) (vI r1.2.2) :: blk g4 41 #[.int .i64 g1, .int .i64 g2, .slice A1 g3.length c1] :: fs) := hS
  refine at_end [1, 3] [pl 1 (.pointer (some ⟨g4, 0, none⟩)), pl 3 (.pointer (some ⟨g5, 0, none⟩))] hF rfl (by kernel_rfl) (fun hF => ?_)
  refine then_n ?_
  refine reg [] [] [1, 3, 4] [pl 1 (.pointer (some ⟨g4, 0, none⟩)), pl 3 (.pointer (some ⟨g5, 0, none⟩)), pl 4 (.slice none 0 0)] hF hS Fol (by kernel_rfl) (by kernel_rfl) (by kernel_rfl) ?_ (fun a w hF hS => ?_)
  · exact obs_nil
  refine seq_cut (fun a w => ∃ (order2 : List Int) (A4 : Option Addr) (c4 : Nat), Fr 58 [pl 1 (.pointer (some ⟨g4, 0, none⟩)), pl 4 (.slice A4 order2.length c4)] a ∧ Sep w0 B w (blk g4 41 #[.int .i64 g1, .int .i64 g2, .slice A1 g3.length c1] :: own 3 (.slice A4 order2.length c4) (vI order2) :: fs) ∧ ((gameroomref_SlideCan_J1 g1 g2 g3) order2).bind some = some r) ?_ ?_
  · rintro a w ⟨order2, A4, c4, hF, hS, hm⟩
    unfold gameroomref_SlideCan_J1 at hm
    obtain ⟨r3, hr3, hm⟩ := call_b hm
    refine reg [⟨false, [], vS (Instr.loadAt 22 (.pointer (some ⟨g4, 2, none⟩))), .slice A1 g3.length c1⟩, ⟨false, [], callFunc 87 #[.slice A1 g3.length c1, .int .i64 0], .int .i64 r3⟩] [none, some (.slice A1 g3.length c1), some (.int .i64 r3), none] [1, 4, 6] [pl 1 (.pointer (some ⟨g4, 0, none⟩)), pl 4 (.slice A4 order2.length c4), pl 6 (.int .i64 r3)] hF hS Fol (by kernel_rfl) (by kernel_rfl) (by kernel_rfl) ?_ (fun a w hF hS => ?_)
    · exact obs_cons (ob_load Agg22 (fun _ _ hS => (hS.at_ 0 rfl).cell rfl)) <| obs_cons (ob_call Try.func87 (by kernel_rfl) rfl (fun _ _ hS => gameroomref_at_w hr3 hS (fun _ hS => (hr_g3 _ (hS.dropN 2))) _hc_g3 rfl)) <| obs_nil
    obtain ⟨hp3, hm⟩ := asrt_b hm
    obtain ⟨hp4, hm⟩ := asrt_b hm
    refine reg [⟨false, [], vS (Instr.loadAt 3 (.pointer (some ⟨g4, 0, none⟩))), .int .i64 g1⟩, ⟨false, [], vS (Instr.loadAt 3 (.pointer (some ⟨g4, 0, none⟩))), .int .i64 g1⟩, ⟨true, [], vS (Op.intDiv .rem .i64 r3 g1), .int .i64 (Int.tmod r3 g1)⟩, ⟨false, [], vS (Instr.loadAt 3 (.pointer (some ⟨g4, 1, none⟩))), .int .i64 g2⟩, ⟨false, [], vS (Instr.loadAt 3 (.pointer (some ⟨g4, 0, none⟩))), .int .i64 g1⟩, ⟨true, [], vS (Op.intDiv .quo .i64 r3 g1), .int .i64 (w64 (Int.tdiv r3 g1))⟩] [none, some (.int .i64 g1), none, none, none, some (.int .i64 g1), some (.int .i64 (Int.tmod r3 g1)), none, none, some (.int .i64 g2), none, none, none, none, some (.int .i64 g1), some (.int .i64 (w64 (Int.tdiv r3 g1))), none, none] [4, 7] [pl 4 (.slice A4 order2.length c4), pl 7 (.int .i64 (w64 ((w64 ((w64 ((w64 ((w64 (g1 - 1)) - (Int.tmod r3 g1))) + g2)) - 1)) - (w64 (Int.tdiv r3 g1)))))] hF hS Fol (by kernel_rfl) (by kernel_rfl) (by kernel_rfl) ?_ (fun a w hF hS => ?_)
    · exact obs_cons (ob_load Agg3 (fun _ _ hS => (hS.at_ 0 rfl).cell rfl)) <| obs_cons (ob_load Agg3 (fun _ _ hS => (hS.at_ 0 rfl).cell rfl)) <| obs_cons (ob_rem rfl (fun _ => hp3)) <| obs_cons (ob_load Agg3 (fun _ _ hS => (hS.at_ 0 rfl).cell rfl)) <| obs_cons (ob_load Agg3 (fun _ _ hS => (hS.at_ 0 rfl).cell rfl)) <| obs_cons (ob_quo rfl (fun _ => hp4)) <| obs_nil
    obtain ⟨r4, hr4, hm⟩ := call_b hm
    refine reg [⟨false, [], callFunc 20 #[.slice A4 order2.length c4], .int .i64 r4⟩] [none, some (.int .i64 r4), none, none, none, none, none, none] [2] [pl 2 (.bool ((r4 == 1) == ((Int.tmod (w64 ((w64 ((w64 ((w64 ((w64 (g1 - 1)) - (Int.tmod r3 g1))) + g2)) - 1)) - (w64 (Int.tdiv r3 g1)))) 2) == 0)))] hF hS Fol (by kernel_rfl) (by kernel_rfl) (by kernel_rfl) ?_ (fun a w hF hS => ?_)
    · exact obs_cons (ob_call Try.func20 (by kernel_rfl) rfl (fun _ _ hS => gameroomref_SignOf_w hr4 hS (fun _ hS => (hS.at_ 1 rfl).rd) ((hS.at_ 1 rfl).cap1) rfl)) <| obs_nil
    refine wp_ret ?_
    have hS := hS.pickN 2 [] (by decide)
    have hm : some ((r4 == 1) == ((Int.tmod (w64 ((w64 ((w64 ((w64 ((w64 (g1 - 1)) - (Int.tmod r3 g1))) + g2)) - 1)) - (w64 (Int.tdiv r3 g1)))) 2) == 0)) = some r := hm
    obtain rfl := Option.some.inj hm
    exact retV (rs := [.tmp 2]) (vs := [.bool ((r4 == 1) == ((Int.tmod (w64 ((w64 ((w64 ((w64 ((w64 (g1 - 1)) - (Int.tmod r3 g1))) + g2)) - 1)) - (w64 (Int.tdiv r3 g1)))) 2) == 0))]) hF rfl (rv_t (by kernel_rfl) <| rv_nil) rfl ⟨rfl, hS⟩
  · refine reg [] [] [1, 3, 4, 5] [pl 1 (.pointer (some ⟨g4, 0, none⟩)), pl 3 (.pointer (some ⟨g5, 0, none⟩)), pl 4 (.slice none 0 0), pl 5 (.int .i64 0)] hF hS Fol (by kernel_rfl) (by kernel_rfl) (by kernel_rfl) ?_ (fun a w hF hS => ?_)
    · exact obs_nil
    refine wp_block ?_
    have hS : Sep w0 B w (own 3 (.slice none 0 0) (vI ([] : List Int)) :: blk g5 41 #[.int .i64 r1.1, .int .i64 r1.2.1, .slice A2 r1.2.2.length c2] :: own 3 (.slice A2 r1.2.2.length c2) (vI r1.2.2) :: blk g4 41 #[.int .i64 g1, .int .i64 g2, .slice A1 g3.length c1] :: fs) := hS.nil 3
    have hl1 := (hS.at_ 0 rfl).len1
    have hS := (hS.at_ 0 rfl).reN hl1
    have hS : Sep w0 B w (own 3 (.slice none (([] : List Int).length) 0) (vI ([] : List Int)) :: blk g5 41 #[.int .i64 r1.1, .int .i64 r1.2.1, .slice A2 r1.2.2.length c2] :: own 3 (.slice A2 r1.2.2.length c2) (vI r1.2.2) :: blk g4 41 #[.int .i64 g1, .int .i64 g2, .slice A1 g3.length c1] :: fs) := hS
    have hF := hF.cast (t := 4) (v := .slice none 0 0) (v' := .slice none (([] : List Int).length) 0) rfl rfl (congrArg (fun k => Value.slice none k 0) hl1)
    have hS := hS.pickN 4 [3, 1, 2, 0] (by decide)
    refine wp_loop_model (S := (List Int × Int)) (R := (List Int)) (gameroomref_SlideCan_L1 g3 r1) (fun x => ((gameroomref_SlideCan_K1 g1 g2 g3) x).bind some) r (fun (x : (List Int × Int)) a w => ∃ (A3 : Option Addr) (c3 : Nat), Fr 58 [pl 1 (.pointer (some ⟨g4, 0, none⟩)), pl 3 (.pointer (some ⟨g5, 0, none⟩)), pl 4 (.slice A3 x.1.length c3), pl 5 (.int .i64 x.2)] a ∧ Sep w0 B w (blk g4 41 #[.int .i64 g1, .int .i64 g2, .slice A1 g3.length c1] :: blk g5 41 #[.int .i64 r1.1, .int .i64 r1.2.1, .slice A2 r1.2.2.length c2] :: own 3 (.slice A2 r1.2.2.length c2) (vI r1.2.2) :: own 3 (.slice A3 x.1.length c3) (vI x.1) :: fs)) (assoc_b hm) ⟨none, 0, hF.weak [1, 3, 4, 5] (by kernel_rfl), hS⟩ ?_
    clear hF hS hm
    rintro nn1 ⟨order1, i1⟩ a w ⟨A3, c3, hF, hS⟩ hm
    generalize hφ1 : stK (gameroomref_SlideCan_L1 g3 r1) nn1 (fun x => ((gameroomref_SlideCan_K1 g1 g2 g3) x).bind some) = φ1 at hm
    unfold gameroomref_SlideCan_L1 at hm
    dsimp only at hF hS hm
    refine seq_cut (fun a w => Fr 58 [pl 1 (.pointer (some ⟨g4, 0, none⟩)), pl 3 (.pointer (some ⟨g5, 0, none⟩)), pl 4 (.slice A3 order1.length c3), pl 5 (.int .i64 i1)] a ∧ Sep w0 B w (blk g4 41 #[.int .i64 g1, .int .i64 g2, .slice A1 g3.length c1] :: blk g5 41 #[.int .i64 r1.1, .int .i64 r1.2.1, .slice A2 r1.2.2.length c2] :: own 3 (.slice A2 r1.2.2.length c2) (vI r1.2.2) :: own 3 (.slice A3 order1.length c3) (vI order1) :: fs) ∧ ((gameroomref_SlideCan_J2 g3 r1 order1 i1)).bind φ1 = some r) ?_ ?_
    · rintro a w ⟨hF, hS, hm⟩
      unfold gameroomref_SlideCan_J2 at hm
      refine seq_cut (fun a w => ∃ (order3 : List Int) (A6 : Option Addr) (c6 : Nat), Fr 58 [pl 1 (.pointer (some ⟨g4, 0, none⟩)), pl 3 (.pointer (some ⟨g5, 0, none⟩)), pl 4 (.slice A6 order3.length c6), pl 5 (.int .i64 i1)] a ∧ Sep w0 B w (blk g4 41 #[.int .i64 g1, .int .i64 g2, .slice A1 g3.length c1] :: blk g5 41 #[.int .i64 r1.1, .int .i64 r1.2.1, .slice A2 r1.2.2.length c2] :: own 3 (.slice A2 r1.2.2.length c2) (vI r1.2.2) :: own 3 (.slice A6 order3.length c6) (vI order3) :: fs) ∧ ((gameroomref_SlideCan_J3 i1) order3).bind φ1 = some r) ?_ ?_
      · rintro a w ⟨order3, A6, c6, hF, hS, hm⟩
        unfold gameroomref_SlideCan_J3 at hm
        refine reg1 [] [] [1, 3, 4, 5] [pl 1 (.pointer (some ⟨g4, 0, none⟩)), pl 3 (.pointer (some ⟨g5, 0, none⟩)), pl 4 (.slice A6 order3.length c6), pl 5 (.int .i64 (w64 (i1 + 1)))] hF hS Fol (by kernel_rfl) (by kernel_rfl) (by kernel_rfl) ?_ (fun a w hF hS => ?_)
        · exact obs_nil
        refine then_n ?_
        rw [← hφ1] at hm
        exact ⟨(order3, (w64 (i1 + 1))), ⟨A6, c6, hF.weak [1, 3, 4, 5] (by kernel_rfl), hS⟩, hm⟩
      · refine wp_block ?_
        obtain ⟨hp1, hm⟩ := asrt_b hm
        obtain ⟨r2, hr2, hm⟩ := call_b hm
        obtain ⟨hp2, hm⟩ := asrt_b hm
        refine regMix4 [0, 1, 2, 3, 4, 5, 6, 7] [8, 9, 10, 11] [⟨false, [], vS (Instr.loadAt 22 (.pointer (some ⟨g4, 2, none⟩))), .slice A1 g3.length c1⟩, ⟨false, [], vS (Instr.loadAt 22 (.pointer (some ⟨g5, 2, none⟩))), .slice A2 r1.2.2.length c2⟩, ⟨true, [], vS (Instr.indexAt 22 (.slice A2 r1.2.2.length c2) (.int .i64 i1)), .pointer (some (sAddr A2 i1))⟩, ⟨false, [], vS (Instr.loadAt 3 (.pointer (some (sAddr A2 i1)))), .int .i64 (geti r1.2.2 i1)⟩] [none, none, some (.slice A1 g3.length c1), none, some (.slice A2 r1.2.2.length c2), none, some (.pointer (some (sAddr A2 i1))), some (.int .i64 (geti r1.2.2 i1))] [1, 3, 5, 20, 22, 27] [pl 1 (.pointer (some ⟨g4, 0, none⟩)), pl 3 (.pointer (some ⟨g5, 0, none⟩)), pl 5 (.int .i64 i1), pl 20 (.slice A3 order1.length c3), pl 22 (.slice A1 g3.length c1), pl 27 (.int .i64 (geti r1.2.2 i1))] hF hS Fol (by kernel_rfl) (by kernel_rfl) (by kernel_rfl) (by kernel_rfl) (by kernel_rfl) ?_ (fun a w hF hS => ?_)
        · exact obs_cons (ob_load Agg22 (fun _ _ hS => (hS.at_ 0 rfl).cell rfl)) <| obs_cons (ob_load Agg22 (fun _ _ hS => (hS.at_ 1 rfl).cell rfl)) <| obs_cons (ob_ix1 (f := (Value.int .i64)) (m := r1.2.2) Und22 hi3 hs3 (hS.at_ 2 rfl).rd rfl (fun _ => hp1)) <| obs_cons (ob_get1 (n := r1.2.2.length) (m := r1.2.2) (Value.int .i64) (0 : Int) Agg3 (fun _ hS => ⟨_, (hS.at_ 2 rfl).rd⟩) (fun _ hS => rfl) (fun _ => hp1)) <| obs_nil
        refine at_run 1 [⟨false, [], callFunc 87 #[.slice A1 g3.length c1, .int .i64 (geti r1.2.2 i1)], .int .i64 r2⟩] [some (.int .i64 r2)] [1, 3, 5, 20, 28] [pl 1 (.pointer (some ⟨g4, 0, none⟩)), pl 3 (.pointer (some ⟨g5, 0, none⟩)), pl 5 (.int .i64 i1), pl 20 (.slice A3 order1.length c3), pl 28 (.int .i64 r2)] hF hS (by kernel_rfl) (by kernel_rfl) ?_ (fun a w hF hS => ?_)
        · exact obs_cons (ob_call Try.func87 (by kernel_rfl) rfl (fun _ _ hS => gameroomref_at_w hr2 hS (fun _ hS => (hr_g3 _ (hS.dropN 4))) _hc_g3 rfl)) <| obs_nil
        refine at_do (d := 29) (s := vS (Instr.buildSlice 22 1 #[(0, .int .i64 r2)])) (v := .slice (some ⟨w.heap.size, 0, none⟩) 1 1) (w' := w.alloc (.cells #[.int .i64 r2] 3)) hF (by kernel_rfl) (by kernel_rfl) (by kernel_rfl) (fun a hF => ?_)
        have hS : Sep w0 B (w.alloc (.cells #[.int .i64 r2] 3)) (own 3 (.slice (some (⟨w.heap.size, 0, none⟩ : Addr)) 1 1) (vI ([r2] : List Int)) :: (blk g4 41 #[.int .i64 g1, .int .i64 g2, .slice A1 g3.length c1] :: blk g5 41 #[.int .i64 r1.1, .int .i64 r1.2.1, .slice A2 r1.2.2.length c2] :: own 3 (.slice A2 r1.2.2.length c2) (vI r1.2.2) :: own 3 (.slice A3 order1.length c3) (vI order1) :: fs)) := hS.lit 3 #[.int .i64 r2] 1 rfl (by omega)
        generalize (some (⟨w.heap.size, 0, none⟩ : Addr)) = g6 at hF hS
        generalize w.alloc (.cells #[.int .i64 r2] 3) = w at hS ⊢
        obtain ⟨A5, c5, w, hrun, hS⟩ := run_app1 (P := Try.prog) (t := 22) (m := order1) (ys := ([r2] : List Int)) (A2 := g6) (m2 := 1) (c2 := 1) (Value.int .i64) (0 : Int) (hS.at_ 4 rfl) (hS.at_ 0 rfl).rd ((hS.at_ 0 rfl).len1) 22 Und22 hi3 hz3 hs3 (by omega) rfl (fun _ => rfl) hp2
        have hS : Sep w0 B w (own 3 (.slice g6 1 1) (vI ([r2] : List Int)) :: blk g4 41 #[.int .i64 g1, .int .i64 g2, .slice A1 g3.length c1] :: blk g5 41 #[.int .i64 r1.1, .int .i64 r1.2.1, .slice A2 r1.2.2.length c2] :: own 3 (.slice A2 r1.2.2.length c2) (vI r1.2.2) :: own 3 (.slice A5 ((order1 ++ ([r2] : List Int)).length) c5) (vI (order1 ++ ([r2] : List Int))) :: fs) := hS
        refine at_do (d := 30) hF (by kernel_rfl) (by kernel_rfl) hrun (fun a hF => ?_)
        refine at_run 1 [] [] [1, 3, 4, 5] [pl 1 (.pointer (some ⟨g4, 0, none⟩)), pl 3 (.pointer (some ⟨g5, 0, none⟩)), pl 4 (.slice A5 ((order1 ++ ([r2] : List Int)).length) c5), pl 5 (.int .i64 i1)] hF hS (by kernel_rfl) (by kernel_rfl) ?_ (fun a w hF hS => ?_)
        · exact obs_nil
        refine at_end [1, 3, 4, 5] [pl 1 (.pointer (some ⟨g4, 0, none⟩)), pl 3 (.pointer (some ⟨g5, 0, none⟩)), pl 4 (.slice A5 ((order1 ++ ([r2] : List Int)).length) c5), pl 5 (.int .i64 i1)] hF rfl (by kernel_rfl) (fun hF => ?_)
        refine np_n ?_
        refine block_n ?_
        refine then_n ?_
        have hS := hS.pickN 5 [1, 2, 3, 4] (by decide)
        exact ⟨(order1 ++ ([r2] : List Int)), A5, c5, hF.weak [1, 3, 4, 5] (by kernel_rfl), hS, hm⟩
    · refine reg [⟨false, [], vS (Instr.loadAt 22 (.pointer (some ⟨g5, 2, none⟩))), .slice A2 r1.2.2.length c2⟩] [none, none, some (.slice A2 r1.2.2.length c2), none, none] [1, 3, 4, 5, 17] [pl 1 (.pointer (some ⟨g4, 0, none⟩)), pl 3 (.pointer (some ⟨g5, 0, none⟩)), pl 4 (.slice A3 order1.length c3), pl 5 (.int .i64 i1), pl 17 (.bool (decide (i1 < (r1.2.2.length : Int))))] hF hS Fol (by kernel_rfl) (by kernel_rfl) (by kernel_rfl) ?_ (fun a w hF hS => ?_)
      · exact obs_cons (ob_load Agg22 (fun _ _ hS => (hS.at_ 1 rfl).cell rfl)) <| obs_nil
      refine cond_ev (t := 17) (b := decide (i1 < (r1.2.2.length : Int))) hF (by kernel_rfl) (fun hb => ?_) (fun hb => ?_)
      · replace hm := if_t hm hb
        refine wp_skip ?_
        refine then_n ?_
        exact ⟨hF.weak [1, 3, 4, 5] (by kernel_rfl), hS, hm⟩
      · replace hm := if_f hm hb
        refine wp_exit ?_
        refine then_e (then_e (block_e (then_n ?_)))
        have hS := hS.pickN 4 [0, 3] (by decide)
        rw [← hφ1] at hm
        replace hm := done_b hm
        unfold gameroomref_SlideCan_K1 at hm
        try dsimp only at hm
        have hm : ((gameroomref_SlideCan_J1 g1 g2 g3) order1).bind some = some r := hm
        exact ⟨order1, A3, c3, hF.weak [1, 4] (by kernel_rfl), hS, hm⟩

noncomputable def gameroomref_size_J1 (n1 : Int) : Option Int :=
  some n1

noncomputable def gameroomref_size_m (n1 : Int) : Option Int :=
  if (decide (n1 < 0)) then (some (w64 (0 - n1))) else ((gameroomref_size_J1 n1))

set_option maxRecDepth 100000 in
set_option maxHeartbeats 4000000 in
theorem gameroomref_size_w {n1 : Int} {r : Int} {w0 w : World} {B : Nat} {fs : List HP} (hm : gameroomref_size_m n1 = some r) (hS : Sep w0 B w (fs)) :
    Calls Try.prog 105 #[.int .i64 n1] w fun e w' => e = .returned (.int .i64 r) ∧ Sep w0 B w' (fs) := by
  unfold gameroomref_size_m at hm
  replace hm := start_b hm
  refine enter (l := [.int .i64 n1]) (n := 8) Try.func105 rfl rfl (by simp) (fun a hF => ?_)
  refine reg [] [] [0] [pl 0 (.int .i64 n1)] hF hS Fol (by kernel_rfl) (by kernel_rfl) (by kernel_rfl) ?_ (fun a w hF hS => ?_)
  · exact obs_nil
  refine seq_cut (fun a w => Fr 8 [pl 0 (.int .i64 n1)] a ∧ Sep w0 B w (fs) ∧ ((gameroomref_size_J1 n1)).bind some = some r) ?_ ?_
  · rintro a w ⟨hF, hS, hm⟩
    unfold gameroomref_size_J1 at hm
    refine reg [] [] [2] [pl 2 (.int .i64 n1)] hF hS Fol (by kernel_rfl) (by kernel_rfl) (by kernel_rfl) ?_ (fun a w hF hS => ?_)
    · exact obs_nil
    refine wp_ret ?_
    have hm : some n1 = some r := hm
    obtain rfl := Option.some.inj hm
    exact retV (rs := [.tmp 2]) (vs := [.int .i64 n1]) hF rfl (rv_t (by kernel_rfl) <| rv_nil) rfl ⟨rfl, hS⟩
  · refine reg [] [] [0, 4] [pl 0 (.int .i64 n1), pl 4 (.bool (decide (n1 < 0)))] hF hS Fol (by kernel_rfl) (by kernel_rfl) (by kernel_rfl) ?_ (fun a w hF hS => ?_)
    · exact obs_nil
    refine cond_ev (t := 4) (b := decide (n1 < 0)) hF (by kernel_rfl) (fun hb => ?_) (fun hb => ?_)
    · replace hm := if_t hm hb
      refine reg [] [] [2] [pl 2 (.int .i64 (w64 (0 - n1)))] hF hS Fol (by kernel_rfl) (by kernel_rfl) (by kernel_rfl) ?_ (fun a w hF hS => ?_)
      · exact obs_nil
      refine wp_ret ?_
      refine then_r ?_
      have hm : some (w64 (0 - n1)) = some r := hm
      obtain rfl := Option.some.inj hm
      exact retV (rs := [.tmp 2]) (vs := [.int .i64 (w64 (0 - n1))]) hF rfl (rv_t (by kernel_rfl) <| rv_nil) rfl ⟨rfl, hS⟩
    · replace hm := if_f hm hb
      refine wp_skip ?_
      refine then_n ?_
      exact ⟨hF.weak [0] (by kernel_rfl), hS, hm⟩

noncomputable def gameroomref_SlideLeast_J3 (s1 : Int) (n4 : Int) : Option (St (Int × Int) Int) :=
  some (.next (n4, (w64 (s1 + 1))))

noncomputable def gameroomref_SlideLeast_J2 (g1 : Int) (g3 : List Int) (r1 : (Int × Int × List Int)) (n2 : Int) (s1 : Int) : Option (St (Int × Int) Int) :=
  (gameroomref_at_m g3 s1).bind fun r2 => (gameroomref_at_m r1.2.2 s1).bind fun r3 => asrt (g1 ≠ (0 : Int)) <| asrt (g1 ≠ (0 : Int)) <| (gameroomref_size_m (w64 ((Int.tmod r2 g1) - (Int.tmod r3 g1)))).bind fun r4 => asrt (g1 ≠ (0 : Int)) <| asrt (g1 ≠ (0 : Int)) <| (gameroomref_size_m (w64 ((w64 (Int.tdiv r2 g1)) - (w64 (Int.tdiv r3 g1))))).bind fun r5 => (gameroomref_SlideLeast_J3 s1) (w64 (n2 + (w64 (r4 + r5))))

noncomputable def gameroomref_SlideLeast_J1 (n3 : Int) : Option Int :=
  some n3

noncomputable def gameroomref_SlideLeast_K1 : Int → Option Int :=
  fun (x : Int) => match x with | n3 => gameroomref_SlideLeast_J1 n3

noncomputable def gameroomref_SlideLeast_L1 (g1 : Int) (g3 : List Int) (r1 : (Int × Int × List Int)) : (Int × Int) → Option (St (Int × Int) Int) :=
  fun (x : (Int × Int)) => match x with | (n2, s1) => if (decide (s1 < (g3.length : Int))) then ((gameroomref_SlideLeast_J2 g1 g3 r1 n2 s1)) else (some (.done n2))

noncomputable def gameroomref_SlideLeast_m (g1 : Int) (g2 : Int) (g3 : List Int) : Option Int :=
  (gameroomref_SlideHome_m g1 g2).bind fun r1 => (loop (gameroomref_SlideLeast_L1 g1 g3 r1) (0, 1)).bind gameroomref_SlideLeast_K1

set_option maxRecDepth 100000 in
set_option maxHeartbeats 4000000 in
theorem gameroomref_SlideLeast_w {g1 : Int} {g2 : Int} {A1 : Option Addr} {c1 : Nat} {n1 : Nat} {g3 : List Int} {r : Int} {w0 w : World} {B : Nat} {fs : List HP} (hm : gameroomref_SlideLeast_m g1 g2 g3 = some r) (hS : Sep w0 B w (fs)) (hr_g3 : RdF w0 B fs A1 (vI g3)) (_hc_g3 : g3.length ≤ c1) (_hn_g3 : n1 = g3.length) :
    Calls Try.prog 49 #[.agg #[.int .i64 g1, .int .i64 g2, .slice A1 n1 c1]] w fun e w' => e = .returned (.int .i64 r) ∧ Sep w0 B w' (fs) := by
  obtain ⟨i3, hi3, hz3, hs3, hb3⟩ := info_parts Info3
  obtain rfl := _hn_g3
  unfold gameroomref_SlideLeast_m at hm
  replace hm := start_b hm
  refine enter (l := [.agg #[.int .i64 g1, .int .i64 g2, .slice A1 g3.length c1]]) (n := 52) Try.func49 rfl rfl (by simp) (fun a hF => ?_)
  refine seqR ?_
  refine at_do (d := 1) (s := vS (Instr.box 41 (.agg #[.int .i64 g1, .int .i64 g2, .slice A1 g3.length c1]))) (v := .pointer (some ⟨w.heap.size, 0, none⟩)) (w' := w.alloc (.cells #[.int .i64 g1, .int .i64 g2, .slice A1 g3.length c1] 41)) hF (by kernel_rfl) (by kernel_rfl) (by kernel_rfl) (fun a hF => ?_)
  have hS : Sep w0 B (w.alloc (.cells #[.int .i64 g1, .int .i64 g2, .slice A1 g3.length c1] 41)) (blk w.heap.size 41 #[.int .i64 g1, .int .i64 g2, .slice A1 g3.length c1] :: (fs)) := hS.box 41 #[.int .i64 g1, .int .i64 g2, .slice A1 g3.length c1]
  generalize w.heap.size = g4 at hF hS
  generalize w.alloc (.cells #[.int .i64 g1, .int .i64 g2, .slice A1 g3.length c1] 41) = w at hS ⊢
  refine at_run 1 [] [] [1] [pl 1 (.pointer (some ⟨g4, 0, none⟩))] hF hS (by kernel_rfl) (by kernel_rfl) ?_ (fun a w hF hS => ?_)
  · exact obs_nil
  refine at_end [1] [pl 1 (.pointer (some ⟨g4, 0, none⟩))] hF rfl (by kernel_rfl) (fun hF => ?_)
  refine then_n ?_
  refine seqR ?_
  obtain ⟨r1, hr1, hm⟩ := call_b hm
  refine at_run 4 [⟨false, [], vS (Instr.loadAt 3 (.pointer (some ⟨g4, 0, none⟩))), .int .i64 g1⟩, ⟨false, [], vS (Instr.loadAt 3 (.pointer (some ⟨g4, 1, none⟩))), .int .i64 g2⟩] [none, some (.int .i64 g1), none, some (.int .i64 g2)] [1, 9, 11] [pl 1 (.pointer (some ⟨g4, 0, none⟩)), pl 9 (.int .i64 g1), pl 11 (.int .i64 g2)] hF hS (by kernel_rfl) (by kernel_rfl) ?_ (fun a w hF hS => ?_)
  · exact obs_cons (ob_load Agg3 (fun _ _ hS => (hS.at_ 0 rfl).cell rfl)) <| obs_cons (ob_load Agg3 (fun _ _ hS => (hS.at_ 0 rfl).cell rfl)) <| obs_nil
  refine at_call (f := 66) (args := #[.int .i64 g1, .int .i64 g2]) (d := 12) hF (by kernel_rfl) (by kernel_rfl) Try.func66 (by kernel_rfl) rfl (gameroomref_SlideHome_w hr1 hS ) (fun v a w hR hF => ?_)
  clear hS
  obtain ⟨A2, c2, rfl, hS⟩ := hR
  have hS : Sep w0 B w (own 3 (.slice A2 r1.2.2.length c2) (vI r1.2.2) :: blk g4 41 #[.int .i64 g1, .int .i64 g2, .slice A1 g3.length c1] :: fs) := hS
  refine at_do (d := 3) (s := vS (Instr.alloc 41 true (.tuple #[]))) (v := .pointer (some ⟨w.heap.size, 0, none⟩)) (w' := w.alloc (.cells #[.int .i64 0, .int .i64 0, .slice none 0 0] 41)) hF (by kernel_rfl) (by kernel_rfl) (by kernel_rfl) (fun a hF => ?_)
  have hS : Sep w0 B (w.alloc (.cells #[.int .i64 0, .int .i64 0, .slice none 0 0] 41)) (blk w.heap.size 41 #[.int .i64 0, .int .i64 0, .slice none 0 0] :: (own 3 (.slice A2 r1.2.2.length c2) (vI r1.2.2) :: blk g4 41 #[.int .i64 g1, .int .i64 g2, .slice A1 g3.length c1] :: fs)) := hS.box 41 #[.int .i64 0, .int .i64 0, .slice none 0 0]
  generalize w.heap.size = g5 at hF hS
  generalize w.alloc (.cells #[.int .i64 0, .int .i64 0, .slice none 0 0] 41) = w at hS ⊢
  obtain ⟨w, hrun, hS⟩ := run_putA (P := Try.prog) (t := 41) (us := #[.int .i64 r1.1, .int .i64 r1.2.1, .slice A2 r1.2.2.length c2]) (o := 0) (hS.at_ 0 rfl) (by kernel_rfl) (all_one (by kernel_rfl)) (Nat.le_of_ble_eq_true (by kernel_rfl))
  refine at_skip hF (by kernel_rfl) hrun ?_
  have hS : Sep w0 B w (blk g5 41 #[.int .i64 r1.1, .int .i64 r1.2.1, .slice A2 r1.2.2.length c2] :: own 3 (.slice A2 r1.2.2.length c2) (vI r1.2.2) :: blk g4 41 #[.int .i64 g1, .int .i64 g2, .slice A1 g3.length c1] :: fs) := hS
  refine at_end [1, 3] [pl 1 (.pointer (some ⟨g4, 0, none⟩)), pl 3 (.pointer (some ⟨g5, 0, none⟩))] hF rfl (by kernel_rfl) (fun hF => ?_)
  refine then_n ?_
  refine reg [] [] [1, 3, 4] [pl 1 (.pointer (some ⟨g4, 0, none⟩)), pl 3 (.pointer (some ⟨g5, 0, none⟩)), pl 4 (.int .i64 0)] hF hS Fol (by kernel_rfl) (by kernel_rfl) (by kernel_rfl) ?_ (fun a w hF hS => ?_)
  · exact obs_nil
  refine seq_cut (fun a w => ∃ (n3 : Int), Fr 52 [pl 4 (.int .i64 n3)] a ∧ Sep w0 B w (fs) ∧ (gameroomref_SlideLeast_J1 n3).bind some = some r) ?_ ?_
  · rintro a w ⟨n3, hF, hS, hm⟩
    unfold gameroomref_SlideLeast_J1 at hm
    refine reg [] [] [2] [pl 2 (.int .i64 n3)] hF hS Fol (by kernel_rfl) (by kernel_rfl) (by kernel_rfl) ?_ (fun a w hF hS => ?_)
    · exact obs_nil
    refine wp_ret ?_
    have hm : some n3 = some r := hm
    obtain rfl := Option.some.inj hm
    exact retV (rs := [.tmp 2]) (vs := [.int .i64 n3]) hF rfl (rv_t (by kernel_rfl) <| rv_nil) rfl ⟨rfl, hS⟩
  · refine reg [] [] [1, 3, 4, 5] [pl 1 (.pointer (some ⟨g4, 0, none⟩)), pl 3 (.pointer (some ⟨g5, 0, none⟩)), pl 4 (.int .i64 0), pl 5 (.int .i64 1)] hF hS Fol (by kernel_rfl) (by kernel_rfl) (by kernel_rfl) ?_ (fun a w hF hS => ?_)
    · exact obs_nil
    refine wp_block ?_
    have hS := hS.pickN 3 [2, 0, 1] (by decide)
    refine wp_loop_model (S := (Int × Int)) (R := Int) (gameroomref_SlideLeast_L1 g1 g3 r1) (fun x => (gameroomref_SlideLeast_K1 x).bind some) r (fun (x : (Int × Int)) a w => Fr 52 [pl 1 (.pointer (some ⟨g4, 0, none⟩)), pl 3 (.pointer (some ⟨g5, 0, none⟩)), pl 4 (.int .i64 x.1), pl 5 (.int .i64 x.2)] a ∧ Sep w0 B w (blk g4 41 #[.int .i64 g1, .int .i64 g2, .slice A1 g3.length c1] :: blk g5 41 #[.int .i64 r1.1, .int .i64 r1.2.1, .slice A2 r1.2.2.length c2] :: own 3 (.slice A2 r1.2.2.length c2) (vI r1.2.2) :: fs)) (assoc_b hm) ⟨hF.weak [1, 3, 4, 5] (by kernel_rfl), hS⟩ ?_
    clear hF hS hm
    rintro nn1 ⟨n2, s1⟩ a w ⟨hF, hS⟩ hm
    generalize hφ1 : stK (gameroomref_SlideLeast_L1 g1 g3 r1) nn1 (fun x => (gameroomref_SlideLeast_K1 x).bind some) = φ1 at hm
    unfold gameroomref_SlideLeast_L1 at hm
    dsimp only at hF hS hm
    refine seq_cut (fun a w => Fr 52 [pl 1 (.pointer (some ⟨g4, 0, none⟩)), pl 3 (.pointer (some ⟨g5, 0, none⟩)), pl 4 (.int .i64 n2), pl 5 (.int .i64 s1)] a ∧ Sep w0 B w (blk g4 41 #[.int .i64 g1, .int .i64 g2, .slice A1 g3.length c1] :: blk g5 41 #[.int .i64 r1.1, .int .i64 r1.2.1, .slice A2 r1.2.2.length c2] :: own 3 (.slice A2 r1.2.2.length c2) (vI r1.2.2) :: fs) ∧ ((gameroomref_SlideLeast_J2 g1 g3 r1 n2 s1)).bind φ1 = some r) ?_ ?_
    · rintro a w ⟨hF, hS, hm⟩
      unfold gameroomref_SlideLeast_J2 at hm
      refine seq_cut (fun a w => ∃ (n4 : Int), Fr 52 [pl 1 (.pointer (some ⟨g4, 0, none⟩)), pl 3 (.pointer (some ⟨g5, 0, none⟩)), pl 4 (.int .i64 n4), pl 5 (.int .i64 s1)] a ∧ Sep w0 B w (blk g4 41 #[.int .i64 g1, .int .i64 g2, .slice A1 g3.length c1] :: blk g5 41 #[.int .i64 r1.1, .int .i64 r1.2.1, .slice A2 r1.2.2.length c2] :: own 3 (.slice A2 r1.2.2.length c2) (vI r1.2.2) :: fs) ∧ ((gameroomref_SlideLeast_J3 s1) n4).bind φ1 = some r) ?_ ?_
      · rintro a w ⟨n4, hF, hS, hm⟩
        unfold gameroomref_SlideLeast_J3 at hm
        refine reg1 [] [] [1, 3, 4, 5] [pl 1 (.pointer (some ⟨g4, 0, none⟩)), pl 3 (.pointer (some ⟨g5, 0, none⟩)), pl 4 (.int .i64 n4), pl 5 (.int .i64 (w64 (s1 + 1)))] hF hS Fol (by kernel_rfl) (by kernel_rfl) (by kernel_rfl) ?_ (fun a w hF hS => ?_)
        · exact obs_nil
        refine then_n ?_
        rw [← hφ1] at hm
        exact ⟨(n4, (w64 (s1 + 1))), ⟨hF.weak [1, 3, 4, 5] (by kernel_rfl), hS⟩, hm⟩
      · refine wp_block ?_
        obtain ⟨r2, hr2, hm⟩ := call_b hm
        obtain ⟨r3, hr3, hm⟩ := call_b hm
        refine reg [⟨false, [], vS (Instr.loadAt 22 (.pointer (some ⟨g4, 2, none⟩))), .slice A1 g3.length c1⟩, ⟨false, [], callFunc 87 #[.slice A1 g3.length c1, .int .i64 s1], .int .i64 r2⟩, ⟨false, [], vS (Instr.loadAt 22 (.pointer (some ⟨g5, 2, none⟩))), .slice A2 r1.2.2.length c2⟩, ⟨false, [], callFunc 87 #[.slice A2 r1.2.2.length c2, .int .i64 s1], .int .i64 r3⟩] [none, some (.slice A1 g3.length c1), none, some (.int .i64 r2), none, some (.slice A2 r1.2.2.length c2), none, some (.int .i64 r3), none, none] [1, 3, 4, 5, 6, 7] [pl 1 (.pointer (some ⟨g4, 0, none⟩)), pl 3 (.pointer (some ⟨g5, 0, none⟩)), pl 4 (.int .i64 n2), pl 5 (.int .i64 s1), pl 6 (.int .i64 r2), pl 7 (.int .i64 r3)] hF hS Fol (by kernel_rfl) (by kernel_rfl) (by kernel_rfl) ?_ (fun a w hF hS => ?_)
        · exact obs_cons (ob_load Agg22 (fun _ _ hS => (hS.at_ 0 rfl).cell rfl)) <| obs_cons (ob_call Try.func87 (by kernel_rfl) rfl (fun _ _ hS => gameroomref_at_w hr2 hS (fun _ hS => (hr_g3 _ (hS.dropN 3))) _hc_g3 rfl)) <| obs_cons (ob_load Agg22 (fun _ _ hS => (hS.at_ 1 rfl).cell rfl)) <| obs_cons (ob_call Try.func87 (by kernel_rfl) rfl (fun _ _ hS => gameroomref_at_w hr3 hS (fun _ hS => (hS.at_ 2 rfl).rd) ((hS.at_ 2 rfl).cap1) rfl)) <| obs_nil
        obtain ⟨hp1, hm⟩ := asrt_b hm
        obtain ⟨hp2, hm⟩ := asrt_b hm
        obtain ⟨r4, hr4, hm⟩ := call_b hm
        obtain ⟨hp3, hm⟩ := asrt_b hm
        obtain ⟨hp4, hm⟩ := asrt_b hm
        obtain ⟨r5, hr5, hm⟩ := call_b hm
        refine reg1 [⟨false, [], vS (Instr.loadAt 3 (.pointer (some ⟨g4, 0, none⟩))), .int .i64 g1⟩, ⟨true, [], vS (Op.intDiv .rem .i64 r2 g1), .int .i64 (Int.tmod r2 g1)⟩, ⟨false, [], vS (Instr.loadAt 3 (.pointer (some ⟨g4, 0, none⟩))), .int .i64 g1⟩, ⟨true, [], vS (Op.intDiv .rem .i64 r3 g1), .int .i64 (Int.tmod r3 g1)⟩, ⟨false, [], callFunc 105 #[.int .i64 (w64 ((Int.tmod r2 g1) - (Int.tmod r3 g1)))], .int .i64 r4⟩, ⟨false, [], vS (Instr.loadAt 3 (.pointer (some ⟨g4, 0, none⟩))), .int .i64 g1⟩, ⟨true, [], vS (Op.intDiv .quo .i64 r2 g1), .int .i64 (w64 (Int.tdiv r2 g1))⟩, ⟨false, [], vS (Instr.loadAt 3 (.pointer (some ⟨g4, 0, none⟩))), .int .i64 g1⟩, ⟨true, [], vS (Op.intDiv .quo .i64 r3 g1), .int .i64 (w64 (Int.tdiv r3 g1))⟩, ⟨false, [], callFunc 105 #[.int .i64 (w64 ((w64 (Int.tdiv r2 g1)) - (w64 (Int.tdiv r3 g1))))], .int .i64 r5⟩] [none, none, none, some (.int .i64 g1), some (.int .i64 (Int.tmod r2 g1)), none, none, some (.int .i64 g1), some (.int .i64 (Int.tmod r3 g1)), none, some (.int .i64 r4), none, none, some (.int .i64 g1), some (.int .i64 (w64 (Int.tdiv r2 g1))), none, none, some (.int .i64 g1), some (.int .i64 (w64 (Int.tdiv r3 g1))), none, some (.int .i64 r5), none, none, none] [1, 3, 4, 5] [pl 1 (.pointer (some ⟨g4, 0, none⟩)), pl 3 (.pointer (some ⟨g5, 0, none⟩)), pl 4 (.int .i64 (w64 (n2 + (w64 (r4 + r5))))), pl 5 (.int .i64 s1)] hF hS Fol (by kernel_rfl) (by kernel_rfl) (by kernel_rfl) ?_ (fun a w hF hS => ?_)
        · exact obs_cons (ob_load Agg3 (fun _ _ hS => (hS.at_ 0 rfl).cell rfl)) <| obs_cons (ob_rem rfl (fun _ => hp1)) <| obs_cons (ob_load Agg3 (fun _ _ hS => (hS.at_ 0 rfl).cell rfl)) <| obs_cons (ob_rem rfl (fun _ => hp2)) <| obs_cons (ob_call Try.func105 (by kernel_rfl) rfl (fun _ _ hS => gameroomref_size_w hr4 hS )) <| obs_cons (ob_load Agg3 (fun _ _ hS => (hS.at_ 0 rfl).cell rfl)) <| obs_cons (ob_quo rfl (fun _ => hp3)) <| obs_cons (ob_load Agg3 (fun _ _ hS => (hS.at_ 0 rfl).cell rfl)) <| obs_cons (ob_quo rfl (fun _ => hp4)) <| obs_cons (ob_call Try.func105 (by kernel_rfl) rfl (fun _ _ hS => gameroomref_size_w hr5 hS )) <| obs_nil
        refine block_n ?_
        refine then_n ?_
        exact ⟨(w64 (n2 + (w64 (r4 + r5)))), hF.weak [1, 3, 4, 5] (by kernel_rfl), hS, hm⟩
    · refine reg [⟨false, [], vS (Instr.loadAt 22 (.pointer (some ⟨g4, 2, none⟩))), .slice A1 g3.length c1⟩] [none, none, some (.slice A1 g3.length c1), none, none] [1, 3, 4, 5, 17] [pl 1 (.pointer (some ⟨g4, 0, none⟩)), pl 3 (.pointer (some ⟨g5, 0, none⟩)), pl 4 (.int .i64 n2), pl 5 (.int .i64 s1), pl 17 (.bool (decide (s1 < (g3.length : Int))))] hF hS Fol (by kernel_rfl) (by kernel_rfl) (by kernel_rfl) ?_ (fun a w hF hS => ?_)
      · exact obs_cons (ob_load Agg22 (fun _ _ hS => (hS.at_ 0 rfl).cell rfl)) <| obs_nil
      refine cond_ev (t := 17) (b := decide (s1 < (g3.length : Int))) hF (by kernel_rfl) (fun hb => ?_) (fun hb => ?_)
      · replace hm := if_t hm hb
        refine wp_skip ?_
        refine then_n ?_
        exact ⟨hF.weak [1, 3, 4, 5] (by kernel_rfl), hS, hm⟩
      · replace hm := if_f hm hb
        refine wp_exit ?_
        refine then_e (then_e (block_e (then_n ?_)))
        have hS := hS.pickN 3 [] (by decide)
        rw [← hφ1] at hm
        replace hm := done_b hm
        unfold gameroomref_SlideLeast_K1 at hm
        try dsimp only at hm
        have hm : (gameroomref_SlideLeast_J1 n2).bind some = some r := hm
        exact ⟨n2, hF.weak [4] (by kernel_rfl), hS, hm⟩

noncomputable def gameroomlaw_SlideMoves_J4 (i1 : Int) (now7 : Int) (now8 : Int) (now9 : List Int) (made3 : Int) (no3 : Int) : Option (St (Int × Int × List Int × Int × Int × Int) (Int × Int × List Int × Int × Int)) :=
  some (.next (now7, now8, now9, made3, no3, (w64 (i1 + 1))))

noncomputable def gameroomlaw_SlideMoves_J5 (now1 : Int) (now2 : Int) (now3 : List Int) (made1 : Int) (no1 : Int) (i1 : Int) (next1 : Int) (next2 : Int) (next3 : List Int) (ok1 : Bool) : Option (St (Int × Int × List Int × Int × Int × Int) (Int × Int × List Int × Int × Int)) :=
  if (!ok1) then ((gameroomlaw_SlideMoves_J4 i1) now1 now2 now3 made1 8) else ((gameroomlaw_SlideMoves_J4 i1) next1 next2 next3 (w64 (made1 + 1)) no1)

noncomputable def gameroomlaw_SlideMoves_J3 (l1 : List Int) (now1 : Int) (now2 : Int) (now3 : List Int) (made1 : Int) (no1 : Int) (i1 : Int) : Option (St (Int × Int × List Int × Int × Int × Int) (Int × Int × List Int × Int × Int)) :=
  asrt (0 ≤ i1 ∧ i1 < (l1.length : Int)) <| (gameroomref_SlideMove_m now1 now2 now3 (geti l1 i1)).bind fun r13 => (gameroomlaw_SlideMoves_J5 now1 now2 now3 made1 no1 i1) r13.1 r13.2.1 r13.2.2.1 r13.2.2.2

noncomputable def gameroomlaw_SlideMoves_J2 (g1 : Int) (g2 : Int) (g3 : List Int) (r2 : Bool) (r5 : (Int × Int × List Int × Int × Int)) (r7 : (Bool × Int)) (r9 : (Int × Int)) (now4 : Int) (now5 : Int) (now6 : List Int) (made2 : Int) (no2 : Int) : Option Bool :=
  ((if ((r2 && (r5.2.2.2.2 == no2)) && (r5.2.2.2.1 == made2)) then gameroomref_SameGrid_m r5.1 r5.2.1 r5.2.2.1 now4 now5 now6 else some false)).bind fun r14 => ((if ((((r2 && (r5.2.2.2.2 == no2)) && (r5.2.2.2.1 == made2)) && r14) && (r7.2 == 0)) then gameroomref_SlideCan_m g1 g2 g3 else some false)).bind fun r15 => ((if ((((((r2 && (r5.2.2.2.2 == no2)) && (r5.2.2.2.1 == made2)) && r14) && (r7.2 == 0)) && (r7.1 == r15)) && (r9.2 == 0)) then gameroomref_SlideLeast_m g1 g2 g3 else some 0)).bind fun r16 => some (((((((r2 && (r5.2.2.2.2 == no2)) && (r5.2.2.2.1 == made2)) && r14) && (r7.2 == 0)) && (r7.1 == r15)) && (r9.2 == 0)) && (r9.1 == r16))

noncomputable def gameroomlaw_SlideMoves_K1 (g1 : Int) (g2 : Int) (g3 : List Int) (r2 : Bool) (r5 : (Int × Int × List Int × Int × Int)) (r7 : (Bool × Int)) (r9 : (Int × Int)) : (Int × Int × List Int × Int × Int) → Option Bool :=
  fun (x : (Int × Int × List Int × Int × Int)) => match x with | (now4, now5, now6, made2, no2) => (gameroomlaw_SlideMoves_J2 g1 g2 g3 r2 r5 r7 r9) now4 now5 now6 made2 no2

noncomputable def gameroomlaw_SlideMoves_L1 (l1 : List Int) : (Int × Int × List Int × Int × Int × Int) → Option (St (Int × Int × List Int × Int × Int × Int) (Int × Int × List Int × Int × Int)) :=
  fun (x : (Int × Int × List Int × Int × Int × Int)) => match x with | (now1, now2, now3, made1, no1, i1) => if ((decide (i1 < (l1.length : Int))) && (no1 == 0)) then ((gameroomlaw_SlideMoves_J3 l1 now1 now2 now3 made1 no1 i1)) else (some (.done (now1, now2, now3, made1, no1)))

noncomputable def gameroomlaw_SlideMoves_J1 (g1 : Int) (g2 : Int) (g3 : List Int) (l1 : List Int) (r2 : Bool) (r5 : (Int × Int × List Int × Int × Int)) (r7 : (Bool × Int)) (r9 : (Int × Int)) : Option Bool :=
  (gameroomref_GridOf_m g1 g2 g3).bind fun r12 => (loop (gameroomlaw_SlideMoves_L1 l1) (r12.1, r12.2.1, r12.2.2, 0, 0, 0)).bind (gameroomlaw_SlideMoves_K1 g1 g2 g3 r2 r5 r7 r9)

noncomputable def gameroomlaw_SlideMoves_m (g1 : Int) (g2 : Int) (g3 : List Int) (l1 : List Int) : Option Bool :=
  (gameroomref_GridOf_m g1 g2 g3).bind fun r1 => (slide_May_m r1.1 r1.2.1 r1.2.2).bind fun r2 => (gameroomref_GridOf_m g1 g2 g3).bind fun r3 => (gameroomlaw_ints_m l1).bind fun r4 => (slide_Do_m r3.1 r3.2.1 r3.2.2 r4).bind fun r5 => (gameroomref_GridOf_m g1 g2 g3).bind fun r6 => (slide_Can_m r6.1 r6.2.1 r6.2.2).bind fun r7 => (gameroomref_GridOf_m g1 g2 g3).bind fun r8 => (slide_Least_m r8.1 r8.2.1 r8.2.2).bind fun r9 => (gameroomref_SlideMay_m g1 g2 g3).bind fun r10 => if (!r10) then (((if ((((!r2) && (r5.2.2.2.2 == 12)) && (r7.2 == 12)) && (r9.2 == 12)) then gameroomlaw_noGrid_m r5.1 r5.2.1 r5.2.2.1 else some false)).bind fun r11 => some ((((((((!r2) && (r5.2.2.2.2 == 12)) && (r7.2 == 12)) && (r9.2 == 12)) && r11) && (r5.2.2.2.1 == 0)) && (!r7.1)) && (r9.1 == 0))) else ((gameroomlaw_SlideMoves_J1 g1 g2 g3 l1 r2 r5 r7 r9))

set_option maxRecDepth 100000 in
set_option maxHeartbeats 4000000 in
theorem gameroomlaw_SlideMoves_w {g1 : Int} {g2 : Int} {A1 : Option Addr} {c1 : Nat} {n1 : Nat} {g3 : List Int} {A2 : Option Addr} {c2 : Nat} {n2 : Nat} {l1 : List Int} {r : Bool} {w0 w : World} {B : Nat} {fs : List HP} (hm : gameroomlaw_SlideMoves_m g1 g2 g3 l1 = some r) (hS : Sep w0 B w (fs)) (hr_g3 : RdF w0 B fs A1 (vI g3)) (_hc_g3 : g3.length ≤ c1) (_hn_g3 : n1 = g3.length) (hr_l1 : RdF w0 B fs A2 (vI l1)) (_hc_l1 : l1.length ≤ c2) (_hn_l1 : n2 = l1.length) :
    Calls Try.prog 6 #[.agg #[.int .i64 g1, .int .i64 g2, .slice A1 n1 c1], .slice A2 n2 c2] w fun e w' => e = .returned (.bool r) ∧ Sep w0 B w' (fs) := by
  obtain ⟨i3, hi3, hz3, hs3, hb3⟩ := info_parts Info3
  obtain rfl := _hn_g3
  obtain rfl := _hn_l1
  unfold gameroomlaw_SlideMoves_m at hm
  replace hm := start_b hm
  refine enter (l := [.agg #[.int .i64 g1, .int .i64 g2, .slice A1 g3.length c1], .slice A2 l1.length c2]) (n := 138) Try.func6 rfl rfl (by simp) (fun a hF => ?_)
  refine seqR ?_
  refine at_do (d := 2) (s := vS (Instr.box 41 (.agg #[.int .i64 g1, .int .i64 g2, .slice A1 g3.length c1]))) (v := .pointer (some ⟨w.heap.size, 0, none⟩)) (w' := w.alloc (.cells #[.int .i64 g1, .int .i64 g2, .slice A1 g3.length c1] 41)) hF (by kernel_rfl) (by kernel_rfl) (by kernel_rfl) (fun a hF => ?_)
  have hS : Sep w0 B (w.alloc (.cells #[.int .i64 g1, .int .i64 g2, .slice A1 g3.length c1] 41)) (blk w.heap.size 41 #[.int .i64 g1, .int .i64 g2, .slice A1 g3.length c1] :: (fs)) := hS.box 41 #[.int .i64 g1, .int .i64 g2, .slice A1 g3.length c1]
  generalize w.heap.size = g4 at hF hS
  generalize w.alloc (.cells #[.int .i64 g1, .int .i64 g2, .slice A1 g3.length c1] 41) = w at hS ⊢
  refine at_run 1 [] [] [1, 2] [pl 1 (.slice A2 l1.length c2), pl 2 (.pointer (some ⟨g4, 0, none⟩))] hF hS (by kernel_rfl) (by kernel_rfl) ?_ (fun a w hF hS => ?_)
  · exact obs_nil
  refine at_end [1, 2] [pl 1 (.slice A2 l1.length c2), pl 2 (.pointer (some ⟨g4, 0, none⟩))] hF rfl (by kernel_rfl) (fun hF => ?_)
  refine then_n ?_
  refine seqR ?_
  obtain ⟨r1, hr1, hm⟩ := call_b hm
  obtain ⟨r2, hr2, hm⟩ := call_b hm
  refine at_run 1 [⟨false, [], vS (Instr.loadAt 41 (.pointer (some ⟨g4, 0, none⟩))), .agg #[.int .i64 g1, .int .i64 g2, .slice A1 g3.length c1]⟩] [some (.agg #[.int .i64 g1, .int .i64 g2, .slice A1 g3.length c1])] [1, 2, 19] [pl 1 (.slice A2 l1.length c2), pl 2 (.pointer (some ⟨g4, 0, none⟩)), pl 19 (.agg #[.int .i64 g1, .int .i64 g2, .slice A1 g3.length c1])] hF hS (by kernel_rfl) (by kernel_rfl) ?_ (fun a w hF hS => ?_)
  · exact obs_cons (ob_loadA (cs := #[.int .i64 g1, .int .i64 g2, .slice A1 g3.length c1]) (by kernel_rfl) (by kernel_rfl) (fun _ _ hS => (hS.at_ 0 rfl).cellsAt 0 (by rfl))) <| obs_nil
  refine at_call (f := 30) (args := #[.agg #[.int .i64 g1, .int .i64 g2, .slice A1 g3.length c1]]) (d := 20) hF (by kernel_rfl) (by kernel_rfl) Try.func30 (by kernel_rfl) rfl (gameroomref_GridOf_w hr1 hS (fun _ hS => (hr_g3 _ (hS.dropN 1))) _hc_g3 rfl) (fun v a w hR hF => ?_)
  clear hS
  obtain ⟨A3, c3, rfl, hS⟩ := hR
  have hS : Sep w0 B w (own 3 (.slice A3 r1.2.2.length c3) (vI r1.2.2) :: blk g4 41 #[.int .i64 g1, .int .i64 g2, .slice A1 g3.length c1] :: fs) := hS
  refine at_run 2 [⟨false, [], callFunc 42 #[.agg #[.int .i64 r1.1, .int .i64 r1.2.1, .slice A3 r1.2.2.length c3]], .bool r2⟩] [some (.bool r2), none] [1, 2, 5] [pl 1 (.slice A2 l1.length c2), pl 2 (.pointer (some ⟨g4, 0, none⟩)), pl 5 (.bool r2)] hF hS (by kernel_rfl) (by kernel_rfl) ?_ (fun a w hF hS => ?_)
  · exact obs_cons (ob_call Try.func42 (by kernel_rfl) rfl (fun _ _ hS => slide_May_w hr2 hS (fun _ hS => (hS.at_ 0 rfl).rd) ((hS.at_ 0 rfl).cap1) rfl)) <| obs_nil
  refine at_end [1, 2, 5] [pl 1 (.slice A2 l1.length c2), pl 2 (.pointer (some ⟨g4, 0, none⟩)), pl 5 (.bool r2)] hF rfl (by kernel_rfl) (fun hF => ?_)
  refine then_n ?_
  refine seqR ?_
  obtain ⟨r3, hr3, hm⟩ := call_b hm
  obtain ⟨r4, hr4, hm⟩ := call_b hm
  obtain ⟨r5, hr5, hm⟩ := call_b hm
  refine at_run 1 [⟨false, [], vS (Instr.loadAt 41 (.pointer (some ⟨g4, 0, none⟩))), .agg #[.int .i64 g1, .int .i64 g2, .slice A1 g3.length c1]⟩] [some (.agg #[.int .i64 g1, .int .i64 g2, .slice A1 g3.length c1])] [1, 2, 5, 23] [pl 1 (.slice A2 l1.length c2), pl 2 (.pointer (some ⟨g4, 0, none⟩)), pl 5 (.bool r2), pl 23 (.agg #[.int .i64 g1, .int .i64 g2, .slice A1 g3.length c1])] hF hS (by kernel_rfl) (by kernel_rfl) ?_ (fun a w hF hS => ?_)
  · exact obs_cons (ob_loadA (cs := #[.int .i64 g1, .int .i64 g2, .slice A1 g3.length c1]) (by kernel_rfl) (by kernel_rfl) (fun _ _ hS => (hS.at_ 1 rfl).cellsAt 0 (by rfl))) <| obs_nil
  refine at_call (f := 30) (args := #[.agg #[.int .i64 g1, .int .i64 g2, .slice A1 g3.length c1]]) (d := 24) hF (by kernel_rfl) (by kernel_rfl) Try.func30 (by kernel_rfl) rfl (gameroomref_GridOf_w hr3 hS (fun _ hS => (hr_g3 _ (hS.dropN 2))) _hc_g3 rfl) (fun v a w hR hF => ?_)
  clear hS
  obtain ⟨A4, c4, rfl, hS⟩ := hR
  have hS : Sep w0 B w (own 3 (.slice A4 r3.2.2.length c4) (vI r3.2.2) :: own 3 (.slice A3 r1.2.2.length c3) (vI r1.2.2) :: blk g4 41 #[.int .i64 g1, .int .i64 g2, .slice A1 g3.length c1] :: fs) := hS
  refine at_run 1 [] [] [1, 2, 5, 24, 25] [pl 1 (.slice A2 l1.length c2), pl 2 (.pointer (some ⟨g4, 0, none⟩)), pl 5 (.bool r2), pl 24 (.agg #[.int .i64 r3.1, .int .i64 r3.2.1, .slice A4 r3.2.2.length c4]), pl 25 (.slice A2 l1.length c2)] hF hS (by kernel_rfl) (by kernel_rfl) ?_ (fun a w hF hS => ?_)
  · exact obs_nil
  refine at_call (f := 16) (args := #[.slice A2 l1.length c2]) (d := 26) hF (by kernel_rfl) (by kernel_rfl) Try.func16 (by kernel_rfl) rfl (gameroomlaw_ints_w hr4 hS (fun _ hS => (hr_l1 _ (hS.dropN 3))) _hc_l1 rfl) (fun v a w hR hF => ?_)
  clear hS
  obtain ⟨A5, c5, rfl, hS⟩ := hR
  have hS : Sep w0 B w (own 3 (.slice A5 r4.length c5) (vI r4) :: own 3 (.slice A4 r3.2.2.length c4) (vI r3.2.2) :: own 3 (.slice A3 r1.2.2.length c3) (vI r1.2.2) :: blk g4 41 #[.int .i64 g1, .int .i64 g2, .slice A1 g3.length c1] :: fs) := hS
  refine at_call (f := 43) (args := #[.agg #[.int .i64 r3.1, .int .i64 r3.2.1, .slice A4 r3.2.2.length c4], .slice A5 r4.length c5]) (d := 27) hF (by kernel_rfl) (by kernel_rfl) Try.func43 (by kernel_rfl) rfl (slide_Do_w hr5 hS (fun _ hS => (hS.at_ 1 rfl).rd) ((hS.at_ 1 rfl).cap1) rfl (fun _ hS => (hS.at_ 0 rfl).rd) ((hS.at_ 0 rfl).cap1) rfl) (fun v a w hR hF => ?_)
  clear hS
  obtain ⟨A6, c6, rfl, hS⟩ := hR
  have hS : Sep w0 B w (own 3 (.slice A6 r5.2.2.1.length c6) (vI r5.2.2.1) :: own 3 (.slice A5 r4.length c5) (vI r4) :: own 3 (.slice A4 r3.2.2.length c4) (vI r3.2.2) :: own 3 (.slice A3 r1.2.2.length c3) (vI r1.2.2) :: blk g4 41 #[.int .i64 g1, .int .i64 g2, .slice A1 g3.length c1] :: fs) := hS
  refine at_run 4 [] [] [1, 2, 5, 28, 29, 30] [pl 1 (.slice A2 l1.length c2), pl 2 (.pointer (some ⟨g4, 0, none⟩)), pl 5 (.bool r2), pl 28 (.agg #[.int .i64 r5.1, .int .i64 r5.2.1, .slice A6 r5.2.2.1.length c6]), pl 29 (.int .i64 r5.2.2.2.1), pl 30 (.int .i64 r5.2.2.2.2)] hF hS (by kernel_rfl) (by kernel_rfl) ?_ (fun a w hF hS => ?_)
  · exact obs_nil
  refine at_do (d := 6) (s := vS (Instr.alloc 41 true (.tuple #[]))) (v := .pointer (some ⟨w.heap.size, 0, none⟩)) (w' := w.alloc (.cells #[.int .i64 0, .int .i64 0, .slice none 0 0] 41)) hF (by kernel_rfl) (by kernel_rfl) (by kernel_rfl) (fun a hF => ?_)
  have hS : Sep w0 B (w.alloc (.cells #[.int .i64 0, .int .i64 0, .slice none 0 0] 41)) (blk w.heap.size 41 #[.int .i64 0, .int .i64 0, .slice none 0 0] :: (own 3 (.slice A6 r5.2.2.1.length c6) (vI r5.2.2.1) :: own 3 (.slice A5 r4.length c5) (vI r4) :: own 3 (.slice A4 r3.2.2.length c4) (vI r3.2.2) :: own 3 (.slice A3 r1.2.2.length c3) (vI r1.2.2) :: blk g4 41 #[.int .i64 g1, .int .i64 g2, .slice A1 g3.length c1] :: fs)) := hS.box 41 #[.int .i64 0, .int .i64 0, .slice none 0 0]
  generalize w.heap.size = g5 at hF hS
  generalize w.alloc (.cells #[.int .i64 0, .int .i64 0, .slice none 0 0] 41) = w at hS ⊢
  obtain ⟨w, hrun, hS⟩ := run_putA (P := Try.prog) (t := 41) (us := #[.int .i64 r5.1, .int .i64 r5.2.1, .slice A6 r5.2.2.1.length c6]) (o := 0) (hS.at_ 0 rfl) (by kernel_rfl) (all_one (by kernel_rfl)) (Nat.le_of_ble_eq_true (by kernel_rfl))
  refine at_skip hF (by kernel_rfl) hrun ?_
  have hS : Sep w0 B w (blk g5 41 #[.int .i64 r5.1, .int .i64 r5.2.1, .slice A6 r5.2.2.1.length c6] :: own 3 (.slice A6 r5.2.2.1.length c6) (vI r5.2.2.1) :: own 3 (.slice A5 r4.length c5) (vI r4) :: own 3 (.slice A4 r3.2.2.length c4) (vI r3.2.2) :: own 3 (.slice A3 r1.2.2.length c3) (vI r1.2.2) :: blk g4 41 #[.int .i64 g1, .int .i64 g2, .slice A1 g3.length c1] :: fs) := hS
  refine at_run 2 [] [] [1, 2, 5, 6, 7, 8] [pl 1 (.slice A2 l1.length c2), pl 2 (.pointer (some ⟨g4, 0, none⟩)), pl 5 (.bool r2), pl 6 (.pointer (some ⟨g5, 0, none⟩)), pl 7 (.int .i64 r5.2.2.2.1), pl 8 (.int .i64 r5.2.2.2.2)] hF hS (by kernel_rfl) (by kernel_rfl) ?_ (fun a w hF hS => ?_)
  · exact obs_nil
  refine at_end [1, 2, 5, 6, 7, 8] [pl 1 (.slice A2 l1.length c2), pl 2 (.pointer (some ⟨g4, 0, none⟩)), pl 5 (.bool r2), pl 6 (.pointer (some ⟨g5, 0, none⟩)), pl 7 (.int .i64 r5.2.2.2.1), pl 8 (.int .i64 r5.2.2.2.2)] hF rfl (by kernel_rfl) (fun hF => ?_)
  refine then_n ?_
  refine seqR ?_
  obtain ⟨r6, hr6, hm⟩ := call_b hm
  obtain ⟨r7, hr7, hm⟩ := call_b hm
  refine at_run 1 [⟨false, [], vS (Instr.loadAt 41 (.pointer (some ⟨g4, 0, none⟩))), .agg #[.int .i64 g1, .int .i64 g2, .slice A1 g3.length c1]⟩] [some (.agg #[.int .i64 g1, .int .i64 g2, .slice A1 g3.length c1])] [1, 2, 5, 6, 7, 8, 32] [pl 1 (.slice A2 l1.length c2), pl 2 (.pointer (some ⟨g4, 0, none⟩)), pl 5 (.bool r2), pl 6 (.pointer (some ⟨g5, 0, none⟩)), pl 7 (.int .i64 r5.2.2.2.1), pl 8 (.int .i64 r5.2.2.2.2), pl 32 (.agg #[.int .i64 g1, .int .i64 g2, .slice A1 g3.length c1])] hF hS (by kernel_rfl) (by kernel_rfl) ?_ (fun a w hF hS => ?_)
  · exact obs_cons (ob_loadA (cs := #[.int .i64 g1, .int .i64 g2, .slice A1 g3.length c1]) (by kernel_rfl) (by kernel_rfl) (fun _ _ hS => (hS.at_ 5 rfl).cellsAt 0 (by rfl))) <| obs_nil
  refine at_call (f := 30) (args := #[.agg #[.int .i64 g1, .int .i64 g2, .slice A1 g3.length c1]]) (d := 33) hF (by kernel_rfl) (by kernel_rfl) Try.func30 (by kernel_rfl) rfl (gameroomref_GridOf_w hr6 hS (fun _ hS => (hr_g3 _ (hS.dropN 6))) _hc_g3 rfl) (fun v a w hR hF => ?_)
  clear hS
  obtain ⟨A7, c7, rfl, hS⟩ := hR
  have hS : Sep w0 B w (own 3 (.slice A7 r6.2.2.length c7) (vI r6.2.2) :: blk g5 41 #[.int .i64 r5.1, .int .i64 r5.2.1, .slice A6 r5.2.2.1.length c6] :: own 3 (.slice A6 r5.2.2.1.length c6) (vI r5.2.2.1) :: own 3 (.slice A5 r4.length c5) (vI r4) :: own 3 (.slice A4 r3.2.2.length c4) (vI r3.2.2) :: own 3 (.slice A3 r1.2.2.length c3) (vI r1.2.2) :: blk g4 41 #[.int .i64 g1, .int .i64 g2, .slice A1 g3.length c1] :: fs) := hS
  refine at_run 6 [⟨false, [], callFunc 44 #[.agg #[.int .i64 r6.1, .int .i64 r6.2.1, .slice A7 r6.2.2.length c7]], .tuple #[.bool r7.1, .int .i64 r7.2]⟩] [some (.tuple #[.bool r7.1, .int .i64 r7.2]), none, none, none, none, none] [1, 2, 5, 6, 7, 8, 9, 10] [pl 1 (.slice A2 l1.length c2), pl 2 (.pointer (some ⟨g4, 0, none⟩)), pl 5 (.bool r2), pl 6 (.pointer (some ⟨g5, 0, none⟩)), pl 7 (.int .i64 r5.2.2.2.1), pl 8 (.int .i64 r5.2.2.2.2), pl 9 (.bool r7.1), pl 10 (.int .i64 r7.2)] hF hS (by kernel_rfl) (by kernel_rfl) ?_ (fun a w hF hS => ?_)
  · exact obs_cons (ob_call Try.func44 (by kernel_rfl) rfl (fun _ _ hS => slide_Can_w hr7 hS (fun _ hS => (hS.at_ 0 rfl).rd) ((hS.at_ 0 rfl).cap1) rfl)) <| obs_nil
  refine at_end [1, 2, 5, 6, 7, 8, 9, 10] [pl 1 (.slice A2 l1.length c2), pl 2 (.pointer (some ⟨g4, 0, none⟩)), pl 5 (.bool r2), pl 6 (.pointer (some ⟨g5, 0, none⟩)), pl 7 (.int .i64 r5.2.2.2.1), pl 8 (.int .i64 r5.2.2.2.2), pl 9 (.bool r7.1), pl 10 (.int .i64 r7.2)] hF rfl (by kernel_rfl) (fun hF => ?_)
  refine then_n ?_
  refine seqR ?_
  obtain ⟨r8, hr8, hm⟩ := call_b hm
  obtain ⟨r9, hr9, hm⟩ := call_b hm
  refine at_run 1 [⟨false, [], vS (Instr.loadAt 41 (.pointer (some ⟨g4, 0, none⟩))), .agg #[.int .i64 g1, .int .i64 g2, .slice A1 g3.length c1]⟩] [some (.agg #[.int .i64 g1, .int .i64 g2, .slice A1 g3.length c1])] [1, 2, 5, 6, 7, 8, 9, 10, 38] [pl 1 (.slice A2 l1.length c2), pl 2 (.pointer (some ⟨g4, 0, none⟩)), pl 5 (.bool r2), pl 6 (.pointer (some ⟨g5, 0, none⟩)), pl 7 (.int .i64 r5.2.2.2.1), pl 8 (.int .i64 r5.2.2.2.2), pl 9 (.bool r7.1), pl 10 (.int .i64 r7.2), pl 38 (.agg #[.int .i64 g1, .int .i64 g2, .slice A1 g3.length c1])] hF hS (by kernel_rfl) (by kernel_rfl) ?_ (fun a w hF hS => ?_)
  · exact obs_cons (ob_loadA (cs := #[.int .i64 g1, .int .i64 g2, .slice A1 g3.length c1]) (by kernel_rfl) (by kernel_rfl) (fun _ _ hS => (hS.at_ 6 rfl).cellsAt 0 (by rfl))) <| obs_nil
  refine at_call (f := 30) (args := #[.agg #[.int .i64 g1, .int .i64 g2, .slice A1 g3.length c1]]) (d := 39) hF (by kernel_rfl) (by kernel_rfl) Try.func30 (by kernel_rfl) rfl (gameroomref_GridOf_w hr8 hS (fun _ hS => (hr_g3 _ (hS.dropN 7))) _hc_g3 rfl) (fun v a w hR hF => ?_)
  clear hS
  obtain ⟨A8, c8, rfl, hS⟩ := hR
  have hS : Sep w0 B w (own 3 (.slice A8 r8.2.2.length c8) (vI r8.2.2) :: own 3 (.slice A7 r6.2.2.length c7) (vI r6.2.2) :: blk g5 41 #[.int .i64 r5.1, .int .i64 r5.2.1, .slice A6 r5.2.2.1.length c6] :: own 3 (.slice A6 r5.2.2.1.length c6) (vI r5.2.2.1) :: own 3 (.slice A5 r4.length c5) (vI r4) :: own 3 (.slice A4 r3.2.2.length c4) (vI r3.2.2) :: own 3 (.slice A3 r1.2.2.length c3) (vI r1.2.2) :: blk g4 41 #[.int .i64 g1, .int .i64 g2, .slice A1 g3.length c1] :: fs) := hS
  refine at_run 6 [⟨false, [], callFunc 45 #[.agg #[.int .i64 r8.1, .int .i64 r8.2.1, .slice A8 r8.2.2.length c8]], .tuple #[.int .i64 r9.1, .int .i64 r9.2]⟩] [some (.tuple #[.int .i64 r9.1, .int .i64 r9.2]), none, none, none, none, none] [1, 2, 5, 6, 7, 8, 9, 10, 11, 12] [pl 1 (.slice A2 l1.length c2), pl 2 (.pointer (some ⟨g4, 0, none⟩)), pl 5 (.bool r2), pl 6 (.pointer (some ⟨g5, 0, none⟩)), pl 7 (.int .i64 r5.2.2.2.1), pl 8 (.int .i64 r5.2.2.2.2), pl 9 (.bool r7.1), pl 10 (.int .i64 r7.2), pl 11 (.int .i64 r9.1), pl 12 (.int .i64 r9.2)] hF hS (by kernel_rfl) (by kernel_rfl) ?_ (fun a w hF hS => ?_)
  · exact obs_cons (ob_call Try.func45 (by kernel_rfl) rfl (fun _ _ hS => slide_Least_w hr9 hS (fun _ hS => (hS.at_ 0 rfl).rd) ((hS.at_ 0 rfl).cap1) rfl)) <| obs_nil
  refine at_end [1, 2, 5, 6, 7, 8, 9, 10, 11, 12] [pl 1 (.slice A2 l1.length c2), pl 2 (.pointer (some ⟨g4, 0, none⟩)), pl 5 (.bool r2), pl 6 (.pointer (some ⟨g5, 0, none⟩)), pl 7 (.int .i64 r5.2.2.2.1), pl 8 (.int .i64 r5.2.2.2.2), pl 9 (.bool r7.1), pl 10 (.int .i64 r7.2), pl 11 (.int .i64 r9.1), pl 12 (.int .i64 r9.2)] hF rfl (by kernel_rfl) (fun hF => ?_)
  refine then_n ?_
  refine seq_cut (fun a w => Fr 138 [pl 1 (.slice A2 l1.length c2), pl 2 (.pointer (some ⟨g4, 0, none⟩)), pl 5 (.bool r2), pl 6 (.pointer (some ⟨g5, 0, none⟩)), pl 7 (.int .i64 r5.2.2.2.1), pl 8 (.int .i64 r5.2.2.2.2), pl 9 (.bool r7.1), pl 10 (.int .i64 r7.2), pl 11 (.int .i64 r9.1), pl 12 (.int .i64 r9.2)] a ∧ Sep w0 B w (blk g4 41 #[.int .i64 g1, .int .i64 g2, .slice A1 g3.length c1] :: blk g5 41 #[.int .i64 r5.1, .int .i64 r5.2.1, .slice A6 r5.2.2.1.length c6] :: own 3 (.slice A6 r5.2.2.1.length c6) (vI r5.2.2.1) :: fs) ∧ ((gameroomlaw_SlideMoves_J1 g1 g2 g3 l1 r2 r5 r7 r9)).bind some = some r) ?_ ?_
  · rintro a w ⟨hF, hS, hm⟩
    unfold gameroomlaw_SlideMoves_J1 at hm
    refine seqR ?_
    obtain ⟨r12, hr12, hm⟩ := call_b hm
    refine at_run 1 [⟨false, [], vS (Instr.loadAt 41 (.pointer (some ⟨g4, 0, none⟩))), .agg #[.int .i64 g1, .int .i64 g2, .slice A1 g3.length c1]⟩] [some (.agg #[.int .i64 g1, .int .i64 g2, .slice A1 g3.length c1])] [1, 2, 5, 6, 7, 8, 9, 10, 11, 12, 76] [pl 1 (.slice A2 l1.length c2), pl 2 (.pointer (some ⟨g4, 0, none⟩)), pl 5 (.bool r2), pl 6 (.pointer (some ⟨g5, 0, none⟩)), pl 7 (.int .i64 r5.2.2.2.1), pl 8 (.int .i64 r5.2.2.2.2), pl 9 (.bool r7.1), pl 10 (.int .i64 r7.2), pl 11 (.int .i64 r9.1), pl 12 (.int .i64 r9.2), pl 76 (.agg #[.int .i64 g1, .int .i64 g2, .slice A1 g3.length c1])] hF hS (by kernel_rfl) (by kernel_rfl) ?_ (fun a w hF hS => ?_)
    · exact obs_cons (ob_loadA (cs := #[.int .i64 g1, .int .i64 g2, .slice A1 g3.length c1]) (by kernel_rfl) (by kernel_rfl) (fun _ _ hS => (hS.at_ 0 rfl).cellsAt 0 (by rfl))) <| obs_nil
    refine at_call (f := 30) (args := #[.agg #[.int .i64 g1, .int .i64 g2, .slice A1 g3.length c1]]) (d := 77) hF (by kernel_rfl) (by kernel_rfl) Try.func30 (by kernel_rfl) rfl (gameroomref_GridOf_w hr12 hS (fun _ hS => (hr_g3 _ (hS.dropN 3))) _hc_g3 rfl) (fun v a w hR hF => ?_)
    clear hS
    obtain ⟨A9, c9, rfl, hS⟩ := hR
    have hS : Sep w0 B w (own 3 (.slice A9 r12.2.2.length c9) (vI r12.2.2) :: blk g4 41 #[.int .i64 g1, .int .i64 g2, .slice A1 g3.length c1] :: blk g5 41 #[.int .i64 r5.1, .int .i64 r5.2.1, .slice A6 r5.2.2.1.length c6] :: own 3 (.slice A6 r5.2.2.1.length c6) (vI r5.2.2.1) :: fs) := hS
    refine at_do (d := 13) (s := vS (Instr.alloc 41 true (.tuple #[]))) (v := .pointer (some ⟨w.heap.size, 0, none⟩)) (w' := w.alloc (.cells #[.int .i64 0, .int .i64 0, .slice none 0 0] 41)) hF (by kernel_rfl) (by kernel_rfl) (by kernel_rfl) (fun a hF => ?_)
    have hS : Sep w0 B (w.alloc (.cells #[.int .i64 0, .int .i64 0, .slice none 0 0] 41)) (blk w.heap.size 41 #[.int .i64 0, .int .i64 0, .slice none 0 0] :: (own 3 (.slice A9 r12.2.2.length c9) (vI r12.2.2) :: blk g4 41 #[.int .i64 g1, .int .i64 g2, .slice A1 g3.length c1] :: blk g5 41 #[.int .i64 r5.1, .int .i64 r5.2.1, .slice A6 r5.2.2.1.length c6] :: own 3 (.slice A6 r5.2.2.1.length c6) (vI r5.2.2.1) :: fs)) := hS.box 41 #[.int .i64 0, .int .i64 0, .slice none 0 0]
    generalize w.heap.size = g6 at hF hS
    generalize w.alloc (.cells #[.int .i64 0, .int .i64 0, .slice none 0 0] 41) = w at hS ⊢
    obtain ⟨w, hrun, hS⟩ := run_putA (P := Try.prog) (t := 41) (us := #[.int .i64 r12.1, .int .i64 r12.2.1, .slice A9 r12.2.2.length c9]) (o := 0) (hS.at_ 0 rfl) (by kernel_rfl) (all_one (by kernel_rfl)) (Nat.le_of_ble_eq_true (by kernel_rfl))
    refine at_skip hF (by kernel_rfl) hrun ?_
    have hS : Sep w0 B w (blk g6 41 #[.int .i64 r12.1, .int .i64 r12.2.1, .slice A9 r12.2.2.length c9] :: own 3 (.slice A9 r12.2.2.length c9) (vI r12.2.2) :: blk g4 41 #[.int .i64 g1, .int .i64 g2, .slice A1 g3.length c1] :: blk g5 41 #[.int .i64 r5.1, .int .i64 r5.2.1, .slice A6 r5.2.2.1.length c6] :: own 3 (.slice A6 r5.2.2.1.length c6) (vI r5.2.2.1) :: fs) := hS
    refine at_end [1, 2, 5, 6, 7, 8, 9, 10, 11, 12, 13] [pl 1 (.slice A2 l1.length c2), pl 2 (.pointer (some ⟨g4, 0, none⟩)), pl 5 (.bool r2), pl 6 (.pointer (some ⟨g5, 0, none⟩)), pl 7 (.int .i64 r5.2.2.2.1), pl 8 (.int .i64 r5.2.2.2.2), pl 9 (.bool r7.1), pl 10 (.int .i64 r7.2), pl 11 (.int .i64 r9.1), pl 12 (.int .i64 r9.2), pl 13 (.pointer (some ⟨g6, 0, none⟩))] hF rfl (by kernel_rfl) (fun hF => ?_)
    refine then_n ?_
    refine reg [] [] [1, 2, 5, 6, 7, 8, 9, 10, 11, 12, 13, 14] [pl 1 (.slice A2 l1.length c2), pl 2 (.pointer (some ⟨g4, 0, none⟩)), pl 5 (.bool r2), pl 6 (.pointer (some ⟨g5, 0, none⟩)), pl 7 (.int .i64 r5.2.2.2.1), pl 8 (.int .i64 r5.2.2.2.2), pl 9 (.bool r7.1), pl 10 (.int .i64 r7.2), pl 11 (.int .i64 r9.1), pl 12 (.int .i64 r9.2), pl 13 (.pointer (some ⟨g6, 0, none⟩)), pl 14 (.int .i64 0)] hF hS Fol (by kernel_rfl) (by kernel_rfl) (by kernel_rfl) ?_ (fun a w hF hS => ?_)
    · exact obs_nil
    refine reg [] [] [1, 2, 5, 6, 7, 8, 9, 10, 11, 12, 13, 14, 15] [pl 1 (.slice A2 l1.length c2), pl 2 (.pointer (some ⟨g4, 0, none⟩)), pl 5 (.bool r2), pl 6 (.pointer (some ⟨g5, 0, none⟩)), pl 7 (.int .i64 r5.2.2.2.1), pl 8 (.int .i64 r5.2.2.2.2), pl 9 (.bool r7.1), pl 10 (.int .i64 r7.2), pl 11 (.int .i64 r9.1), pl 12 (.int .i64 r9.2), pl 13 (.pointer (some ⟨g6, 0, none⟩)), pl 14 (.int .i64 0), pl 15 (.int .i64 0)] hF hS Fol (by kernel_rfl) (by kernel_rfl) (by kernel_rfl) ?_ (fun a w hF hS => ?_)
    · exact obs_nil
    refine seq_cut (fun a w => ∃ (now4 : Int) (now5 : Int) (now6 : List Int) (made2 : Int) (no2 : Int) (A11 : Option Addr) (c11 : Nat), Fr 138 [pl 2 (.pointer (some ⟨g4, 0, none⟩)), pl 5 (.bool r2), pl 6 (.pointer (some ⟨g5, 0, none⟩)), pl 7 (.int .i64 r5.2.2.2.1), pl 8 (.int .i64 r5.2.2.2.2), pl 9 (.bool r7.1), pl 10 (.int .i64 r7.2), pl 11 (.int .i64 r9.1), pl 12 (.int .i64 r9.2), pl 13 (.pointer (some ⟨g6, 0, none⟩)), pl 14 (.int .i64 made2), pl 15 (.int .i64 no2)] a ∧ Sep w0 B w (blk g4 41 #[.int .i64 g1, .int .i64 g2, .slice A1 g3.length c1] :: blk g5 41 #[.int .i64 r5.1, .int .i64 r5.2.1, .slice A6 r5.2.2.1.length c6] :: own 3 (.slice A6 r5.2.2.1.length c6) (vI r5.2.2.1) :: blk g6 41 #[.int .i64 now4, .int .i64 now5, .slice A11 now6.length c11] :: own 3 (.slice A11 now6.length c11) (vI now6) :: fs) ∧ ((gameroomlaw_SlideMoves_J2 g1 g2 g3 r2 r5 r7 r9) now4 now5 now6 made2 no2).bind some = some r) ?_ ?_
    · rintro a w ⟨now4, now5, now6, made2, no2, A11, c11, hF, hS, hm⟩
      unfold gameroomlaw_SlideMoves_J2 at hm
      obtain ⟨r14, hr14, hm⟩ := call_b hm
      obtain ⟨r15, hr15, hm⟩ := call_b hm
      obtain ⟨r16, hr16, hm⟩ := call_b hm
      refine reg [⟨false, [((r2 && (r5.2.2.2.2 == no2)) && (r5.2.2.2.1 == made2), true)], vS (Instr.loadAt 41 (.pointer (some ⟨g5, 0, none⟩))), .agg #[.int .i64 r5.1, .int .i64 r5.2.1, .slice A6 r5.2.2.1.length c6]⟩, ⟨false, [((r2 && (r5.2.2.2.2 == no2)) && (r5.2.2.2.1 == made2), true)], vS (Instr.loadAt 41 (.pointer (some ⟨g6, 0, none⟩))), .agg #[.int .i64 now4, .int .i64 now5, .slice A11 now6.length c11]⟩, ⟨false, [((r2 && (r5.2.2.2.2 == no2)) && (r5.2.2.2.1 == made2), true)], callFunc 40 #[.agg #[.int .i64 r5.1, .int .i64 r5.2.1, .slice A6 r5.2.2.1.length c6], .agg #[.int .i64 now4, .int .i64 now5, .slice A11 now6.length c11]], .bool r14⟩, ⟨false, [((((r2 && (r5.2.2.2.2 == no2)) && (r5.2.2.2.1 == made2)) && r14) && (r7.2 == 0), true)], vS (Instr.loadAt 41 (.pointer (some ⟨g4, 0, none⟩))), .agg #[.int .i64 g1, .int .i64 g2, .slice A1 g3.length c1]⟩, ⟨false, [((((r2 && (r5.2.2.2.2 == no2)) && (r5.2.2.2.1 == made2)) && r14) && (r7.2 == 0), true)], callFunc 48 #[.agg #[.int .i64 g1, .int .i64 g2, .slice A1 g3.length c1]], .bool r15⟩, ⟨false, [((((((r2 && (r5.2.2.2.2 == no2)) && (r5.2.2.2.1 == made2)) && r14) && (r7.2 == 0)) && (r7.1 == r15)) && (r9.2 == 0), true)], vS (Instr.loadAt 41 (.pointer (some ⟨g4, 0, none⟩))), .agg #[.int .i64 g1, .int .i64 g2, .slice A1 g3.length c1]⟩, ⟨false, [((((((r2 && (r5.2.2.2.2 == no2)) && (r5.2.2.2.1 == made2)) && r14) && (r7.2 == 0)) && (r7.1 == r15)) && (r9.2 == 0), true)], callFunc 49 #[.agg #[.int .i64 g1, .int .i64 g2, .slice A1 g3.length c1]], .int .i64 r16⟩] [none, none, none, none, none, none, none, none, none, none, none, none, some (.agg #[.int .i64 r5.1, .int .i64 r5.2.1, .slice A6 r5.2.2.1.length c6]), some (.agg #[.int .i64 now4, .int .i64 now5, .slice A11 now6.length c11]), some (.bool r14), none, none, none, none, none, none, none, some (.agg #[.int .i64 g1, .int .i64 g2, .slice A1 g3.length c1]), some (.bool r15), none, none, none, none, none, none, none, none, some (.agg #[.int .i64 g1, .int .i64 g2, .slice A1 g3.length c1]), some (.int .i64 r16), none, none, none] [4] [pl 4 (.bool (((((((r2 && (r5.2.2.2.2 == no2)) && (r5.2.2.2.1 == made2)) && r14) && (r7.2 == 0)) && (r7.1 == r15)) && (r9.2 == 0)) && (r9.1 == r16)))] hF hS Fol (by kernel_rfl) (by kernel_rfl) (by kernel_rfl) ?_ (fun a w hF hS => ?_)
      · exact obs_cons (ob_loadA (cs := #[.int .i64 r5.1, .int .i64 r5.2.1, .slice A6 r5.2.2.1.length c6]) (by kernel_rfl) (by kernel_rfl) (fun _ _ hS => (hS.at_ 1 rfl).cellsAt 0 (by rfl))) <| obs_cons (ob_loadA (cs := #[.int .i64 now4, .int .i64 now5, .slice A11 now6.length c11]) (by kernel_rfl) (by kernel_rfl) (fun _ _ hS => (hS.at_ 3 rfl).cellsAt 0 (by rfl))) <| obs_cons (ob_call Try.func40 (by kernel_rfl) rfl (fun hy _ hS => gameroomref_SameGrid_w (ite_some hr14 (by rw [show ((r2 && (r5.2.2.2.2 == no2)) && (r5.2.2.2.1 == made2)) = true from hy ((r2 && (r5.2.2.2.2 == no2)) && (r5.2.2.2.1 == made2), true) (by simp)]; try rfl)) hS (fun _ hS => (hS.at_ 2 rfl).rd) ((hS.at_ 2 rfl).cap1) rfl (fun _ hS => (hS.at_ 4 rfl).rd) ((hS.at_ 4 rfl).cap1) rfl)) <| obs_cons (ob_loadA (cs := #[.int .i64 g1, .int .i64 g2, .slice A1 g3.length c1]) (by kernel_rfl) (by kernel_rfl) (fun _ _ hS => (hS.at_ 0 rfl).cellsAt 0 (by rfl))) <| obs_cons (ob_call Try.func48 (by kernel_rfl) rfl (fun hy _ hS => gameroomref_SlideCan_w (ite_some hr15 (by rw [show ((((r2 && (r5.2.2.2.2 == no2)) && (r5.2.2.2.1 == made2)) && r14) && (r7.2 == 0)) = true from hy ((((r2 && (r5.2.2.2.2 == no2)) && (r5.2.2.2.1 == made2)) && r14) && (r7.2 == 0), true) (by simp)]; try rfl)) hS (fun _ hS => (hr_g3 _ (hS.dropN 5))) _hc_g3 rfl)) <| obs_cons (ob_loadA (cs := #[.int .i64 g1, .int .i64 g2, .slice A1 g3.length c1]) (by kernel_rfl) (by kernel_rfl) (fun _ _ hS => (hS.at_ 0 rfl).cellsAt 0 (by rfl))) <| obs_cons (ob_call Try.func49 (by kernel_rfl) rfl (fun hy _ hS => gameroomref_SlideLeast_w (ite_some hr16 (by rw [show ((((((r2 && (r5.2.2.2.2 == no2)) && (r5.2.2.2.1 == made2)) && r14) && (r7.2 == 0)) && (r7.1 == r15)) && (r9.2 == 0)) = true from hy ((((((r2 && (r5.2.2.2.2 == no2)) && (r5.2.2.2.1 == made2)) && r14) && (r7.2 == 0)) && (r7.1 == r15)) && (r9.2 == 0), true) (by simp)]; try rfl)) hS (fun _ hS => (hr_g3 _ (hS.dropN 5))) _hc_g3 rfl)) <| obs_nil
      refine wp_ret ?_
      have hS := hS.pickN 5 [] (by decide)
      have hm : some (((((((r2 && (r5.2.2.2.2 == no2)) && (r5.2.2.2.1 == made2)) && r14) && (r7.2 == 0)) && (r7.1 == r15)) && (r9.2 == 0)) && (r9.1 == r16)) = some r := hm
      obtain rfl := Option.some.inj hm
      exact retV (rs := [.tmp 4]) (vs := [.bool (((((((r2 && (r5.2.2.2.2 == no2)) && (r5.2.2.2.1 == made2)) && r14) && (r7.2 == 0)) && (r7.1 == r15)) && (r9.2 == 0)) && (r9.1 == r16))]) hF rfl (rv_t (by kernel_rfl) <| rv_nil) rfl ⟨rfl, hS⟩
    · refine reg [] [] [1, 2, 5, 6, 7, 8, 9, 10, 11, 12, 13, 14, 15, 16] [pl 1 (.slice A2 l1.length c2), pl 2 (.pointer (some ⟨g4, 0, none⟩)), pl 5 (.bool r2), pl 6 (.pointer (some ⟨g5, 0, none⟩)), pl 7 (.int .i64 r5.2.2.2.1), pl 8 (.int .i64 r5.2.2.2.2), pl 9 (.bool r7.1), pl 10 (.int .i64 r7.2), pl 11 (.int .i64 r9.1), pl 12 (.int .i64 r9.2), pl 13 (.pointer (some ⟨g6, 0, none⟩)), pl 14 (.int .i64 0), pl 15 (.int .i64 0), pl 16 (.int .i64 0)] hF hS Fol (by kernel_rfl) (by kernel_rfl) (by kernel_rfl) ?_ (fun a w hF hS => ?_)
      · exact obs_nil
      refine wp_block ?_
      have hS := hS.pickN 5 [2, 3, 4, 0, 1] (by decide)
      refine wp_loop_model (S := (Int × Int × List Int × Int × Int × Int)) (R := (Int × Int × List Int × Int × Int)) (gameroomlaw_SlideMoves_L1 l1) (fun x => ((gameroomlaw_SlideMoves_K1 g1 g2 g3 r2 r5 r7 r9) x).bind some) r (fun (x : (Int × Int × List Int × Int × Int × Int)) a w => ∃ (A10 : Option Addr) (c10 : Nat), Fr 138 [pl 1 (.slice A2 l1.length c2), pl 2 (.pointer (some ⟨g4, 0, none⟩)), pl 5 (.bool r2), pl 6 (.pointer (some ⟨g5, 0, none⟩)), pl 7 (.int .i64 r5.2.2.2.1), pl 8 (.int .i64 r5.2.2.2.2), pl 9 (.bool r7.1), pl 10 (.int .i64 r7.2), pl 11 (.int .i64 r9.1), pl 12 (.int .i64 r9.2), pl 13 (.pointer (some ⟨g6, 0, none⟩)), pl 14 (.int .i64 x.2.2.2.1), pl 15 (.int .i64 x.2.2.2.2.1), pl 16 (.int .i64 x.2.2.2.2.2)] a ∧ Sep w0 B w (blk g4 41 #[.int .i64 g1, .int .i64 g2, .slice A1 g3.length c1] :: blk g5 41 #[.int .i64 r5.1, .int .i64 r5.2.1, .slice A6 r5.2.2.1.length c6] :: own 3 (.slice A6 r5.2.2.1.length c6) (vI r5.2.2.1) :: blk g6 41 #[.int .i64 x.1, .int .i64 x.2.1, .slice A10 x.2.2.1.length c10] :: own 3 (.slice A10 x.2.2.1.length c10) (vI x.2.2.1) :: fs)) (assoc_b hm) ⟨A9, c9, hF.weak [1, 2, 5, 6, 7, 8, 9, 10, 11, 12, 13, 14, 15, 16] (by kernel_rfl), hS⟩ ?_
      clear hF hS hm
      rintro nn1 ⟨now1, now2, now3, made1, no1, i1⟩ a w ⟨A10, c10, hF, hS⟩ hm
      generalize hφ1 : stK (gameroomlaw_SlideMoves_L1 l1) nn1 (fun x => ((gameroomlaw_SlideMoves_K1 g1 g2 g3 r2 r5 r7 r9) x).bind some) = φ1 at hm
      unfold gameroomlaw_SlideMoves_L1 at hm
      dsimp only at hF hS hm
      refine seq_cut (fun a w => Fr 138 [pl 1 (.slice A2 l1.length c2), pl 2 (.pointer (some ⟨g4, 0, none⟩)), pl 5 (.bool r2), pl 6 (.pointer (some ⟨g5, 0, none⟩)), pl 7 (.int .i64 r5.2.2.2.1), pl 8 (.int .i64 r5.2.2.2.2), pl 9 (.bool r7.1), pl 10 (.int .i64 r7.2), pl 11 (.int .i64 r9.1), pl 12 (.int .i64 r9.2), pl 13 (.pointer (some ⟨g6, 0, none⟩)), pl 14 (.int .i64 made1), pl 15 (.int .i64 no1), pl 16 (.int .i64 i1)] a ∧ Sep w0 B w (blk g4 41 #[.int .i64 g1, .int .i64 g2, .slice A1 g3.length c1] :: blk g5 41 #[.int .i64 r5.1, .int .i64 r5.2.1, .slice A6 r5.2.2.1.length c6] :: own 3 (.slice A6 r5.2.2.1.length c6) (vI r5.2.2.1) :: blk g6 41 #[.int .i64 now1, .int .i64 now2, .slice A10 now3.length c10] :: own 3 (.slice A10 now3.length c10) (vI now3) :: fs) ∧ ((gameroomlaw_SlideMoves_J3 l1 now1 now2 now3 made1 no1 i1)).bind φ1 = some r) ?_ ?_
      · rintro a w ⟨hF, hS, hm⟩
        unfold gameroomlaw_SlideMoves_J3 at hm
        refine seq_cut (fun a w => ∃ (now7 : Int) (now8 : Int) (now9 : List Int) (made3 : Int) (no3 : Int) (A16 : Option Addr) (c16 : Nat), Fr 138 [pl 1 (.slice A2 l1.length c2), pl 2 (.pointer (some ⟨g4, 0, none⟩)), pl 5 (.bool r2), pl 6 (.pointer (some ⟨g5, 0, none⟩)), pl 7 (.int .i64 r5.2.2.2.1), pl 8 (.int .i64 r5.2.2.2.2), pl 9 (.bool r7.1), pl 10 (.int .i64 r7.2), pl 11 (.int .i64 r9.1), pl 12 (.int .i64 r9.2), pl 13 (.pointer (some ⟨g6, 0, none⟩)), pl 14 (.int .i64 made3), pl 15 (.int .i64 no3), pl 16 (.int .i64 i1)] a ∧ Sep w0 B w (blk g4 41 #[.int .i64 g1, .int .i64 g2, .slice A1 g3.length c1] :: blk g5 41 #[.int .i64 r5.1, .int .i64 r5.2.1, .slice A6 r5.2.2.1.length c6] :: own 3 (.slice A6 r5.2.2.1.length c6) (vI r5.2.2.1) :: blk g6 41 #[.int .i64 now7, .int .i64 now8, .slice A16 now9.length c16] :: own 3 (.slice A16 now9.length c16) (vI now9) :: fs) ∧ ((gameroomlaw_SlideMoves_J4 i1) now7 now8 now9 made3 no3).bind φ1 = some r) ?_ ?_
        · rintro a w ⟨now7, now8, now9, made3, no3, A16, c16, hF, hS, hm⟩
          unfold gameroomlaw_SlideMoves_J4 at hm
          refine reg1 [] [] [1, 2, 5, 6, 7, 8, 9, 10, 11, 12, 13, 14, 15, 16] [pl 1 (.slice A2 l1.length c2), pl 2 (.pointer (some ⟨g4, 0, none⟩)), pl 5 (.bool r2), pl 6 (.pointer (some ⟨g5, 0, none⟩)), pl 7 (.int .i64 r5.2.2.2.1), pl 8 (.int .i64 r5.2.2.2.2), pl 9 (.bool r7.1), pl 10 (.int .i64 r7.2), pl 11 (.int .i64 r9.1), pl 12 (.int .i64 r9.2), pl 13 (.pointer (some ⟨g6, 0, none⟩)), pl 14 (.int .i64 made3), pl 15 (.int .i64 no3), pl 16 (.int .i64 (w64 (i1 + 1)))] hF hS Fol (by kernel_rfl) (by kernel_rfl) (by kernel_rfl) ?_ (fun a w hF hS => ?_)
          · exact obs_nil
          refine then_n ?_
          rw [← hφ1] at hm
          exact ⟨(now7, now8, now9, made3, no3, (w64 (i1 + 1))), ⟨A16, c16, hF.weak [1, 2, 5, 6, 7, 8, 9, 10, 11, 12, 13, 14, 15, 16] (by kernel_rfl), hS⟩, hm⟩
        · refine wp_block ?_
          refine seq_cut (fun a w => ∃ (next1 : Int) (next2 : Int) (next3 : List Int) (ok1 : Bool) (g8 : Nat) (A14 : Option Addr) (c14 : Nat), Fr 138 [pl 1 (.slice A2 l1.length c2), pl 2 (.pointer (some ⟨g4, 0, none⟩)), pl 5 (.bool r2), pl 6 (.pointer (some ⟨g5, 0, none⟩)), pl 7 (.int .i64 r5.2.2.2.1), pl 8 (.int .i64 r5.2.2.2.2), pl 9 (.bool r7.1), pl 10 (.int .i64 r7.2), pl 11 (.int .i64 r9.1), pl 12 (.int .i64 r9.2), pl 13 (.pointer (some ⟨g6, 0, none⟩)), pl 14 (.int .i64 made1), pl 15 (.int .i64 no1), pl 16 (.int .i64 i1), pl 17 (.pointer (some ⟨g8, 0, none⟩)), pl 18 (.bool ok1)] a ∧ Sep w0 B w (blk g4 41 #[.int .i64 g1, .int .i64 g2, .slice A1 g3.length c1] :: blk g5 41 #[.int .i64 r5.1, .int .i64 r5.2.1, .slice A6 r5.2.2.1.length c6] :: own 3 (.slice A6 r5.2.2.1.length c6) (vI r5.2.2.1) :: blk g6 41 #[.int .i64 now1, .int .i64 now2, .slice A10 now3.length c10] :: own 3 (.slice A10 now3.length c10) (vI now3) :: blk g8 41 #[.int .i64 next1, .int .i64 next2, .slice A14 next3.length c14] :: own 3 (.slice A14 next3.length c14) (vI next3) :: fs) ∧ ((gameroomlaw_SlideMoves_J5 now1 now2 now3 made1 no1 i1) next1 next2 next3 ok1).bind φ1 = some r) ?_ ?_
          · rintro a w ⟨next1, next2, next3, ok1, g8, A14, c14, hF, hS, hm⟩
            unfold gameroomlaw_SlideMoves_J5 at hm
            refine reg [] [] [1, 2, 5, 6, 7, 8, 9, 10, 11, 12, 13, 14, 15, 16, 17, 98] [pl 1 (.slice A2 l1.length c2), pl 2 (.pointer (some ⟨g4, 0, none⟩)), pl 5 (.bool r2), pl 6 (.pointer (some ⟨g5, 0, none⟩)), pl 7 (.int .i64 r5.2.2.2.1), pl 8 (.int .i64 r5.2.2.2.2), pl 9 (.bool r7.1), pl 10 (.int .i64 r7.2), pl 11 (.int .i64 r9.1), pl 12 (.int .i64 r9.2), pl 13 (.pointer (some ⟨g6, 0, none⟩)), pl 14 (.int .i64 made1), pl 15 (.int .i64 no1), pl 16 (.int .i64 i1), pl 17 (.pointer (some ⟨g8, 0, none⟩)), pl 98 (.bool (!ok1))] hF hS Fol (by kernel_rfl) (by kernel_rfl) (by kernel_rfl) ?_ (fun a w hF hS => ?_)
            · exact obs_nil
            refine cond_ev (t := 98) (b := !ok1) hF (by kernel_rfl) (fun hb => ?_) (fun hb => ?_)
            · replace hm := if_t hm hb
              refine reg1 [] [] [1, 2, 5, 6, 7, 8, 9, 10, 11, 12, 13, 14, 15, 16] [pl 1 (.slice A2 l1.length c2), pl 2 (.pointer (some ⟨g4, 0, none⟩)), pl 5 (.bool r2), pl 6 (.pointer (some ⟨g5, 0, none⟩)), pl 7 (.int .i64 r5.2.2.2.1), pl 8 (.int .i64 r5.2.2.2.2), pl 9 (.bool r7.1), pl 10 (.int .i64 r7.2), pl 11 (.int .i64 r9.1), pl 12 (.int .i64 r9.2), pl 13 (.pointer (some ⟨g6, 0, none⟩)), pl 14 (.int .i64 made1), pl 15 (.int .i64 8), pl 16 (.int .i64 i1)] hF hS Fol (by kernel_rfl) (by kernel_rfl) (by kernel_rfl) ?_ (fun a w hF hS => ?_)
              · exact obs_nil
              refine block_n ?_
              refine then_n ?_
              have hS := hS.pickN 7 [0, 1, 2, 3, 4] (by decide)
              exact ⟨now1, now2, now3, made1, 8, A10, c10, hF.weak [1, 2, 5, 6, 7, 8, 9, 10, 11, 12, 13, 14, 15, 16] (by kernel_rfl), hS, hm⟩
            · replace hm := if_f hm hb
              refine seqR ?_
              refine at_run 1 [⟨false, [], vS (Instr.loadAt 41 (.pointer (some ⟨g8, 0, none⟩))), .agg #[.int .i64 next1, .int .i64 next2, .slice A14 next3.length c14]⟩] [some (.agg #[.int .i64 next1, .int .i64 next2, .slice A14 next3.length c14])] [1, 2, 5, 6, 7, 8, 9, 10, 11, 12, 13, 14, 15, 16, 99] [pl 1 (.slice A2 l1.length c2), pl 2 (.pointer (some ⟨g4, 0, none⟩)), pl 5 (.bool r2), pl 6 (.pointer (some ⟨g5, 0, none⟩)), pl 7 (.int .i64 r5.2.2.2.1), pl 8 (.int .i64 r5.2.2.2.2), pl 9 (.bool r7.1), pl 10 (.int .i64 r7.2), pl 11 (.int .i64 r9.1), pl 12 (.int .i64 r9.2), pl 13 (.pointer (some ⟨g6, 0, none⟩)), pl 14 (.int .i64 made1), pl 15 (.int .i64 no1), pl 16 (.int .i64 i1), pl 99 (.agg #[.int .i64 next1, .int .i64 next2, .slice A14 next3.length c14])] hF hS (by kernel_rfl) (by kernel_rfl) ?_ (fun a w hF hS => ?_)
              · exact obs_cons (ob_loadA (cs := #[.int .i64 next1, .int .i64 next2, .slice A14 next3.length c14]) (by kernel_rfl) (by kernel_rfl) (fun _ _ hS => (hS.at_ 5 rfl).cellsAt 0 (by rfl))) <| obs_nil
              obtain ⟨w, hrun, hS⟩ := run_putA (P := Try.prog) (t := 41) (us := #[.int .i64 next1, .int .i64 next2, .slice A14 next3.length c14]) (o := 0) (hS.at_ 3 rfl) (by kernel_rfl) (all_one (by kernel_rfl)) (Nat.le_of_ble_eq_true (by kernel_rfl))
              refine at_skip hF (by kernel_rfl) hrun ?_
              have hS : Sep w0 B w (blk g4 41 #[.int .i64 g1, .int .i64 g2, .slice A1 g3.length c1] :: blk g5 41 #[.int .i64 r5.1, .int .i64 r5.2.1, .slice A6 r5.2.2.1.length c6] :: own 3 (.slice A6 r5.2.2.1.length c6) (vI r5.2.2.1) :: blk g6 41 #[.int .i64 next1, .int .i64 next2, .slice A14 next3.length c14] :: own 3 (.slice A10 now3.length c10) (vI now3) :: blk g8 41 #[.int .i64 next1, .int .i64 next2, .slice A14 next3.length c14] :: own 3 (.slice A14 next3.length c14) (vI next3) :: fs) := hS
              refine at_end [1, 2, 5, 6, 7, 8, 9, 10, 11, 12, 13, 14, 15, 16] [pl 1 (.slice A2 l1.length c2), pl 2 (.pointer (some ⟨g4, 0, none⟩)), pl 5 (.bool r2), pl 6 (.pointer (some ⟨g5, 0, none⟩)), pl 7 (.int .i64 r5.2.2.2.1), pl 8 (.int .i64 r5.2.2.2.2), pl 9 (.bool r7.1), pl 10 (.int .i64 r7.2), pl 11 (.int .i64 r9.1), pl 12 (.int .i64 r9.2), pl 13 (.pointer (some ⟨g6, 0, none⟩)), pl 14 (.int .i64 made1), pl 15 (.int .i64 no1), pl 16 (.int .i64 i1)] hF rfl (by kernel_rfl) (fun hF => ?_)
              refine then_n ?_
              refine reg1 [] [] [1, 2, 5, 6, 7, 8, 9, 10, 11, 12, 13, 14, 15, 16] [pl 1 (.slice A2 l1.length c2), pl 2 (.pointer (some ⟨g4, 0, none⟩)), pl 5 (.bool r2), pl 6 (.pointer (some ⟨g5, 0, none⟩)), pl 7 (.int .i64 r5.2.2.2.1), pl 8 (.int .i64 r5.2.2.2.2), pl 9 (.bool r7.1), pl 10 (.int .i64 r7.2), pl 11 (.int .i64 r9.1), pl 12 (.int .i64 r9.2), pl 13 (.pointer (some ⟨g6, 0, none⟩)), pl 14 (.int .i64 (w64 (made1 + 1))), pl 15 (.int .i64 no1), pl 16 (.int .i64 i1)] hF hS Fol (by kernel_rfl) (by kernel_rfl) (by kernel_rfl) ?_ (fun a w hF hS => ?_)
              · exact obs_nil
              refine block_n ?_
              refine then_n ?_
              have hS := hS.pickN 7 [0, 1, 2, 3, 6] (by decide)
              exact ⟨next1, next2, next3, (w64 (made1 + 1)), no1, A14, c14, hF.weak [1, 2, 5, 6, 7, 8, 9, 10, 11, 12, 13, 14, 15, 16] (by kernel_rfl), hS, hm⟩
          · obtain ⟨hp1, hm⟩ := asrt_b hm
            obtain ⟨r13, hr13, hm⟩ := call_b hm
            refine regMix5 [0, 1, 2, 3, 4] [] 7 #[true, true, true, true, true, false, false, false, false, false, false, false] [⟨false, [], vS (Instr.loadAt 41 (.pointer (some ⟨g6, 0, none⟩))), .agg #[.int .i64 now1, .int .i64 now2, .slice A10 now3.length c10]⟩, ⟨true, [], vS (Instr.indexAt 22 (.slice A2 l1.length c2) (.int .i64 i1)), .pointer (some (sAddr A2 i1))⟩, ⟨false, [], vS (Instr.loadAt 3 (.pointer (some (sAddr A2 i1)))), .int .i64 (geti l1 i1)⟩] [some (.agg #[.int .i64 now1, .int .i64 now2, .slice A10 now3.length c10]), none, none, some (.pointer (some (sAddr A2 i1))), some (.int .i64 (geti l1 i1))] [1, 2, 5, 6, 7, 8, 9, 10, 11, 12, 13, 14, 15, 16, 89, 93] [pl 1 (.slice A2 l1.length c2), pl 2 (.pointer (some ⟨g4, 0, none⟩)), pl 5 (.bool r2), pl 6 (.pointer (some ⟨g5, 0, none⟩)), pl 7 (.int .i64 r5.2.2.2.1), pl 8 (.int .i64 r5.2.2.2.2), pl 9 (.bool r7.1), pl 10 (.int .i64 r7.2), pl 11 (.int .i64 r9.1), pl 12 (.int .i64 r9.2), pl 13 (.pointer (some ⟨g6, 0, none⟩)), pl 14 (.int .i64 made1), pl 15 (.int .i64 no1), pl 16 (.int .i64 i1), pl 89 (.agg #[.int .i64 now1, .int .i64 now2, .slice A10 now3.length c10]), pl 93 (.int .i64 (geti l1 i1))] hF hS Fol (by kernel_rfl) (by kernel_rfl) (by kernel_rfl) (by kernel_rfl) ?_ (fun a w hF hS => ?_)
            · exact obs_cons (ob_loadA (cs := #[.int .i64 now1, .int .i64 now2, .slice A10 now3.length c10]) (by kernel_rfl) (by kernel_rfl) (fun _ _ hS => (hS.at_ 3 rfl).cellsAt 0 (by rfl))) <| obs_cons (ob_ix1 (f := (Value.int .i64)) (m := l1) Und22 hi3 hs3 (hr_l1 _ (hS.dropN 5)) rfl (fun _ => hp1)) <| obs_cons (ob_get1 (n := l1.length) (m := l1) (Value.int .i64) (0 : Int) Agg3 (fun _ hS => ⟨_, (hr_l1 _ (hS.dropN 5))⟩) (fun _ hS => rfl) (fun _ => hp1)) <| obs_nil
            refine any_step [5, 9] (by kernel_rfl) rfl ?_
            refine (all_cons ?_ (all_cons ?_ all_nil))
            · refine any_op (listed' := #[true, true, true, true, true, true, false, false, false, false, false, false]) (by kernel_rfl) (by kernel_rfl) ?_
              refine at_call (f := 47) (args := #[.agg #[.int .i64 now1, .int .i64 now2, .slice A10 now3.length c10], .int .i64 (geti l1 i1)]) (d := 94) hF (by kernel_rfl) (by kernel_rfl) Try.func47 (by kernel_rfl) rfl (gameroomref_SlideMove_w hr13 hS (fun _ hS => (hS.at_ 4 rfl).rd) ((hS.at_ 4 rfl).cap1) rfl) (fun v a w hR hF => ?_)
              clear hS
              obtain ⟨A13, c13, rfl, hS⟩ := hR
              have hS : Sep w0 B w (own 3 (.slice A13 r13.2.2.1.length c13) (vI r13.2.2.1) :: blk g4 41 #[.int .i64 g1, .int .i64 g2, .slice A1 g3.length c1] :: blk g5 41 #[.int .i64 r5.1, .int .i64 r5.2.1, .slice A6 r5.2.2.1.length c6] :: own 3 (.slice A6 r5.2.2.1.length c6) (vI r5.2.2.1) :: blk g6 41 #[.int .i64 now1, .int .i64 now2, .slice A10 now3.length c10] :: own 3 (.slice A10 now3.length c10) (vI now3) :: fs) := hS
              refine any_fin rfl (hS.pickN 6 [1, 2, 3, 4, 5] (by decide)) ?_
              refine any_step [6, 9] (by kernel_rfl) rfl ?_
              refine (all_cons ?_ (all_cons ?_ all_nil))
              · refine any_op (listed' := #[true, true, true, true, true, true, true, false, false, false, false, false]) (by kernel_rfl) (by kernel_rfl) ?_
                refine at_runW 1 [] [] [1, 2, 5, 6, 7, 8, 9, 10, 11, 12, 13, 14, 15, 16, 88] [pl 1 (.slice A2 l1.length c2), pl 2 (.pointer (some ⟨g4, 0, none⟩)), pl 5 (.bool r2), pl 6 (.pointer (some ⟨g5, 0, none⟩)), pl 7 (.int .i64 r5.2.2.2.1), pl 8 (.int .i64 r5.2.2.2.2), pl 9 (.bool r7.1), pl 10 (.int .i64 r7.2), pl 11 (.int .i64 r9.1), pl 12 (.int .i64 r9.2), pl 13 (.pointer (some ⟨g6, 0, none⟩)), pl 14 (.int .i64 made1), pl 15 (.int .i64 no1), pl 16 (.int .i64 i1), pl 88 (.tuple #[.agg #[.int .i64 r13.1, .int .i64 r13.2.1, .slice A13 r13.2.2.1.length c13], .bool r13.2.2.2])] hF hS (by kernel_rfl) (by kernel_rfl) ?_ (fun a hF => ?_)
                · exact obs_nil
                refine any_finI rfl (fun h => h) ?_
                refine any_step [7, 8, 9] (by kernel_rfl) rfl ?_
                refine (all_cons ?_ (all_cons ?_ (all_cons ?_ all_nil)))
                · refine any_op (listed' := #[true, true, true, true, true, true, true, true, false, false, false, false]) (by kernel_rfl) (by kernel_rfl) ?_
                  refine at_runW 1 [] [] [1, 2, 5, 6, 7, 8, 9, 10, 11, 12, 13, 14, 15, 16, 88, 95] [pl 1 (.slice A2 l1.length c2), pl 2 (.pointer (some ⟨g4, 0, none⟩)), pl 5 (.bool r2), pl 6 (.pointer (some ⟨g5, 0, none⟩)), pl 7 (.int .i64 r5.2.2.2.1), pl 8 (.int .i64 r5.2.2.2.2), pl 9 (.bool r7.1), pl 10 (.int .i64 r7.2), pl 11 (.int .i64 r9.1), pl 12 (.int .i64 r9.2), pl 13 (.pointer (some ⟨g6, 0, none⟩)), pl 14 (.int .i64 made1), pl 15 (.int .i64 no1), pl 16 (.int .i64 i1), pl 88 (.tuple #[.agg #[.int .i64 r13.1, .int .i64 r13.2.1, .slice A13 r13.2.2.1.length c13], .bool r13.2.2.2]), pl 95 (.agg #[.int .i64 r13.1, .int .i64 r13.2.1, .slice A13 r13.2.2.1.length c13])] hF hS (by kernel_rfl) (by kernel_rfl) ?_ (fun a hF => ?_)
                  · exact obs_nil
                  refine any_finI rfl (fun h => h) ?_
                  refine any_step [8, 9] (by kernel_rfl) rfl ?_
                  refine (all_cons ?_ (all_cons ?_ all_nil))
                  · refine any_op (listed' := #[true, true, true, true, true, true, true, true, true, false, false, false]) (by kernel_rfl) (by kernel_rfl) ?_
                    refine at_runW 1 [] [] [1, 2, 5, 6, 7, 8, 9, 10, 11, 12, 13, 14, 15, 16, 95, 96] [pl 1 (.slice A2 l1.length c2), pl 2 (.pointer (some ⟨g4, 0, none⟩)), pl 5 (.bool r2), pl 6 (.pointer (some ⟨g5, 0, none⟩)), pl 7 (.int .i64 r5.2.2.2.1), pl 8 (.int .i64 r5.2.2.2.2), pl 9 (.bool r7.1), pl 10 (.int .i64 r7.2), pl 11 (.int .i64 r9.1), pl 12 (.int .i64 r9.2), pl 13 (.pointer (some ⟨g6, 0, none⟩)), pl 14 (.int .i64 made1), pl 15 (.int .i64 no1), pl 16 (.int .i64 i1), pl 95 (.agg #[.int .i64 r13.1, .int .i64 r13.2.1, .slice A13 r13.2.2.1.length c13]), pl 96 (.bool r13.2.2.2)] hF hS (by kernel_rfl) (by kernel_rfl) ?_ (fun a hF => ?_)
                    · exact obs_nil
                    refine any_finI rfl (fun h => h) ?_
                    refine any_step [9] (by kernel_rfl) rfl ?_
                    refine (all_cons ?_ all_nil)
                    · refine any_op (listed' := #[true, true, true, true, true, true, true, true, true, true, false, false]) (by kernel_rfl) (by kernel_rfl) ?_
                      refine at_do (d := 17) (s := vS (Instr.alloc 41 true (.tuple #[]))) (v := .pointer (some ⟨w.heap.size, 0, none⟩)) (w' := w.alloc (.cells #[.int .i64 0, .int .i64 0, .slice none 0 0] 41)) hF (by kernel_rfl) (by kernel_rfl) (by kernel_rfl) (fun a hF => ?_)
                      have hS : Sep w0 B (w.alloc (.cells #[.int .i64 0, .int .i64 0, .slice none 0 0] 41)) (blk w.heap.size 41 #[.int .i64 0, .int .i64 0, .slice none 0 0] :: (own 3 (.slice A13 r13.2.2.1.length c13) (vI r13.2.2.1) :: blk g4 41 #[.int .i64 g1, .int .i64 g2, .slice A1 g3.length c1] :: blk g5 41 #[.int .i64 r5.1, .int .i64 r5.2.1, .slice A6 r5.2.2.1.length c6] :: own 3 (.slice A6 r5.2.2.1.length c6) (vI r5.2.2.1) :: blk g6 41 #[.int .i64 now1, .int .i64 now2, .slice A10 now3.length c10] :: own 3 (.slice A10 now3.length c10) (vI now3) :: fs)) := hS.box 41 #[.int .i64 0, .int .i64 0, .slice none 0 0]
                      generalize w.heap.size = g7 at hF hS
                      generalize w.alloc (.cells #[.int .i64 0, .int .i64 0, .slice none 0 0] 41) = w at hS ⊢
                      refine any_fin rfl (hS.pickN 7 [2, 3, 4, 5, 6] (by decide)) ?_
                      refine any_step [10] (by kernel_rfl) rfl ?_
                      refine (all_cons ?_ all_nil)
                      · refine any_op (listed' := #[true, true, true, true, true, true, true, true, true, true, true, false]) (by kernel_rfl) (by kernel_rfl) ?_
                        obtain ⟨w, hrun, hS⟩ := run_putA (P := Try.prog) (t := 41) (us := #[.int .i64 r13.1, .int .i64 r13.2.1, .slice A13 r13.2.2.1.length c13]) (o := 0) (hS.at_ 0 rfl) (by kernel_rfl) (all_one (by kernel_rfl)) (Nat.le_of_ble_eq_true (by kernel_rfl))
                        refine at_skip hF (by kernel_rfl) hrun ?_
                        have hS : Sep w0 B w (blk g7 41 #[.int .i64 r13.1, .int .i64 r13.2.1, .slice A13 r13.2.2.1.length c13] :: own 3 (.slice A13 r13.2.2.1.length c13) (vI r13.2.2.1) :: blk g4 41 #[.int .i64 g1, .int .i64 g2, .slice A1 g3.length c1] :: blk g5 41 #[.int .i64 r5.1, .int .i64 r5.2.1, .slice A6 r5.2.2.1.length c6] :: own 3 (.slice A6 r5.2.2.1.length c6) (vI r5.2.2.1) :: blk g6 41 #[.int .i64 now1, .int .i64 now2, .slice A10 now3.length c10] :: own 3 (.slice A10 now3.length c10) (vI now3) :: fs) := hS
                        refine any_fin rfl (hS.pickN 7 [2, 3, 4, 5, 6] (by decide)) ?_
                        refine any_step [11] (by kernel_rfl) rfl ?_
                        refine (all_cons ?_ all_nil)
                        · refine any_op (listed' := #[true, true, true, true, true, true, true, true, true, true, true, true]) (by kernel_rfl) (by kernel_rfl) ?_
                          refine at_runW 1 [] [] [1, 2, 5, 6, 7, 8, 9, 10, 11, 12, 13, 14, 15, 16, 17, 18] [pl 1 (.slice A2 l1.length c2), pl 2 (.pointer (some ⟨g4, 0, none⟩)), pl 5 (.bool r2), pl 6 (.pointer (some ⟨g5, 0, none⟩)), pl 7 (.int .i64 r5.2.2.2.1), pl 8 (.int .i64 r5.2.2.2.2), pl 9 (.bool r7.1), pl 10 (.int .i64 r7.2), pl 11 (.int .i64 r9.1), pl 12 (.int .i64 r9.2), pl 13 (.pointer (some ⟨g6, 0, none⟩)), pl 14 (.int .i64 made1), pl 15 (.int .i64 no1), pl 16 (.int .i64 i1), pl 17 (.pointer (some ⟨g7, 0, none⟩)), pl 18 (.bool r13.2.2.2)] hF hS (by kernel_rfl) (by kernel_rfl) ?_ (fun a hF => ?_)
                          · exact obs_nil
                          refine any_finI rfl (fun h => h) ?_
                          refine any_end (by kernel_rfl) ?_
                          refine np_n ?_
                          refine then_n ?_
                          have hS := hS.pickN 7 [2, 3, 4, 5, 6, 0, 1] (by decide)
                          exact ⟨r13.1, r13.2.1, r13.2.2.1, r13.2.2.2, g7, A13, c13, hF.weak [1, 2, 5, 6, 7, 8, 9, 10, 11, 12, 13, 14, 15, 16, 17, 18] (by kernel_rfl), hS, hm⟩
                  · refine any_op (listed' := #[true, true, true, true, true, true, true, true, false, true, false, false]) (by kernel_rfl) (by kernel_rfl) ?_
                    refine at_do (d := 17) (s := vS (Instr.alloc 41 true (.tuple #[]))) (v := .pointer (some ⟨w.heap.size, 0, none⟩)) (w' := w.alloc (.cells #[.int .i64 0, .int .i64 0, .slice none 0 0] 41)) hF (by kernel_rfl) (by kernel_rfl) (by kernel_rfl) (fun a hF => ?_)
                    have hS : Sep w0 B (w.alloc (.cells #[.int .i64 0, .int .i64 0, .slice none 0 0] 41)) (blk w.heap.size 41 #[.int .i64 0, .int .i64 0, .slice none 0 0] :: (own 3 (.slice A13 r13.2.2.1.length c13) (vI r13.2.2.1) :: blk g4 41 #[.int .i64 g1, .int .i64 g2, .slice A1 g3.length c1] :: blk g5 41 #[.int .i64 r5.1, .int .i64 r5.2.1, .slice A6 r5.2.2.1.length c6] :: own 3 (.slice A6 r5.2.2.1.length c6) (vI r5.2.2.1) :: blk g6 41 #[.int .i64 now1, .int .i64 now2, .slice A10 now3.length c10] :: own 3 (.slice A10 now3.length c10) (vI now3) :: fs)) := hS.box 41 #[.int .i64 0, .int .i64 0, .slice none 0 0]
                    generalize w.heap.size = g7 at hF hS
                    generalize w.alloc (.cells #[.int .i64 0, .int .i64 0, .slice none 0 0] 41) = w at hS ⊢
                    refine any_fin rfl (hS.pickN 7 [2, 3, 4, 5, 6] (by decide)) ?_
                    refine any_step [8, 10] (by kernel_rfl) rfl ?_
                    refine (all_cons ?_ (all_cons ?_ all_nil))
                    · refine any_op (listed' := #[true, true, true, true, true, true, true, true, true, true, false, false]) (by kernel_rfl) (by kernel_rfl) ?_
                      refine at_runW 1 [] [] [1, 2, 5, 6, 7, 8, 9, 10, 11, 12, 13, 14, 15, 16, 17, 95, 96] [pl 1 (.slice A2 l1.length c2), pl 2 (.pointer (some ⟨g4, 0, none⟩)), pl 5 (.bool r2), pl 6 (.pointer (some ⟨g5, 0, none⟩)), pl 7 (.int .i64 r5.2.2.2.1), pl 8 (.int .i64 r5.2.2.2.2), pl 9 (.bool r7.1), pl 10 (.int .i64 r7.2), pl 11 (.int .i64 r9.1), pl 12 (.int .i64 r9.2), pl 13 (.pointer (some ⟨g6, 0, none⟩)), pl 14 (.int .i64 made1), pl 15 (.int .i64 no1), pl 16 (.int .i64 i1), pl 17 (.pointer (some ⟨g7, 0, none⟩)), pl 95 (.agg #[.int .i64 r13.1, .int .i64 r13.2.1, .slice A13 r13.2.2.1.length c13]), pl 96 (.bool r13.2.2.2)] hF hS (by kernel_rfl) (by kernel_rfl) ?_ (fun a hF => ?_)
                      · exact obs_nil
                      refine any_finI rfl (fun h => h) ?_
                      refine any_step [10] (by kernel_rfl) rfl ?_
                      refine (all_cons ?_ all_nil)
                      · refine any_op (listed' := #[true, true, true, true, true, true, true, true, true, true, true, false]) (by kernel_rfl) (by kernel_rfl) ?_
                        obtain ⟨w, hrun, hS⟩ := run_putA (P := Try.prog) (t := 41) (us := #[.int .i64 r13.1, .int .i64 r13.2.1, .slice A13 r13.2.2.1.length c13]) (o := 0) (hS.at_ 0 rfl) (by kernel_rfl) (all_one (by kernel_rfl)) (Nat.le_of_ble_eq_true (by kernel_rfl))
                        refine at_skip hF (by kernel_rfl) hrun ?_
                        have hS : Sep w0 B w (blk g7 41 #[.int .i64 r13.1, .int .i64 r13.2.1, .slice A13 r13.2.2.1.length c13] :: own 3 (.slice A13 r13.2.2.1.length c13) (vI r13.2.2.1) :: blk g4 41 #[.int .i64 g1, .int .i64 g2, .slice A1 g3.length c1] :: blk g5 41 #[.int .i64 r5.1, .int .i64 r5.2.1, .slice A6 r5.2.2.1.length c6] :: own 3 (.slice A6 r5.2.2.1.length c6) (vI r5.2.2.1) :: blk g6 41 #[.int .i64 now1, .int .i64 now2, .slice A10 now3.length c10] :: own 3 (.slice A10 now3.length c10) (vI now3) :: fs) := hS
                        refine any_fin rfl (hS.pickN 7 [2, 3, 4, 5, 6] (by decide)) ?_
                        refine any_step [11] (by kernel_rfl) rfl ?_
                        refine (all_cons ?_ all_nil)
                        · refine any_op (listed' := #[true, true, true, true, true, true, true, true, true, true, true, true]) (by kernel_rfl) (by kernel_rfl) ?_
                          refine at_runW 1 [] [] [1, 2, 5, 6, 7, 8, 9, 10, 11, 12, 13, 14, 15, 16, 17, 18] [pl 1 (.slice A2 l1.length c2), pl 2 (.pointer (some ⟨g4, 0, none⟩)), pl 5 (.bool r2), pl 6 (.pointer (some ⟨g5, 0, none⟩)), pl 7 (.int .i64 r5.2.2.2.1), pl 8 (.int .i64 r5.2.2.2.2), pl 9 (.bool r7.1), pl 10 (.int .i64 r7.2), pl 11 (.int .i64 r9.1), pl 12 (.int .i64 r9.2), pl 13 (.pointer (some ⟨g6, 0, none⟩)), pl 14 (.int .i64 made1), pl 15 (.int .i64 no1), pl 16 (.int .i64 i1), pl 17 (.pointer (some ⟨g7, 0, none⟩)), pl 18 (.bool r13.2.2.2)] hF hS (by kernel_rfl) (by kernel_rfl) ?_ (fun a hF => ?_)
                          · exact obs_nil
                          refine any_finI rfl (fun h => h) ?_
                          refine any_end (by kernel_rfl) ?_
                          refine np_n ?_
                          refine then_n ?_
                          have hS := hS.pickN 7 [2, 3, 4, 5, 6, 0, 1] (by decide)
                          exact ⟨r13.1, r13.2.1, r13.2.2.1, r13.2.2.2, g7, A13, c13, hF.weak [1, 2, 5, 6, 7, 8, 9, 10, 11, 12, 13, 14, 15, 16, 17, 18] (by kernel_rfl), hS, hm⟩
                    · refine any_op (listed' := #[true, true, true, true, true, true, true, true, false, true, true, false]) (by kernel_rfl) (by kernel_rfl) ?_
                      obtain ⟨w, hrun, hS⟩ := run_putA (P := Try.prog) (t := 41) (us := #[.int .i64 r13.1, .int .i64 r13.2.1, .slice A13 r13.2.2.1.length c13]) (o := 0) (hS.at_ 0 rfl) (by kernel_rfl) (all_one (by kernel_rfl)) (Nat.le_of_ble_eq_true (by kernel_rfl))
                      refine at_skip hF (by kernel_rfl) hrun ?_
                      have hS : Sep w0 B w (blk g7 41 #[.int .i64 r13.1, .int .i64 r13.2.1, .slice A13 r13.2.2.1.length c13] :: own 3 (.slice A13 r13.2.2.1.length c13) (vI r13.2.2.1) :: blk g4 41 #[.int .i64 g1, .int .i64 g2, .slice A1 g3.length c1] :: blk g5 41 #[.int .i64 r5.1, .int .i64 r5.2.1, .slice A6 r5.2.2.1.length c6] :: own 3 (.slice A6 r5.2.2.1.length c6) (vI r5.2.2.1) :: blk g6 41 #[.int .i64 now1, .int .i64 now2, .slice A10 now3.length c10] :: own 3 (.slice A10 now3.length c10) (vI now3) :: fs) := hS
                      refine any_fin rfl (hS.pickN 7 [2, 3, 4, 5, 6] (by decide)) ?_
                      refine any_step [8] (by kernel_rfl) rfl ?_
                      refine (all_cons ?_ all_nil)
                      · refine any_op (listed' := #[true, true, true, true, true, true, true, true, true, true, true, false]) (by kernel_rfl) (by kernel_rfl) ?_
                        refine at_runW 1 [] [] [1, 2, 5, 6, 7, 8, 9, 10, 11, 12, 13, 14, 15, 16, 17, 96] [pl 1 (.slice A2 l1.length c2), pl 2 (.pointer (some ⟨g4, 0, none⟩)), pl 5 (.bool r2), pl 6 (.pointer (some ⟨g5, 0, none⟩)), pl 7 (.int .i64 r5.2.2.2.1), pl 8 (.int .i64 r5.2.2.2.2), pl 9 (.bool r7.1), pl 10 (.int .i64 r7.2), pl 11 (.int .i64 r9.1), pl 12 (.int .i64 r9.2), pl 13 (.pointer (some ⟨g6, 0, none⟩)), pl 14 (.int .i64 made1), pl 15 (.int .i64 no1), pl 16 (.int .i64 i1), pl 17 (.pointer (some ⟨g7, 0, none⟩)), pl 96 (.bool r13.2.2.2)] hF hS (by kernel_rfl) (by kernel_rfl) ?_ (fun a hF => ?_)
                        · exact obs_nil
                        refine any_finI rfl (fun h => h) ?_
                        refine any_step [11] (by kernel_rfl) rfl ?_
                        refine (all_cons ?_ all_nil)
                        · refine any_op (listed' := #[true, true, true, true, true, true, true, true, true, true, true, true]) (by kernel_rfl) (by kernel_rfl) ?_
                          refine at_runW 1 [] [] [1, 2, 5, 6, 7, 8, 9, 10, 11, 12, 13, 14, 15, 16, 17, 18] [pl 1 (.slice A2 l1.length c2), pl 2 (.pointer (some ⟨g4, 0, none⟩)), pl 5 (.bool r2), pl 6 (.pointer (some ⟨g5, 0, none⟩)), pl 7 (.int .i64 r5.2.2.2.1), pl 8 (.int .i64 r5.2.2.2.2), pl 9 (.bool r7.1), pl 10 (.int .i64 r7.2), pl 11 (.int .i64 r9.1), pl 12 (.int .i64 r9.2), pl 13 (.pointer (some ⟨g6, 0, none⟩)), pl 14 (.int .i64 made1), pl 15 (.int .i64 no1), pl 16 (.int .i64 i1), pl 17 (.pointer (some ⟨g7, 0, none⟩)), pl 18 (.bool r13.2.2.2)] hF hS (by kernel_rfl) (by kernel_rfl) ?_ (fun a hF => ?_)
                          · exact obs_nil
                          refine any_finI rfl (fun h => h) ?_
                          refine any_end (by kernel_rfl) ?_
                          refine np_n ?_
                          refine then_n ?_
                          have hS := hS.pickN 7 [2, 3, 4, 5, 6, 0, 1] (by decide)
                          exact ⟨r13.1, r13.2.1, r13.2.2.1, r13.2.2.2, g7, A13, c13, hF.weak [1, 2, 5, 6, 7, 8, 9, 10, 11, 12, 13, 14, 15, 16, 17, 18] (by kernel_rfl), hS, hm⟩
                · refine any_op (listed' := #[true, true, true, true, true, true, true, false, true, false, false, false]) (by kernel_rfl) (by kernel_rfl) ?_
                  refine at_runW 1 [] [] [1, 2, 5, 6, 7, 8, 9, 10, 11, 12, 13, 14, 15, 16, 88, 96] [pl 1 (.slice A2 l1.length c2), pl 2 (.pointer (some ⟨g4, 0, none⟩)), pl 5 (.bool r2), pl 6 (.pointer (some ⟨g5, 0, none⟩)), pl 7 (.int .i64 r5.2.2.2.1), pl 8 (.int .i64 r5.2.2.2.2), pl 9 (.bool r7.1), pl 10 (.int .i64 r7.2), pl 11 (.int .i64 r9.1), pl 12 (.int .i64 r9.2), pl 13 (.pointer (some ⟨g6, 0, none⟩)), pl 14 (.int .i64 made1), pl 15 (.int .i64 no1), pl 16 (.int .i64 i1), pl 88 (.tuple #[.agg #[.int .i64 r13.1, .int .i64 r13.2.1, .slice A13 r13.2.2.1.length c13], .bool r13.2.2.2]), pl 96 (.bool r13.2.2.2)] hF hS (by kernel_rfl) (by kernel_rfl) ?_ (fun a hF => ?_)
                  · exact obs_nil
                  refine any_finI rfl (fun h => h) ?_
                  refine any_step [7, 9] (by kernel_rfl) rfl ?_
                  refine (all_cons ?_ (all_cons ?_ all_nil))
                  · refine any_op (listed' := #[true, true, true, true, true, true, true, true, true, false, false, false]) (by kernel_rfl) (by kernel_rfl) ?_
                    refine at_runW 1 [] [] [1, 2, 5, 6, 7, 8, 9, 10, 11, 12, 13, 14, 15, 16, 95, 96] [pl 1 (.slice A2 l1.length c2), pl 2 (.pointer (some ⟨g4, 0, none⟩)), pl 5 (.bool r2), pl 6 (.pointer (some ⟨g5, 0, none⟩)), pl 7 (.int .i64 r5.2.2.2.1), pl 8 (.int .i64 r5.2.2.2.2), pl 9 (.bool r7.1), pl 10 (.int .i64 r7.2), pl 11 (.int .i64 r9.1), pl 12 (.int .i64 r9.2), pl 13 (.pointer (some ⟨g6, 0, none⟩)), pl 14 (.int .i64 made1), pl 15 (.int .i64 no1), pl 16 (.int .i64 i1), pl 95 (.agg #[.int .i64 r13.1, .int .i64 r13.2.1, .slice A13 r13.2.2.1.length c13]), pl 96 (.bool r13.2.2.2)] hF hS (by kernel_rfl) (by kernel_rfl) ?_ (fun a hF => ?_)
                    · exact obs_nil
                    refine any_finI rfl (fun h => h) ?_
                    refine any_step [9] (by kernel_rfl) rfl ?_
                    refine (all_cons ?_ all_nil)
                    · refine any_op (listed' := #[true, true, true, true, true, true, true, true, true, true, false, false]) (by kernel_rfl) (by kernel_rfl) ?_
                      refine at_do (d := 17) (s := vS (Instr.alloc 41 true (.tuple #[]))) (v := .pointer (some ⟨w.heap.size, 0, none⟩)) (w' := w.alloc (.cells #[.int .i64 0, .int .i64 0, .slice none 0 0] 41)) hF (by kernel_rfl) (by kernel_rfl) (by kernel_rfl) (fun a hF => ?_)
                      have hS : Sep w0 B (w.alloc (.cells #[.int .i64 0, .int .i64 0, .slice none 0 0] 41)) (blk w.heap.size 41 #[.int .i64 0, .int .i64 0, .slice none 0 0] :: (own 3 (.slice A13 r13.2.2.1.length c13) (vI r13.2.2.1) :: blk g4 41 #[.int .i64 g1, .int .i64 g2, .slice A1 g3.length c1] :: blk g5 41 #[.int .i64 r5.1, .int .i64 r5.2.1, .slice A6 r5.2.2.1.length c6] :: own 3 (.slice A6 r5.2.2.1.length c6) (vI r5.2.2.1) :: blk g6 41 #[.int .i64 now1, .int .i64 now2, .slice A10 now3.length c10] :: own 3 (.slice A10 now3.length c10) (vI now3) :: fs)) := hS.box 41 #[.int .i64 0, .int .i64 0, .slice none 0 0]
                      generalize w.heap.size = g7 at hF hS
                      generalize w.alloc (.cells #[.int .i64 0, .int .i64 0, .slice none 0 0] 41) = w at hS ⊢
                      refine any_fin rfl (hS.pickN 7 [2, 3, 4, 5, 6] (by decide)) ?_
                      refine any_step [10] (by kernel_rfl) rfl ?_
                      refine (all_cons ?_ all_nil)
                      · refine any_op (listed' := #[true, true, true, true, true, true, true, true, true, true, true, false]) (by kernel_rfl) (by kernel_rfl) ?_
                        obtain ⟨w, hrun, hS⟩ := run_putA (P := Try.prog) (t := 41) (us := #[.int .i64 r13.1, .int .i64 r13.2.1, .slice A13 r13.2.2.1.length c13]) (o := 0) (hS.at_ 0 rfl) (by kernel_rfl) (all_one (by kernel_rfl)) (Nat.le_of_ble_eq_true (by kernel_rfl))
                        refine at_skip hF (by kernel_rfl) hrun ?_
                        have hS : Sep w0 B w (blk g7 41 #[.int .i64 r13.1, .int .i64 r13.2.1, .slice A13 r13.2.2.1.length c13] :: own 3 (.slice A13 r13.2.2.1.length c13) (vI r13.2.2.1) :: blk g4 41 #[.int .i64 g1, .int .i64 g2, .slice A1 g3.length c1] :: blk g5 41 #[.int .i64 r5.1, .int .i64 r5.2.1, .slice A6 r5.2.2.1.length c6] :: own 3 (.slice A6 r5.2.2.1.length c6) (vI r5.2.2.1) :: blk g6 41 #[.int .i64 now1, .int .i64 now2, .slice A10 now3.length c10] :: own 3 (.slice A10 now3.length c10) (vI now3) :: fs) := hS
                        refine any_fin rfl (hS.pickN 7 [2, 3, 4, 5, 6] (by decide)) ?_
                        refine any_step [11] (by kernel_rfl) rfl ?_
                        refine (all_cons ?_ all_nil)
                        · refine any_op (listed' := #[true, true, true, true, true, true, true, true, true, true, true, true]) (by kernel_rfl) (by kernel_rfl) ?_
                          refine at_runW 1 [] [] [1, 2, 5, 6, 7, 8, 9, 10, 11, 12, 13, 14, 15, 16, 17, 18] [pl 1 (.slice A2 l1.length c2), pl 2 (.pointer (some ⟨g4, 0, none⟩)), pl 5 (.bool r2), pl 6 (.pointer (some ⟨g5, 0, none⟩)), pl 7 (.int .i64 r5.2.2.2.1), pl 8 (.int .i64 r5.2.2.2.2), pl 9 (.bool r7.1), pl 10 (.int .i64 r7.2), pl 11 (.int .i64 r9.1), pl 12 (.int .i64 r9.2), pl 13 (.pointer (some ⟨g6, 0, none⟩)), pl 14 (.int .i64 made1), pl 15 (.int .i64 no1), pl 16 (.int .i64 i1), pl 17 (.pointer (some ⟨g7, 0, none⟩)), pl 18 (.bool r13.2.2.2)] hF hS (by kernel_rfl) (by kernel_rfl) ?_ (fun a hF => ?_)
                          · exact obs_nil
                          refine any_finI rfl (fun h => h) ?_
                          refine any_end (by kernel_rfl) ?_
                          refine np_n ?_
                          refine then_n ?_
                          have hS := hS.pickN 7 [2, 3, 4, 5, 6, 0, 1] (by decide)
                          exact ⟨r13.1, r13.2.1, r13.2.2.1, r13.2.2.2, g7, A13, c13, hF.weak [1, 2, 5, 6, 7, 8, 9, 10, 11, 12, 13, 14, 15, 16, 17, 18] (by kernel_rfl), hS, hm⟩
                  · refine any_op (listed' := #[true, true, true, true, true, true, true, false, true, true, false, false]) (by kernel_rfl) (by kernel_rfl) ?_
                    refine at_do (d := 17) (s := vS (Instr.alloc 41 true (.tuple #[]))) (v := .pointer (some ⟨w.heap.size, 0, none⟩)) (w' := w.alloc (.cells #[.int .i64 0, .int .i64 0, .slice none 0 0] 41)) hF (by kernel_rfl) (by kernel_rfl) (by kernel_rfl) (fun a hF => ?_)
                    have hS : Sep w0 B (w.alloc (.cells #[.int .i64 0, .int .i64 0, .slice none 0 0] 41)) (blk w.heap.size 41 #[.int .i64 0, .int .i64 0, .slice none 0 0] :: (own 3 (.slice A13 r13.2.2.1.length c13) (vI r13.2.2.1) :: blk g4 41 #[.int .i64 g1, .int .i64 g2, .slice A1 g3.length c1] :: blk g5 41 #[.int .i64 r5.1, .int .i64 r5.2.1, .slice A6 r5.2.2.1.length c6] :: own 3 (.slice A6 r5.2.2.1.length c6) (vI r5.2.2.1) :: blk g6 41 #[.int .i64 now1, .int .i64 now2, .slice A10 now3.length c10] :: own 3 (.slice A10 now3.length c10) (vI now3) :: fs)) := hS.box 41 #[.int .i64 0, .int .i64 0, .slice none 0 0]
                    generalize w.heap.size = g7 at hF hS
                    generalize w.alloc (.cells #[.int .i64 0, .int .i64 0, .slice none 0 0] 41) = w at hS ⊢
                    refine any_fin rfl (hS.pickN 7 [2, 3, 4, 5, 6] (by decide)) ?_
                    refine any_step [7] (by kernel_rfl) rfl ?_
                    refine (all_cons ?_ all_nil)
                    · refine any_op (listed' := #[true, true, true, true, true, true, true, true, true, true, false, false]) (by kernel_rfl) (by kernel_rfl) ?_
                      refine at_runW 1 [] [] [1, 2, 5, 6, 7, 8, 9, 10, 11, 12, 13, 14, 15, 16, 17, 95, 96] [pl 1 (.slice A2 l1.length c2), pl 2 (.pointer (some ⟨g4, 0, none⟩)), pl 5 (.bool r2), pl 6 (.pointer (some ⟨g5, 0, none⟩)), pl 7 (.int .i64 r5.2.2.2.1), pl 8 (.int .i64 r5.2.2.2.2), pl 9 (.bool r7.1), pl 10 (.int .i64 r7.2), pl 11 (.int .i64 r9.1), pl 12 (.int .i64 r9.2), pl 13 (.pointer (some ⟨g6, 0, none⟩)), pl 14 (.int .i64 made1), pl 15 (.int .i64 no1), pl 16 (.int .i64 i1), pl 17 (.pointer (some ⟨g7, 0, none⟩)), pl 95 (.agg #[.int .i64 r13.1, .int .i64 r13.2.1, .slice A13 r13.2.2.1.length c13]), pl 96 (.bool r13.2.2.2)] hF hS (by kernel_rfl) (by kernel_rfl) ?_ (fun a hF => ?_)
                      · exact obs_nil
                      refine any_finI rfl (fun h => h) ?_
                      refine any_step [10] (by kernel_rfl) rfl ?_
                      refine (all_cons ?_ all_nil)
                      · refine any_op (listed' := #[true, true, true, true, true, true, true, true, true, true, true, false]) (by kernel_rfl) (by kernel_rfl) ?_
                        obtain ⟨w, hrun, hS⟩ := run_putA (P := Try.prog) (t := 41) (us := #[.int .i64 r13.1, .int .i64 r13.2.1, .slice A13 r13.2.2.1.length c13]) (o := 0) (hS.at_ 0 rfl) (by kernel_rfl) (all_one (by kernel_rfl)) (Nat.le_of_ble_eq_true (by kernel_rfl))
                        refine at_skip hF (by kernel_rfl) hrun ?_
                        have hS : Sep w0 B w (blk g7 41 #[.int .i64 r13.1, .int .i64 r13.2.1, .slice A13 r13.2.2.1.length c13] :: own 3 (.slice A13 r13.2.2.1.length c13) (vI r13.2.2.1) :: blk g4 41 #[.int .i64 g1, .int .i64 g2, .slice A1 g3.length c1] :: blk g5 41 #[.int .i64 r5.1, .int .i64 r5.2.1, .slice A6 r5.2.2.1.length c6] :: own 3 (.slice A6 r5.2.2.1.length c6) (vI r5.2.2.1) :: blk g6 41 #[.int .i64 now1, .int .i64 now2, .slice A10 now3.length c10] :: own 3 (.slice A10 now3.length c10) (vI now3) :: fs) := hS
                        refine any_fin rfl (hS.pickN 7 [2, 3, 4, 5, 6] (by decide)) ?_
                        refine any_step [11] (by kernel_rfl) rfl ?_
                        refine (all_cons ?_ all_nil)
                        · refine any_op (listed' := #[true, true, true, true, true, true, true, true, true, true, true, true]) (by kernel_rfl) (by kernel_rfl) ?_
                          refine at_runW 1 [] [] [1, 2, 5, 6, 7, 8, 9, 10, 11, 12, 13, 14, 15, 16, 17, 18] [pl 1 (.slice A2 l1.length c2), pl 2 (.pointer (some ⟨g4, 0, none⟩)), pl 5 (.bool r2), pl 6 (.pointer (some ⟨g5, 0, none⟩)), pl 7 (.int .i64 r5.2.2.2.1), pl 8 (.int .i64 r5.2.2.2.2), pl 9 (.bool r7.1), pl 10 (.int .i64 r7.2), pl 11 (.int .i64 r9.1), pl 12 (.int .i64 r9.2), pl 13 (.pointer (some ⟨g6, 0, none⟩)), pl 14 (.int .i64 made1), pl 15 (.int .i64 no1), pl 16 (.int .i64 i1), pl 17 (.pointer (some ⟨g7, 0, none⟩)), pl 18 (.bool r13.2.2.2)] hF hS (by kernel_rfl) (by kernel_rfl) ?_ (fun a hF => ?_)
                          · exact obs_nil
                          refine any_finI rfl (fun h => h) ?_
                          refine any_end (by kernel_rfl) ?_
                          refine np_n ?_
                          refine then_n ?_
                          have hS := hS.pickN 7 [2, 3, 4, 5, 6, 0, 1] (by decide)
                          exact ⟨r13.1, r13.2.1, r13.2.2.1, r13.2.2.2, g7, A13, c13, hF.weak [1, 2, 5, 6, 7, 8, 9, 10, 11, 12, 13, 14, 15, 16, 17, 18] (by kernel_rfl), hS, hm⟩
                · refine any_op (listed' := #[true, true, true, true, true, true, true, false, false, true, false, false]) (by kernel_rfl) (by kernel_rfl) ?_
                  refine at_do (d := 17) (s := vS (Instr.alloc 41 true (.tuple #[]))) (v := .pointer (some ⟨w.heap.size, 0, none⟩)) (w' := w.alloc (.cells #[.int .i64 0, .int .i64 0, .slice none 0 0] 41)) hF (by kernel_rfl) (by kernel_rfl) (by kernel_rfl) (fun a hF => ?_)
                  have hS : Sep w0 B (w.alloc (.cells #[.int .i64 0, .int .i64 0, .slice none 0 0] 41)) (blk w.heap.size 41 #[.int .i64 0, .int .i64 0, .slice none 0 0] :: (own 3 (.slice A13 r13.2.2.1.length c13) (vI r13.2.2.1) :: blk g4 41 #[.int .i64 g1, .int .i64 g2, .slice A1 g3.length c1] :: blk g5 41 #[.int .i64 r5.1, .int .i64 r5.2.1, .slice A6 r5.2.2.1.length c6] :: own 3 (.slice A6 r5.2.2.1.length c6) (vI r5.2.2.1) :: blk g6 41 #[.int .i64 now1, .int .i64 now2, .slice A10 now3.length c10] :: own 3 (.slice A10 now3.length c10) (vI now3) :: fs)) := hS.box 41 #[.int .i64 0, .int .i64 0, .slice none 0 0]
                  generalize w.heap.size = g7 at hF hS
                  generalize w.alloc (.cells #[.int .i64 0, .int .i64 0, .slice none 0 0] 41) = w at hS ⊢
                  refine any_fin rfl (hS.pickN 7 [2, 3, 4, 5, 6] (by decide)) ?_
                  refine any_step [7, 8] (by kernel_rfl) rfl ?_
                  refine (all_cons ?_ (all_cons ?_ all_nil))
                  · refine any_op (listed' := #[true, true, true, true, true, true, true, true, false, true, false, false]) (by kernel_rfl) (by kernel_rfl) ?_
                    refine at_runW 1 [] [] [1, 2, 5, 6, 7, 8, 9, 10, 11, 12, 13, 14, 15, 16, 17, 88, 95] [pl 1 (.slice A2 l1.length c2), pl 2 (.pointer (some ⟨g4, 0, none⟩)), pl 5 (.bool r2), pl 6 (.pointer (some ⟨g5, 0, none⟩)), pl 7 (.int .i64 r5.2.2.2.1), pl 8 (.int .i64 r5.2.2.2.2), pl 9 (.bool r7.1), pl 10 (.int .i64 r7.2), pl 11 (.int .i64 r9.1), pl 12 (.int .i64 r9.2), pl 13 (.pointer (some ⟨g6, 0, none⟩)), pl 14 (.int .i64 made1), pl 15 (.int .i64 no1), pl 16 (.int .i64 i1), pl 17 (.pointer (some ⟨g7, 0, none⟩)), pl 88 (.tuple #[.agg #[.int .i64 r13.1, .int .i64 r13.2.1, .slice A13 r13.2.2.1.length c13], .bool r13.2.2.2]), pl 95 (.agg #[.int .i64 r13.1, .int .i64 r13.2.1, .slice A13 r13.2.2.1.length c13])] hF hS (by kernel_rfl) (by kernel_rfl) ?_ (fun a hF => ?_)
                    · exact obs_nil
                    refine any_finI rfl (fun h => h) ?_
                    refine any_step [8, 10] (by kernel_rfl) rfl ?_
                    refine (all_cons ?_ (all_cons ?_ all_nil))
                    · refine any_op (listed' := #[true, true, true, true, true, true, true, true, true, true, false, false]) (by kernel_rfl) (by kernel_rfl) ?_
                      refine at_runW 1 [] [] [1, 2, 5, 6, 7, 8, 9, 10, 11, 12, 13, 14, 15, 16, 17, 95, 96] [pl 1 (.slice A2 l1.length c2), pl 2 (.pointer (some ⟨g4, 0, none⟩)), pl 5 (.bool r2), pl 6 (.pointer (some ⟨g5, 0, none⟩)), pl 7 (.int .i64 r5.2.2.2.1), pl 8 (.int .i64 r5.2.2.2.2), pl 9 (.bool r7.1), pl 10 (.int .i64 r7.2), pl 11 (.int .i64 r9.1), pl 12 (.int .i64 r9.2), pl 13 (.pointer (some ⟨g6, 0, none⟩)), pl 14 (.int .i64 made1), pl 15 (.int .i64 no1), pl 16 (.int .i64 i1), pl 17 (.pointer (some ⟨g7, 0, none⟩)), pl 95 (.agg #[.int .i64 r13.1, .int .i64 r13.2.1, .slice A13 r13.2.2.1.length c13]), pl 96 (.bool r13.2.2.2)] hF hS (by kernel_rfl) (by kernel_rfl) ?_ (fun a hF => ?_)
                      · exact obs_nil
                      refine any_finI rfl (fun h => h) ?_
                      refine any_step [10] (by kernel_rfl) rfl ?_
                      refine (all_cons ?_ all_nil)
                      · refine any_op (listed' := #[true, true, true, true, true, true, true, true, true, true, true, false]) (by kernel_rfl) (by kernel_rfl) ?_
                        obtain ⟨w, hrun, hS⟩ := run_putA (P := Try.prog) (t := 41) (us := #[.int .i64 r13.1, .int .i64 r13.2.1, .slice A13 r13.2.2.1.length c13]) (o := 0) (hS.at_ 0 rfl) (by kernel_rfl) (all_one (by kernel_rfl)) (Nat.le_of_ble_eq_true (by kernel_rfl))
                        refine at_skip hF (by kernel_rfl) hrun ?_
                        have hS : Sep w0 B w (blk g7 41 #[.int .i64 r13.1, .int .i64 r13.2.1, .slice A13 r13.2.2.1.length c13] :: own 3 (.slice A13 r13.2.2.1.length c13) (vI r13.2.2.1) :: blk g4 41 #[.int .i64 g1, .int .i64 g2, .slice A1 g3.length c1] :: blk g5 41 #[.int .i64 r5.1, .int .i64 r5.2.1, .slice A6 r5.2.2.1.length c6] :: own 3 (.slice A6 r5.2.2.1.length c6) (vI r5.2.2.1) :: blk g6 41 #[.int .i64 now1, .int .i64 now2, .slice A10 now3.length c10] :: own 3 (.slice A10 now3.length c10) (vI now3) :: fs) := hS
                        refine any_fin rfl (hS.pickN 7 [2, 3, 4, 5, 6] (by decide)) ?_
                        refine any_step [11] (by kernel_rfl) rfl ?_
                        refine (all_cons ?_ all_nil)
                        · refine any_op (listed' := #[true, true, true, true, true, true, true, true, true, true, true, true]) (by kernel_rfl) (by kernel_rfl) ?_
                          refine at_runW 1 [] [] [1, 2, 5, 6, 7, 8, 9, 10, 11, 12, 13, 14, 15, 16, 17, 18] [pl 1 (.slice A2 l1.length c2), pl 2 (.pointer (some ⟨g4, 0, none⟩)), pl 5 (.bool r2), pl 6 (.pointer (some ⟨g5, 0, none⟩)), pl 7 (.int .i64 r5.2.2.2.1), pl 8 (.int .i64 r5.2.2.2.2), pl 9 (.bool r7.1), pl 10 (.int .i64 r7.2), pl 11 (.int .i64 r9.1), pl 12 (.int .i64 r9.2), pl 13 (.pointer (some ⟨g6, 0, none⟩)), pl 14 (.int .i64 made1), pl 15 (.int .i64 no1), pl 16 (.int .i64 i1), pl 17 (.pointer (some ⟨g7, 0, none⟩)), pl 18 (.bool r13.2.2.2)] hF hS (by kernel_rfl) (by kernel_rfl) ?_ (fun a hF => ?_)
                          · exact obs_nil
                          refine any_finI rfl (fun h => h) ?_
                          refine any_end (by kernel_rfl) ?_
                          refine np_n ?_
                          refine then_n ?_
                          have hS := hS.pickN 7 [2, 3, 4, 5, 6, 0, 1] (by decide)
                          exact ⟨r13.1, r13.2.1, r13.2.2.1, r13.2.2.2, g7, A13, c13, hF.weak [1, 2, 5, 6, 7, 8, 9, 10, 11, 12, 13, 14, 15, 16, 17, 18] (by kernel_rfl), hS, hm⟩
                    · refine any_op (listed' := #[true, true, true, true, true, true, true, true, false, true, true, false]) (by kernel_rfl) (by kernel_rfl) ?_
                      obtain ⟨w, hrun, hS⟩ := run_putA (P := Try.prog) (t := 41) (us := #[.int .i64 r13.1, .int .i64 r13.2.1, .slice A13 r13.2.2.1.length c13]) (o := 0) (hS.at_ 0 rfl) (by kernel_rfl) (all_one (by kernel_rfl)) (Nat.le_of_ble_eq_true (by kernel_rfl))
                      refine at_skip hF (by kernel_rfl) hrun ?_
                      have hS : Sep w0 B w (blk g7 41 #[.int .i64 r13.1, .int .i64 r13.2.1, .slice A13 r13.2.2.1.length c13] :: own 3 (.slice A13 r13.2.2.1.length c13) (vI r13.2.2.1) :: blk g4 41 #[.int .i64 g1, .int .i64 g2, .slice A1 g3.length c1] :: blk g5 41 #[.int .i64 r5.1, .int .i64 r5.2.1, .slice A6 r5.2.2.1.length c6] :: own 3 (.slice A6 r5.2.2.1.length c6) (vI r5.2.2.1) :: blk g6 41 #[.int .i64 now1, .int .i64 now2, .slice A10 now3.length c10] :: own 3 (.slice A10 now3.length c10) (vI now3) :: fs) := hS
                      refine any_fin rfl (hS.pickN 7 [2, 3, 4, 5, 6] (by decide)) ?_
                      refine any_step [8] (by kernel_rfl) rfl ?_
                      refine (all_cons ?_ all_nil)
                      · refine any_op (listed' := #[true, true, true, true, true, true, true, true, true, true, true, false]) (by kernel_rfl) (by kernel_rfl) ?_
                        refine at_runW 1 [] [] [1, 2, 5, 6, 7, 8, 9, 10, 11, 12, 13, 14, 15, 16, 17, 96] [pl 1 (.slice A2 l1.length c2), pl 2 (.pointer (some ⟨g4, 0, none⟩)), pl 5 (.bool r2), pl 6 (.pointer (some ⟨g5, 0, none⟩)), pl 7 (.int .i64 r5.2.2.2.1), pl 8 (.int .i64 r5.2.2.2.2), pl 9 (.bool r7.1), pl 10 (.int .i64 r7.2), pl 11 (.int .i64 r9.1), pl 12 (.int .i64 r9.2), pl 13 (.pointer (some ⟨g6, 0, none⟩)), pl 14 (.int .i64 made1), pl 15 (.int .i64 no1), pl 16 (.int .i64 i1), pl 17 (.pointer (some ⟨g7, 0, none⟩)), pl 96 (.bool r13.2.2.2)] hF hS (by kernel_rfl) (by kernel_rfl) ?_ (fun a hF => ?_)
                        · exact obs_nil
                        refine any_finI rfl (fun h => h) ?_
                        refine any_step [11] (by kernel_rfl) rfl ?_
                        refine (all_cons ?_ all_nil)
                        · refine any_op (listed' := #[true, true, true, true, true, true, true, true, true, true, true, true]) (by kernel_rfl) (by kernel_rfl) ?_
                          refine at_runW 1 [] [] [1, 2, 5, 6, 7, 8, 9, 10, 11, 12, 13, 14, 15, 16, 17, 18] [pl 1 (.slice A2 l1.length c2), pl 2 (.pointer (some ⟨g4, 0, none⟩)), pl 5 (.bool r2), pl 6 (.pointer (some ⟨g5, 0, none⟩)), pl 7 (.int .i64 r5.2.2.2.1), pl 8 (.int .i64 r5.2.2.2.2), pl 9 (.bool r7.1), pl 10 (.int .i64 r7.2), pl 11 (.int .i64 r9.1), pl 12 (.int .i64 r9.2), pl 13 (.pointer (some ⟨g6, 0, none⟩)), pl 14 (.int .i64 made1), pl 15 (.int .i64 no1), pl 16 (.int .i64 i1), pl 17 (.pointer (some ⟨g7, 0, none⟩)), pl 18 (.bool r13.2.2.2)] hF hS (by kernel_rfl) (by kernel_rfl) ?_ (fun a hF => ?_)
                          · exact obs_nil
                          refine any_finI rfl (fun h => h) ?_
                          refine any_end (by kernel_rfl) ?_
                          refine np_n ?_
                          refine then_n ?_
                          have hS := hS.pickN 7 [2, 3, 4, 5, 6, 0, 1] (by decide)
                          exact ⟨r13.1, r13.2.1, r13.2.2.1, r13.2.2.2, g7, A13, c13, hF.weak [1, 2, 5, 6, 7, 8, 9, 10, 11, 12, 13, 14, 15, 16, 17, 18] (by kernel_rfl), hS, hm⟩
                  · refine any_op (listed' := #[true, true, true, true, true, true, true, false, true, true, false, false]) (by kernel_rfl) (by kernel_rfl) ?_
                    refine at_runW 1 [] [] [1, 2, 5, 6, 7, 8, 9, 10, 11, 12, 13, 14, 15, 16, 17, 88, 96] [pl 1 (.slice A2 l1.length c2), pl 2 (.pointer (some ⟨g4, 0, none⟩)), pl 5 (.bool r2), pl 6 (.pointer (some ⟨g5, 0, none⟩)), pl 7 (.int .i64 r5.2.2.2.1), pl 8 (.int .i64 r5.2.2.2.2), pl 9 (.bool r7.1), pl 10 (.int .i64 r7.2), pl 11 (.int .i64 r9.1), pl 12 (.int .i64 r9.2), pl 13 (.pointer (some ⟨g6, 0, none⟩)), pl 14 (.int .i64 made1), pl 15 (.int .i64 no1), pl 16 (.int .i64 i1), pl 17 (.pointer (some ⟨g7, 0, none⟩)), pl 88 (.tuple #[.agg #[.int .i64 r13.1, .int .i64 r13.2.1, .slice A13 r13.2.2.1.length c13], .bool r13.2.2.2]), pl 96 (.bool r13.2.2.2)] hF hS (by kernel_rfl) (by kernel_rfl) ?_ (fun a hF => ?_)
                    · exact obs_nil
                    refine any_finI rfl (fun h => h) ?_
                    refine any_step [7] (by kernel_rfl) rfl ?_
                    refine (all_cons ?_ all_nil)
                    · refine any_op (listed' := #[true, true, true, true, true, true, true, true, true, true, false, false]) (by kernel_rfl) (by kernel_rfl) ?_
                      refine at_runW 1 [] [] [1, 2, 5, 6, 7, 8, 9, 10, 11, 12, 13, 14, 15, 16, 17, 95, 96] [pl 1 (.slice A2 l1.length c2), pl 2 (.pointer (some ⟨g4, 0, none⟩)), pl 5 (.bool r2), pl 6 (.pointer (some ⟨g5, 0, none⟩)), pl 7 (.int .i64 r5.2.2.2.1), pl 8 (.int .i64 r5.2.2.2.2), pl 9 (.bool r7.1), pl 10 (.int .i64 r7.2), pl 11 (.int .i64 r9.1), pl 12 (.int .i64 r9.2), pl 13 (.pointer (some ⟨g6, 0, none⟩)), pl 14 (.int .i64 made1), pl 15 (.int .i64 no1), pl 16 (.int .i64 i1), pl 17 (.pointer (some ⟨g7, 0, none⟩)), pl 95 (.agg #[.int .i64 r13.1, .int .i64 r13.2.1, .slice A13 r13.2.2.1.length c13]), pl 96 (.bool r13.2.2.2)] hF hS (by kernel_rfl) (by kernel_rfl) ?_ (fun a hF => ?_)
                      · exact obs_nil
                      refine any_finI rfl (fun h => h) ?_
                      refine any_step [10] (by kernel_rfl) rfl ?_
                      refine (all_cons ?_ all_nil)
                      · refine any_op (listed' := #[true, true, true, true, true, true, true, true, true, true, true, false]) (by kernel_rfl) (by kernel_rfl) ?_
                        obtain ⟨w, hrun, hS⟩ := run_putA (P := Try.prog) (t := 41) (us := #[.int .i64 r13.1, .int .i64 r13.2.1, .slice A13 r13.2.2.1.length c13]) (o := 0) (hS.at_ 0 rfl) (by kernel_rfl) (all_one (by kernel_rfl)) (Nat.le_of_ble_eq_true (by kernel_rfl))
                        refine at_skip hF (by kernel_rfl) hrun ?_
                        have hS : Sep w0 B w (blk g7 41 #[.int .i64 r13.1, .int .i64 r13.2.1, .slice A13 r13.2.2.1.length c13] :: own 3 (.slice A13 r13.2.2.1.length c13) (vI r13.2.2.1) :: blk g4 41 #[.int .i64 g1, .int .i64 g2, .slice A1 g3.length c1] :: blk g5 41 #[.int .i64 r5.1, .int .i64 r5.2.1, .slice A6 r5.2.2.1.length c6] :: own 3 (.slice A6 r5.2.2.1.length c6) (vI r5.2.2.1) :: blk g6 41 #[.int .i64 now1, .int .i64 now2, .slice A10 now3.length c10] :: own 3 (.slice A10 now3.length c10) (vI now3) :: fs) := hS
                        refine any_fin rfl (hS.pickN 7 [2, 3, 4, 5, 6] (by decide)) ?_
                        refine any_step [11] (by kernel_rfl) rfl ?_
                        refine (all_cons ?_ all_nil)
                        · refine any_op (listed' := #[true, true, true, true, true, true, true, true, true, true, true, true]) (by kernel_rfl) (by kernel_rfl) ?_
                          refine at_runW 1 [] [] [1, 2, 5, 6, 7, 8, 9, 10, 11, 12, 13, 14, 15, 16, 17, 18] [pl 1 (.slice A2 l1.length c2), pl 2 (.pointer (some ⟨g4, 0, none⟩)), pl 5 (.bool r2), pl 6 (.pointer (some ⟨g5, 0, none⟩)), pl 7 (.int .i64 r5.2.2.2.1), pl 8 (.int .i64 r5.2.2.2.2), pl 9 (.bool r7.1), pl 10 (.int .i64 r7.2), pl 11 (.int .i64 r9.1), pl 12 (.int .i64 r9.2), pl 13 (.pointer (some ⟨g6, 0, none⟩)), pl 14 (.int .i64 made1), pl 15 (.int .i64 no1), pl 16 (.int .i64 i1), pl 17 (.pointer (some ⟨g7, 0, none⟩)), pl 18 (.bool r13.2.2.2)] hF hS (by kernel_rfl) (by kernel_rfl) ?_ (fun a hF => ?_)
                          · exact obs_nil
                          refine any_finI rfl (fun h => h) ?_
                          refine any_end (by kernel_rfl) ?_
                          refine np_n ?_
                          refine then_n ?_
                          have hS := hS.pickN 7 [2, 3, 4, 5, 6, 0, 1] (by decide)
                          exact ⟨r13.1, r13.2.1, r13.2.2.1, r13.2.2.2, g7, A13, c13, hF.weak [1, 2, 5, 6, 7, 8, 9, 10, 11, 12, 13, 14, 15, 16, 17, 18] (by kernel_rfl), hS, hm⟩
              · refine any_op (listed' := #[true, true, true, true, true, true, false, false, false, true, false, false]) (by kernel_rfl) (by kernel_rfl) ?_
                refine at_do (d := 17) (s := vS (Instr.alloc 41 true (.tuple #[]))) (v := .pointer (some ⟨w.heap.size, 0, none⟩)) (w' := w.alloc (.cells #[.int .i64 0, .int .i64 0, .slice none 0 0] 41)) hF (by kernel_rfl) (by kernel_rfl) (by kernel_rfl) (fun a hF => ?_)
                have hS : Sep w0 B (w.alloc (.cells #[.int .i64 0, .int .i64 0, .slice none 0 0] 41)) (blk w.heap.size 41 #[.int .i64 0, .int .i64 0, .slice none 0 0] :: (own 3 (.slice A13 r13.2.2.1.length c13) (vI r13.2.2.1) :: blk g4 41 #[.int .i64 g1, .int .i64 g2, .slice A1 g3.length c1] :: blk g5 41 #[.int .i64 r5.1, .int .i64 r5.2.1, .slice A6 r5.2.2.1.length c6] :: own 3 (.slice A6 r5.2.2.1.length c6) (vI r5.2.2.1) :: blk g6 41 #[.int .i64 now1, .int .i64 now2, .slice A10 now3.length c10] :: own 3 (.slice A10 now3.length c10) (vI now3) :: fs)) := hS.box 41 #[.int .i64 0, .int .i64 0, .slice none 0 0]
                generalize w.heap.size = g7 at hF hS
                generalize w.alloc (.cells #[.int .i64 0, .int .i64 0, .slice none 0 0] 41) = w at hS ⊢
                refine any_fin rfl (hS.pickN 7 [2, 3, 4, 5, 6] (by decide)) ?_
                refine any_step [6] (by kernel_rfl) rfl ?_
                refine (all_cons ?_ all_nil)
                · refine any_op (listed' := #[true, true, true, true, true, true, true, false, false, true, false, false]) (by kernel_rfl) (by kernel_rfl) ?_
                  refine at_runW 1 [] [] [1, 2, 5, 6, 7, 8, 9, 10, 11, 12, 13, 14, 15, 16, 17, 88] [pl 1 (.slice A2 l1.length c2), pl 2 (.pointer (some ⟨g4, 0, none⟩)), pl 5 (.bool r2), pl 6 (.pointer (some ⟨g5, 0, none⟩)), pl 7 (.int .i64 r5.2.2.2.1), pl 8 (.int .i64 r5.2.2.2.2), pl 9 (.bool r7.1), pl 10 (.int .i64 r7.2), pl 11 (.int .i64 r9.1), pl 12 (.int .i64 r9.2), pl 13 (.pointer (some ⟨g6, 0, none⟩)), pl 14 (.int .i64 made1), pl 15 (.int .i64 no1), pl 16 (.int .i64 i1), pl 17 (.pointer (some ⟨g7, 0, none⟩)), pl 88 (.tuple #[.agg #[.int .i64 r13.1, .int .i64 r13.2.1, .slice A13 r13.2.2.1.length c13], .bool r13.2.2.2])] hF hS (by kernel_rfl) (by kernel_rfl) ?_ (fun a hF => ?_)
                  · exact obs_nil
                  refine any_finI rfl (fun h => h) ?_
                  refine any_step [7, 8] (by kernel_rfl) rfl ?_
                  refine (all_cons ?_ (all_cons ?_ all_nil))
                  · refine any_op (listed' := #[true, true, true, true, true, true, true, true, false, true, false, false]) (by kernel_rfl) (by kernel_rfl) ?_
                    refine at_runW 1 [] [] [1, 2, 5, 6, 7, 8, 9, 10, 11, 12, 13, 14, 15, 16, 17, 88, 95] [pl 1 (.slice A2 l1.length c2), pl 2 (.pointer (some ⟨g4, 0, none⟩)), pl 5 (.bool r2), pl 6 (.pointer (some ⟨g5, 0, none⟩)), pl 7 (.int .i64 r5.2.2.2.1), pl 8 (.int .i64 r5.2.2.2.2), pl 9 (.bool r7.1), pl 10 (.int .i64 r7.2), pl 11 (.int .i64 r9.1), pl 12 (.int .i64 r9.2), pl 13 (.pointer (some ⟨g6, 0, none⟩)), pl 14 (.int .i64 made1), pl 15 (.int .i64 no1), pl 16 (.int .i64 i1), pl 17 (.pointer (some ⟨g7, 0, none⟩)), pl 88 (.tuple #[.agg #[.int .i64 r13.1, .int .i64 r13.2.1, .slice A13 r13.2.2.1.length c13], .bool r13.2.2.2]), pl 95 (.agg #[.int .i64 r13.1, .int .i64 r13.2.1, .slice A13 r13.2.2.1.length c13])] hF hS (by kernel_rfl) (by kernel_rfl) ?_ (fun a hF => ?_)
                    · exact obs_nil
                    refine any_finI rfl (fun h => h) ?_
                    refine any_step [8, 10] (by kernel_rfl) rfl ?_
                    refine (all_cons ?_ (all_cons ?_ all_nil))
                    · refine any_op (listed' := #[true, true, true, true, true, true, true, true, true, true, false, false]) (by kernel_rfl) (by kernel_rfl) ?_
                      refine at_runW 1 [] [] [1, 2, 5, 6, 7, 8, 9, 10, 11, 12, 13, 14, 15, 16, 17, 95, 96] [pl 1 (.slice A2 l1.length c2), pl 2 (.pointer (some ⟨g4, 0, none⟩)), pl 5 (.bool r2), pl 6 (.pointer (some ⟨g5, 0, none⟩)), pl 7 (.int .i64 r5.2.2.2.1), pl 8 (.int .i64 r5.2.2.2.2), pl 9 (.bool r7.1), pl 10 (.int .i64 r7.2), pl 11 (.int .i64 r9.1), pl 12 (.int .i64 r9.2), pl 13 (.pointer (some ⟨g6, 0, none⟩)), pl 14 (.int .i64 made1), pl 15 (.int .i64 no1), pl 16 (.int .i64 i1), pl 17 (.pointer (some ⟨g7, 0, none⟩)), pl 95 (.agg #[.int .i64 r13.1, .int .i64 r13.2.1, .slice A13 r13.2.2.1.length c13]), pl 96 (.bool r13.2.2.2)] hF hS (by kernel_rfl) (by kernel_rfl) ?_ (fun a hF => ?_)
                      · exact obs_nil
                      refine any_finI rfl (fun h => h) ?_
                      refine any_step [10] (by kernel_rfl) rfl ?_
                      refine (all_cons ?_ all_nil)
                      · refine any_op (listed' := #[true, true, true, true, true, true, true, true, true, true, true, false]) (by kernel_rfl) (by kernel_rfl) ?_
                        obtain ⟨w, hrun, hS⟩ := run_putA (P := Try.prog) (t := 41) (us := #[.int .i64 r13.1, .int .i64 r13.2.1, .slice A13 r13.2.2.1.length c13]) (o := 0) (hS.at_ 0 rfl) (by kernel_rfl) (all_one (by kernel_rfl)) (Nat.le_of_ble_eq_true (by kernel_rfl))
                        refine at_skip hF (by kernel_rfl) hrun ?_
                        have hS : Sep w0 B w (blk g7 41 #[.int .i64 r13.1, .int .i64 r13.2.1, .slice A13 r13.2.2.1.length c13] :: own 3 (.slice A13 r13.2.2.1.length c13) (vI r13.2.2.1) :: blk g4 41 #[.int .i64 g1, .int .i64 g2, .slice A1 g3.length c1] :: blk g5 41 #[.int .i64 r5.1, .int .i64 r5.2.1, .slice A6 r5.2.2.1.length c6] :: own 3 (.slice A6 r5.2.2.1.length c6) (vI r5.2.2.1) :: blk g6 41 #[.int .i64 now1, .int .i64 now2, .slice A10 now3.length c10] :: own 3 (.slice A10 now3.length c10) (vI now3) :: fs) := hS
                        refine any_fin rfl (hS.pickN 7 [2, 3, 4, 5, 6] (by decide)) ?_
                        refine any_step [11] (by kernel_rfl) rfl ?_
                        refine (all_cons ?_ all_nil)
                        · refine any_op (listed' := #[true, true, true, true, true, true, true, true, true, true, true, true]) (by kernel_rfl) (by kernel_rfl) ?_
                          refine at_runW 1 [] [] [1, 2, 5, 6, 7, 8, 9, 10, 11, 12, 13, 14, 15, 16, 17, 18] [pl 1 (.slice A2 l1.length c2), pl 2 (.pointer (some ⟨g4, 0, none⟩)), pl 5 (.bool r2), pl 6 (.pointer (some ⟨g5, 0, none⟩)), pl 7 (.int .i64 r5.2.2.2.1), pl 8 (.int .i64 r5.2.2.2.2), pl 9 (.bool r7.1), pl 10 (.int .i64 r7.2), pl 11 (.int .i64 r9.1), pl 12 (.int .i64 r9.2), pl 13 (.pointer (some ⟨g6, 0, none⟩)), pl 14 (.int .i64 made1), pl 15 (.int .i64 no1), pl 16 (.int .i64 i1), pl 17 (.pointer (some ⟨g7, 0, none⟩)), pl 18 (.bool r13.2.2.2)] hF hS (by kernel_rfl) (by kernel_rfl) ?_ (fun a hF => ?_)
                          · exact obs_nil
                          refine any_finI rfl (fun h => h) ?_
                          refine any_end (by kernel_rfl) ?_
                          refine np_n ?_
                          refine then_n ?_
                          have hS := hS.pickN 7 [2, 3, 4, 5, 6, 0, 1] (by decide)
                          exact ⟨r13.1, r13.2.1, r13.2.2.1, r13.2.2.2, g7, A13, c13, hF.weak [1, 2, 5, 6, 7, 8, 9, 10, 11, 12, 13, 14, 15, 16, 17, 18] (by kernel_rfl), hS, hm⟩
                    · refine any_op (listed' := #[true, true, true, true, true, true, true, true, false, true, true, false]) (by kernel_rfl) (by kernel_rfl) ?_
                      obtain ⟨w, hrun, hS⟩ := run_putA (P := Try.prog) (t := 41) (us := #[.int .i64 r13.1, .int .i64 r13.2.1, .slice A13 r13.2.2.1.length c13]) (o := 0) (hS.at_ 0 rfl) (by kernel_rfl) (all_one (by kernel_rfl)) (Nat.le_of_ble_eq_true (by kernel_rfl))
                      refine at_skip hF (by kernel_rfl) hrun ?_
                      have hS : Sep w0 B w (blk g7 41 #[.int .i64 r13.1, .int .i64 r13.2.1, .slice A13 r13.2.2.1.length c13] :: own 3 (.slice A13 r13.2.2.1.length c13) (vI r13.2.2.1) :: blk g4 41 #[.int .i64 g1, .int .i64 g2, .slice A1 g3.length c1] :: blk g5 41 #[.int .i64 r5.1, .int .i64 r5.2.1, .slice A6 r5.2.2.1.length c6] :: own 3 (.slice A6 r5.2.2.1.length c6) (vI r5.2.2.1) :: blk g6 41 #[.int .i64 now1, .int .i64 now2, .slice A10 now3.length c10] :: own 3 (.slice A10 now3.length c10) (vI now3) :: fs) := hS
                      refine any_fin rfl (hS.pickN 7 [2, 3, 4, 5, 6] (by decide)) ?_
                      refine any_step [8] (by kernel_rfl) rfl ?_
                      refine (all_cons ?_ all_nil)
                      · refine any_op (listed' := #[true, true, true, true, true, true, true, true, true, true, true, false]) (by kernel_rfl) (by kernel_rfl) ?_
                        refine at_runW 1 [] [] [1, 2, 5, 6, 7, 8, 9, 10, 11, 12, 13, 14, 15, 16, 17, 96] [pl 1 (.slice A2 l1.length c2), pl 2 (.pointer (some ⟨g4, 0, none⟩)), pl 5 (.bool r2), pl 6 (.pointer (some ⟨g5, 0, none⟩)), pl 7 (.int .i64 r5.2.2.2.1), pl 8 (.int .i64 r5.2.2.2.2), pl 9 (.bool r7.1), pl 10 (.int .i64 r7.2), pl 11 (.int .i64 r9.1), pl 12 (.int .i64 r9.2), pl 13 (.pointer (some ⟨g6, 0, none⟩)), pl 14 (.int .i64 made1), pl 15 (.int .i64 no1), pl 16 (.int .i64 i1), pl 17 (.pointer (some ⟨g7, 0, none⟩)), pl 96 (.bool r13.2.2.2)] hF hS (by kernel_rfl) (by kernel_rfl) ?_ (fun a hF => ?_)
                        · exact obs_nil
                        refine any_finI rfl (fun h => h) ?_
                        refine any_step [11] (by kernel_rfl) rfl ?_
                        refine (all_cons ?_ all_nil)
                        · refine any_op (listed' := #[true, true, true, true, true, true, true, true, true, true, true, true]) (by kernel_rfl) (by kernel_rfl) ?_
                          refine at_runW 1 [] [] [1, 2, 5, 6, 7, 8, 9, 10, 11, 12, 13, 14, 15, 16, 17, 18] [pl 1 (.slice A2 l1.length c2), pl 2 (.pointer (some ⟨g4, 0, none⟩)), pl 5 (.bool r2), pl 6 (.pointer (some ⟨g5, 0, none⟩)), pl 7 (.int .i64 r5.2.2.2.1), pl 8 (.int .i64 r5.2.2.2.2), pl 9 (.bool r7.1), pl 10 (.int .i64 r7.2), pl 11 (.int .i64 r9.1), pl 12 (.int .i64 r9.2), pl 13 (.pointer (some ⟨g6, 0, none⟩)), pl 14 (.int .i64 made1), pl 15 (.int .i64 no1), pl 16 (.int .i64 i1), pl 17 (.pointer (some ⟨g7, 0, none⟩)), pl 18 (.bool r13.2.2.2)] hF hS (by kernel_rfl) (by kernel_rfl) ?_ (fun a hF => ?_)
                          · exact obs_nil
                          refine any_finI rfl (fun h => h) ?_
                          refine any_end (by kernel_rfl) ?_
                          refine np_n ?_
                          refine then_n ?_
                          have hS := hS.pickN 7 [2, 3, 4, 5, 6, 0, 1] (by decide)
                          exact ⟨r13.1, r13.2.1, r13.2.2.1, r13.2.2.2, g7, A13, c13, hF.weak [1, 2, 5, 6, 7, 8, 9, 10, 11, 12, 13, 14, 15, 16, 17, 18] (by kernel_rfl), hS, hm⟩
                  · refine any_op (listed' := #[true, true, true, true, true, true, true, false, true, true, false, false]) (by kernel_rfl) (by kernel_rfl) ?_
                    refine at_runW 1 [] [] [1, 2, 5, 6, 7, 8, 9, 10, 11, 12, 13, 14, 15, 16, 17, 88, 96] [pl 1 (.slice A2 l1.length c2), pl 2 (.pointer (some ⟨g4, 0, none⟩)), pl 5 (.bool r2), pl 6 (.pointer (some ⟨g5, 0, none⟩)), pl 7 (.int .i64 r5.2.2.2.1), pl 8 (.int .i64 r5.2.2.2.2), pl 9 (.bool r7.1), pl 10 (.int .i64 r7.2), pl 11 (.int .i64 r9.1), pl 12 (.int .i64 r9.2), pl 13 (.pointer (some ⟨g6, 0, none⟩)), pl 14 (.int .i64 made1), pl 15 (.int .i64 no1), pl 16 (.int .i64 i1), pl 17 (.pointer (some ⟨g7, 0, none⟩)), pl 88 (.tuple #[.agg #[.int .i64 r13.1, .int .i64 r13.2.1, .slice A13 r13.2.2.1.length c13], .bool r13.2.2.2]), pl 96 (.bool r13.2.2.2)] hF hS (by kernel_rfl) (by kernel_rfl) ?_ (fun a hF => ?_)
                    · exact obs_nil
                    refine any_finI rfl (fun h => h) ?_
                    refine any_step [7] (by kernel_rfl) rfl ?_
                    refine (all_cons ?_ all_nil)
                    · refine any_op (listed' := #[true, true, true, true, true, true, true, true, true, true, false, false]) (by kernel_rfl) (by kernel_rfl) ?_
                      refine at_runW 1 [] [] [1, 2, 5, 6, 7, 8, 9, 10, 11, 12, 13, 14, 15, 16, 17, 95, 96] [pl 1 (.slice A2 l1.length c2), pl 2 (.pointer (some ⟨g4, 0, none⟩)), pl 5 (.bool r2), pl 6 (.pointer (some ⟨g5, 0, none⟩)), pl 7 (.int .i64 r5.2.2.2.1), pl 8 (.int .i64 r5.2.2.2.2), pl 9 (.bool r7.1), pl 10 (.int .i64 r7.2), pl 11 (.int .i64 r9.1), pl 12 (.int .i64 r9.2), pl 13 (.pointer (some ⟨g6, 0, none⟩)), pl 14 (.int .i64 made1), pl 15 (.int .i64 no1), pl 16 (.int .i64 i1), pl 17 (.pointer (some ⟨g7, 0, none⟩)), pl 95 (.agg #[.int .i64 r13.1, .int .i64 r13.2.1, .slice A13 r13.2.2.1.length c13]), pl 96 (.bool r13.2.2.2)] hF hS (by kernel_rfl) (by kernel_rfl) ?_ (fun a hF => ?_)
                      · exact obs_nil
                      refine any_finI rfl (fun h => h) ?_
                      refine any_step [10] (by kernel_rfl) rfl ?_
                      refine (all_cons ?_ all_nil)
                      · refine any_op (listed' := #[true, true, true, true, true, true, true, true, true, true, true, false]) (by kernel_rfl) (by kernel_rfl) ?_
                        obtain ⟨w, hrun, hS⟩ := run_putA (P := Try.prog) (t := 41) (us := #[.int .i64 r13.1, .int .i64 r13.2.1, .slice A13 r13.2.2.1.length c13]) (o := 0) (hS.at_ 0 rfl) (by kernel_rfl) (all_one (by kernel_rfl)) (Nat.le_of_ble_eq_true (by kernel_rfl))
                        refine at_skip hF (by kernel_rfl) hrun ?_
                        have hS : Sep w0 B w (blk g7 41 #[.int .i64 r13.1, .int .i64 r13.2.1, .slice A13 r13.2.2.1.length c13] :: own 3 (.slice A13 r13.2.2.1.length c13) (vI r13.2.2.1) :: blk g4 41 #[.int .i64 g1, .int .i64 g2, .slice A1 g3.length c1] :: blk g5 41 #[.int .i64 r5.1, .int .i64 r5.2.1, .slice A6 r5.2.2.1.length c6] :: own 3 (.slice A6 r5.2.2.1.length c6) (vI r5.2.2.1) :: blk g6 41 #[.int .i64 now1, .int .i64 now2, .slice A10 now3.length c10] :: own 3 (.slice A10 now3.length c10) (vI now3) :: fs) := hS
                        refine any_fin rfl (hS.pickN 7 [2, 3, 4, 5, 6] (by decide)) ?_
                        refine any_step [11] (by kernel_rfl) rfl ?_
                        refine (all_cons ?_ all_nil)
                        · refine any_op (listed' := #[true, true, true, true, true, true, true, true, true, true, true, true]) (by kernel_rfl) (by kernel_rfl) ?_
                          refine at_runW 1 [] [] [1, 2, 5, 6, 7, 8, 9, 10, 11, 12, 13, 14, 15, 16, 17, 18] [pl 1 (.slice A2 l1.length c2), pl 2 (.pointer (some ⟨g4, 0, none⟩)), pl 5 (.bool r2), pl 6 (.pointer (some ⟨g5, 0, none⟩)), pl 7 (.int .i64 r5.2.2.2.1), pl 8 (.int .i64 r5.2.2.2.2), pl 9 (.bool r7.1), pl 10 (.int .i64 r7.2), pl 11 (.int .i64 r9.1), pl 12 (.int .i64 r9.2), pl 13 (.pointer (some ⟨g6, 0, none⟩)), pl 14 (.int .i64 made1), pl 15 (.int .i64 no1), pl 16 (.int .i64 i1), pl 17 (.pointer (some ⟨g7, 0, none⟩)), pl 18 (.bool r13.2.2.2)] hF hS (by kernel_rfl) (by kernel_rfl) ?_ (fun a hF => ?_)
                          · exact obs_nil
                          refine any_finI rfl (fun h => h) ?_
                          refine any_end (by kernel_rfl) ?_
                          refine np_n ?_
                          refine then_n ?_
                          have hS := hS.pickN 7 [2, 3, 4, 5, 6, 0, 1] (by decide)
                          exact ⟨r13.1, r13.2.1, r13.2.2.1, r13.2.2.2, g7, A13, c13, hF.weak [1, 2, 5, 6, 7, 8, 9, 10, 11, 12, 13, 14, 15, 16, 17, 18] (by kernel_rfl), hS, hm⟩
            · refine any_op (listed' := #[true, true, true, true, true, false, false, false, false, true, false, false]) (by kernel_rfl) (by kernel_rfl) ?_
              refine at_do (d := 17) (s := vS (Instr.alloc 41 true (.tuple #[]))) (v := .pointer (some ⟨w.heap.size, 0, none⟩)) (w' := w.alloc (.cells #[.int .i64 0, .int .i64 0, .slice none 0 0] 41)) hF (by kernel_rfl) (by kernel_rfl) (by kernel_rfl) (fun a hF => ?_)
              have hS : Sep w0 B (w.alloc (.cells #[.int .i64 0, .int .i64 0, .slice none 0 0] 41)) (blk w.heap.size 41 #[.int .i64 0, .int .i64 0, .slice none 0 0] :: (blk g4 41 #[.int .i64 g1, .int .i64 g2, .slice A1 g3.length c1] :: blk g5 41 #[.int .i64 r5.1, .int .i64 r5.2.1, .slice A6 r5.2.2.1.length c6] :: own 3 (.slice A6 r5.2.2.1.length c6) (vI r5.2.2.1) :: blk g6 41 #[.int .i64 now1, .int .i64 now2, .slice A10 now3.length c10] :: own 3 (.slice A10 now3.length c10) (vI now3) :: fs)) := hS.box 41 #[.int .i64 0, .int .i64 0, .slice none 0 0]
              generalize w.heap.size = g7 at hF hS
              generalize w.alloc (.cells #[.int .i64 0, .int .i64 0, .slice none 0 0] 41) = w at hS ⊢
              refine any_fin rfl (hS.pickN 6 [1, 2, 3, 4, 5] (by decide)) ?_
              refine any_step [5] (by kernel_rfl) rfl ?_
              refine (all_cons ?_ all_nil)
              · refine any_op (listed' := #[true, true, true, true, true, true, false, false, false, true, false, false]) (by kernel_rfl) (by kernel_rfl) ?_
                refine at_call (f := 47) (args := #[.agg #[.int .i64 now1, .int .i64 now2, .slice A10 now3.length c10], .int .i64 (geti l1 i1)]) (d := 94) hF (by kernel_rfl) (by kernel_rfl) Try.func47 (by kernel_rfl) rfl (gameroomref_SlideMove_w hr13 hS (fun _ hS => (hS.at_ 5 rfl).rd) ((hS.at_ 5 rfl).cap1) rfl) (fun v a w hR hF => ?_)
                clear hS
                obtain ⟨A15, c15, rfl, hS⟩ := hR
                have hS : Sep w0 B w (own 3 (.slice A15 r13.2.2.1.length c15) (vI r13.2.2.1) :: blk g7 41 #[.int .i64 0, .int .i64 0, .slice none 0 0] :: blk g4 41 #[.int .i64 g1, .int .i64 g2, .slice A1 g3.length c1] :: blk g5 41 #[.int .i64 r5.1, .int .i64 r5.2.1, .slice A6 r5.2.2.1.length c6] :: own 3 (.slice A6 r5.2.2.1.length c6) (vI r5.2.2.1) :: blk g6 41 #[.int .i64 now1, .int .i64 now2, .slice A10 now3.length c10] :: own 3 (.slice A10 now3.length c10) (vI now3) :: fs) := hS
                refine any_fin rfl (hS.pickN 7 [2, 3, 4, 5, 6] (by decide)) ?_
                refine any_step [6] (by kernel_rfl) rfl ?_
                refine (all_cons ?_ all_nil)
                · refine any_op (listed' := #[true, true, true, true, true, true, true, false, false, true, false, false]) (by kernel_rfl) (by kernel_rfl) ?_
                  refine at_runW 1 [] [] [1, 2, 5, 6, 7, 8, 9, 10, 11, 12, 13, 14, 15, 16, 17, 88] [pl 1 (.slice A2 l1.length c2), pl 2 (.pointer (some ⟨g4, 0, none⟩)), pl 5 (.bool r2), pl 6 (.pointer (some ⟨g5, 0, none⟩)), pl 7 (.int .i64 r5.2.2.2.1), pl 8 (.int .i64 r5.2.2.2.2), pl 9 (.bool r7.1), pl 10 (.int .i64 r7.2), pl 11 (.int .i64 r9.1), pl 12 (.int .i64 r9.2), pl 13 (.pointer (some ⟨g6, 0, none⟩)), pl 14 (.int .i64 made1), pl 15 (.int .i64 no1), pl 16 (.int .i64 i1), pl 17 (.pointer (some ⟨g7, 0, none⟩)), pl 88 (.tuple #[.agg #[.int .i64 r13.1, .int .i64 r13.2.1, .slice A15 r13.2.2.1.length c15], .bool r13.2.2.2])] hF hS (by kernel_rfl) (by kernel_rfl) ?_ (fun a hF => ?_)
                  · exact obs_nil
                  refine any_finI rfl (fun h => h) ?_
                  refine any_step [7, 8] (by kernel_rfl) rfl ?_
                  refine (all_cons ?_ (all_cons ?_ all_nil))
                  · refine any_op (listed' := #[true, true, true, true, true, true, true, true, false, true, false, false]) (by kernel_rfl) (by kernel_rfl) ?_
                    refine at_runW 1 [] [] [1, 2, 5, 6, 7, 8, 9, 10, 11, 12, 13, 14, 15, 16, 17, 88, 95] [pl 1 (.slice A2 l1.length c2), pl 2 (.pointer (some ⟨g4, 0, none⟩)), pl 5 (.bool r2), pl 6 (.pointer (some ⟨g5, 0, none⟩)), pl 7 (.int .i64 r5.2.2.2.1), pl 8 (.int .i64 r5.2.2.2.2), pl 9 (.bool r7.1), pl 10 (.int .i64 r7.2), pl 11 (.int .i64 r9.1), pl 12 (.int .i64 r9.2), pl 13 (.pointer (some ⟨g6, 0, none⟩)), pl 14 (.int .i64 made1), pl 15 (.int .i64 no1), pl 16 (.int .i64 i1), pl 17 (.pointer (some ⟨g7, 0, none⟩)), pl 88 (.tuple #[.agg #[.int .i64 r13.1, .int .i64 r13.2.1, .slice A15 r13.2.2.1.length c15], .bool r13.2.2.2]), pl 95 (.agg #[.int .i64 r13.1, .int .i64 r13.2.1, .slice A15 r13.2.2.1.length c15])] hF hS (by kernel_rfl) (by kernel_rfl) ?_ (fun a hF => ?_)
                    · exact obs_nil
                    refine any_finI rfl (fun h => h) ?_
                    refine any_step [8, 10] (by kernel_rfl) rfl ?_
                    refine (all_cons ?_ (all_cons ?_ all_nil))
                    · refine any_op (listed' := #[true, true, true, true, true, true, true, true, true, true, false, false]) (by kernel_rfl) (by kernel_rfl) ?_
                      refine at_runW 1 [] [] [1, 2, 5, 6, 7, 8, 9, 10, 11, 12, 13, 14, 15, 16, 17, 95, 96] [pl 1 (.slice A2 l1.length c2), pl 2 (.pointer (some ⟨g4, 0, none⟩)), pl 5 (.bool r2), pl 6 (.pointer (some ⟨g5, 0, none⟩)), pl 7 (.int .i64 r5.2.2.2.1), pl 8 (.int .i64 r5.2.2.2.2), pl 9 (.bool r7.1), pl 10 (.int .i64 r7.2), pl 11 (.int .i64 r9.1), pl 12 (.int .i64 r9.2), pl 13 (.pointer (some ⟨g6, 0, none⟩)), pl 14 (.int .i64 made1), pl 15 (.int .i64 no1), pl 16 (.int .i64 i1), pl 17 (.pointer (some ⟨g7, 0, none⟩)), pl 95 (.agg #[.int .i64 r13.1, .int .i64 r13.2.1, .slice A15 r13.2.2.1.length c15]), pl 96 (.bool r13.2.2.2)] hF hS (by kernel_rfl) (by kernel_rfl) ?_ (fun a hF => ?_)
                      · exact obs_nil
                      refine any_finI rfl (fun h => h) ?_
                      refine any_step [10] (by kernel_rfl) rfl ?_
                      refine (all_cons ?_ all_nil)
                      · refine any_op (listed' := #[true, true, true, true, true, true, true, true, true, true, true, false]) (by kernel_rfl) (by kernel_rfl) ?_
                        obtain ⟨w, hrun, hS⟩ := run_putA (P := Try.prog) (t := 41) (us := #[.int .i64 r13.1, .int .i64 r13.2.1, .slice A15 r13.2.2.1.length c15]) (o := 0) (hS.at_ 1 rfl) (by kernel_rfl) (all_one (by kernel_rfl)) (Nat.le_of_ble_eq_true (by kernel_rfl))
                        refine at_skip hF (by kernel_rfl) hrun ?_
                        have hS : Sep w0 B w (own 3 (.slice A15 r13.2.2.1.length c15) (vI r13.2.2.1) :: blk g7 41 #[.int .i64 r13.1, .int .i64 r13.2.1, .slice A15 r13.2.2.1.length c15] :: blk g4 41 #[.int .i64 g1, .int .i64 g2, .slice A1 g3.length c1] :: blk g5 41 #[.int .i64 r5.1, .int .i64 r5.2.1, .slice A6 r5.2.2.1.length c6] :: own 3 (.slice A6 r5.2.2.1.length c6) (vI r5.2.2.1) :: blk g6 41 #[.int .i64 now1, .int .i64 now2, .slice A10 now3.length c10] :: own 3 (.slice A10 now3.length c10) (vI now3) :: fs) := hS
                        refine any_fin rfl (hS.pickN 7 [2, 3, 4, 5, 6] (by decide)) ?_
                        refine any_step [11] (by kernel_rfl) rfl ?_
                        refine (all_cons ?_ all_nil)
                        · refine any_op (listed' := #[true, true, true, true, true, true, true, true, true, true, true, true]) (by kernel_rfl) (by kernel_rfl) ?_
                          refine at_runW 1 [] [] [1, 2, 5, 6, 7, 8, 9, 10, 11, 12, 13, 14, 15, 16, 17, 18] [pl 1 (.slice A2 l1.length c2), pl 2 (.pointer (some ⟨g4, 0, none⟩)), pl 5 (.bool r2), pl 6 (.pointer (some ⟨g5, 0, none⟩)), pl 7 (.int .i64 r5.2.2.2.1), pl 8 (.int .i64 r5.2.2.2.2), pl 9 (.bool r7.1), pl 10 (.int .i64 r7.2), pl 11 (.int .i64 r9.1), pl 12 (.int .i64 r9.2), pl 13 (.pointer (some ⟨g6, 0, none⟩)), pl 14 (.int .i64 made1), pl 15 (.int .i64 no1), pl 16 (.int .i64 i1), pl 17 (.pointer (some ⟨g7, 0, none⟩)), pl 18 (.bool r13.2.2.2)] hF hS (by kernel_rfl) (by kernel_rfl) ?_ (fun a hF => ?_)
                          · exact obs_nil
                          refine any_finI rfl (fun h => h) ?_
                          refine any_end (by kernel_rfl) ?_
                          refine np_n ?_
                          refine then_n ?_
                          have hS := hS.pickN 7 [2, 3, 4, 5, 6, 1, 0] (by decide)
                          exact ⟨r13.1, r13.2.1, r13.2.2.1, r13.2.2.2, g7, A15, c15, hF.weak [1, 2, 5, 6, 7, 8, 9, 10, 11, 12, 13, 14, 15, 16, 17, 18] (by kernel_rfl), hS, hm⟩
                    · refine any_op (listed' := #[true, true, true, true, true, true, true, true, false, true, true, false]) (by kernel_rfl) (by kernel_rfl) ?_
                      obtain ⟨w, hrun, hS⟩ := run_putA (P := Try.prog) (t := 41) (us := #[.int .i64 r13.1, .int .i64 r13.2.1, .slice A15 r13.2.2.1.length c15]) (o := 0) (hS.at_ 1 rfl) (by kernel_rfl) (all_one (by kernel_rfl)) (Nat.le_of_ble_eq_true (by kernel_rfl))
                      refine at_skip hF (by kernel_rfl) hrun ?_
                      have hS : Sep w0 B w (own 3 (.slice A15 r13.2.2.1.length c15) (vI r13.2.2.1) :: blk g7 41 #[.int .i64 r13.1, .int .i64 r13.2.1, .slice A15 r13.2.2.1.length c15] :: blk g4 41 #[.int .i64 g1, .int .i64 g2, .slice A1 g3.length c1] :: blk g5 41 #[.int .i64 r5.1, .int .i64 r5.2.1, .slice A6 r5.2.2.1.length c6] :: own 3 (.slice A6 r5.2.2.1.length c6) (vI r5.2.2.1) :: blk g6 41 #[.int .i64 now1, .int .i64 now2, .slice A10 now3.length c10] :: own 3 (.slice A10 now3.length c10) (vI now3) :: fs) := hS
                      refine any_fin rfl (hS.pickN 7 [2, 3, 4, 5, 6] (by decide)) ?_
                      refine any_step [8] (by kernel_rfl) rfl ?_
                      refine (all_cons ?_ all_nil)
                      · refine any_op (listed' := #[true, true, true, true, true, true, true, true, true, true, true, false]) (by kernel_rfl) (by kernel_rfl) ?_
                        refine at_runW 1 [] [] [1, 2, 5, 6, 7, 8, 9, 10, 11, 12, 13, 14, 15, 16, 17, 96] [pl 1 (.slice A2 l1.length c2), pl 2 (.pointer (some ⟨g4, 0, none⟩)), pl 5 (.bool r2), pl 6 (.pointer (some ⟨g5, 0, none⟩)), pl 7 (.int .i64 r5.2.2.2.1), pl 8 (.int .i64 r5.2.2.2.2), pl 9 (.bool r7.1), pl 10 (.int .i64 r7.2), pl 11 (.int .i64 r9.1), pl 12 (.int .i64 r9.2), pl 13 (.pointer (some ⟨g6, 0, none⟩)), pl 14 (.int .i64 made1), pl 15 (.int .i64 no1), pl 16 (.int .i64 i1), pl 17 (.pointer (some ⟨g7, 0, none⟩)), pl 96 (.bool r13.2.2.2)] hF hS (by kernel_rfl) (by kernel_rfl) ?_ (fun a hF => ?_)
                        · exact obs_nil
                        refine any_finI rfl (fun h => h) ?_
                        refine any_step [11] (by kernel_rfl) rfl ?_
                        refine (all_cons ?_ all_nil)
                        · refine any_op (listed' := #[true, true, true, true, true, true, true, true, true, true, true, true]) (by kernel_rfl) (by kernel_rfl) ?_
                          refine at_runW 1 [] [] [1, 2, 5, 6, 7, 8, 9, 10, 11, 12, 13, 14, 15, 16, 17, 18] [pl 1 (.slice A2 l1.length c2), pl 2 (.pointer (some ⟨g4, 0, none⟩)), pl 5 (.bool r2), pl 6 (.pointer (some ⟨g5, 0, none⟩)), pl 7 (.int .i64 r5.2.2.2.1), pl 8 (.int .i64 r5.2.2.2.2), pl 9 (.bool r7.1), pl 10 (.int .i64 r7.2), pl 11 (.int .i64 r9.1), pl 12 (.int .i64 r9.2), pl 13 (.pointer (some ⟨g6, 0, none⟩)), pl 14 (.int .i64 made1), pl 15 (.int .i64 no1), pl 16 (.int .i64 i1), pl 17 (.pointer (some ⟨g7, 0, none⟩)), pl 18 (.bool r13.2.2.2)] hF hS (by kernel_rfl) (by kernel_rfl) ?_ (fun a hF => ?_)
                          · exact obs_nil
                          refine any_finI rfl (fun h => h) ?_
                          refine any_end (by kernel_rfl) ?_
                          refine np_n ?_
                          refine then_n ?_
                          have hS := hS.pickN 7 [2, 3, 4, 5, 6, 1, 0] (by decide)
                          exact ⟨r13.1, r13.2.1, r13.2.2.1, r13.2.2.2, g7, A15, c15, hF.weak [1, 2, 5, 6, 7, 8, 9, 10, 11, 12, 13, 14, 15, 16, 17, 18] (by kernel_rfl), hS, hm⟩
                  · refine any_op (listed' := #[true, true, true, true, true, true, true, false, true, true, false, false]) (by kernel_rfl) (by kernel_rfl) ?_
                    refine at_runW 1 [] [] [1, 2, 5, 6, 7, 8, 9, 10, 11, 12, 13, 14, 15, 16, 17, 88, 96] [pl 1 (.slice A2 l1.length c2), pl 2 (.pointer (some ⟨g4, 0, none⟩)), pl 5 (.bool r2), pl 6 (.pointer (some ⟨g5, 0, none⟩)), pl 7 (.int .i64 r5.2.2.2.1), pl 8 (.int .i64 r5.2.2.2.2), pl 9 (.bool r7.1), pl 10 (.int .i64 r7.2), pl 11 (.int .i64 r9.1), pl 12 (.int .i64 r9.2), pl 13 (.pointer (some ⟨g6, 0, none⟩)), pl 14 (.int .i64 made1), pl 15 (.int .i64 no1), pl 16 (.int .i64 i1), pl 17 (.pointer (some ⟨g7, 0, none⟩)), pl 88 (.tuple #[.agg #[.int .i64 r13.1, .int .i64 r13.2.1, .slice A15 r13.2.2.1.length c15], .bool r13.2.2.2]), pl 96 (.bool r13.2.2.2)] hF hS (by kernel_rfl) (by kernel_rfl) ?_ (fun a hF => ?_)
                    · exact obs_nil
                    refine any_finI rfl (fun h => h) ?_
                    refine any_step [7] (by kernel_rfl) rfl ?_
                    refine (all_cons ?_ all_nil)
                    · refine any_op (listed' := #[true, true, true, true, true, true, true, true, true, true, false, false]) (by kernel_rfl) (by kernel_rfl) ?_
                      refine at_runW 1 [] [] [1, 2, 5, 6, 7, 8, 9, 10, 11, 12, 13, 14, 15, 16, 17, 95, 96] [pl 1 (.slice A2 l1.length c2), pl 2 (.pointer (some ⟨g4, 0, none⟩)), pl 5 (.bool r2), pl 6 (.pointer (some ⟨g5, 0, none⟩)), pl 7 (.int .i64 r5.2.2.2.1), pl 8 (.int .i64 r5.2.2.2.2), pl 9 (.bool r7.1), pl 10 (.int .i64 r7.2), pl 11 (.int .i64 r9.1), pl 12 (.int .i64 r9.2), pl 13 (.pointer (some ⟨g6, 0, none⟩)), pl 14 (.int .i64 made1), pl 15 (.int .i64 no1), pl 16 (.int .i64 i1), pl 17 (.pointer (some ⟨g7, 0, none⟩)), pl 95 (.agg #[.int .i64 r13.1, .int .i64 r13.2.1, .slice A15 r13.2.2.1.length c15]), pl 96 (.bool r13.2.2.2)] hF hS (by kernel_rfl) (by kernel_rfl) ?_ (fun a hF => ?_)
                      · exact obs_nil
                      refine any_finI rfl (fun h => h) ?_
                      refine any_step [10] (by kernel_rfl) rfl ?_
                      refine (all_cons ?_ all_nil)
                      · refine any_op (listed' := #[true, true, true, true, true, true, true, true, true, true, true, false]) (by kernel_rfl) (by kernel_rfl) ?_
                        obtain ⟨w, hrun, hS⟩ := run_putA (P := Try.prog) (t := 41) (us := #[.int .i64 r13.1, .int .i64 r13.2.1, .slice A15 r13.2.2.1.length c15]) (o := 0) (hS.at_ 1 rfl) (by kernel_rfl) (all_one (by kernel_rfl)) (Nat.le_of_ble_eq_true (by kernel_rfl))
                        refine at_skip hF (by kernel_rfl) hrun ?_
                        have hS : Sep w0 B w (own 3 (.slice A15 r13.2.2.1.length c15) (vI r13.2.2.1) :: blk g7 41 #[.int .i64 r13.1, .int .i64 r13.2.1, .slice A15 r13.2.2.1.length c15] :: blk g4 41 #[.int .i64 g1, .int .i64 g2, .slice A1 g3.length c1] :: blk g5 41 #[.int .i64 r5.1, .int .i64 r5.2.1, .slice A6 r5.2.2.1.length c6] :: own 3 (.slice A6 r5.2.2.1.length c6) (vI r5.2.2.1) :: blk g6 41 #[.int .i64 now1, .int .i64 now2, .slice A10 now3.length c10] :: own 3 (.slice A10 now3.length c10) (vI now3) :: fs) := hS
                        refine any_fin rfl (hS.pickN 7 [2, 3, 4, 5, 6] (by decide)) ?_
                        refine any_step [11] (by kernel_rfl) rfl ?_
                        refine (all_cons ?_ all_nil)
                        · refine any_op (listed' := #[true, true, true, true, true, true, true, true, true, true, true, true]) (by kernel_rfl) (by kernel_rfl) ?_
                          refine at_runW 1 [] [] [1, 2, 5, 6, 7, 8, 9, 10, 11, 12, 13, 14, 15, 16, 17, 18] [pl 1 (.slice A2 l1.length c2), pl 2 (.pointer (some ⟨g4, 0, none⟩)), pl 5 (.bool r2), pl 6 (.pointer (some ⟨g5, 0, none⟩)), pl 7 (.int .i64 r5.2.2.2.1), pl 8 (.int .i64 r5.2.2.2.2), pl 9 (.bool r7.1), pl 10 (.int .i64 r7.2), pl 11 (.int .i64 r9.1), pl 12 (.int .i64 r9.2), pl 13 (.pointer (some ⟨g6, 0, none⟩)), pl 14 (.int .i64 made1), pl 15 (.int .i64 no1), pl 16 (.int .i64 i1), pl 17 (.pointer (some ⟨g7, 0, none⟩)), pl 18 (.bool r13.2.2.2)] hF hS (by kernel_rfl) (by kernel_rfl) ?_ (fun a hF => ?_)
                          · exact obs_nil
                          refine any_finI rfl (fun h => h) ?_
                          refine any_end (by kernel_rfl) ?_
                          refine np_n ?_
                          refine then_n ?_
                          have hS := hS.pickN 7 [2, 3, 4, 5, 6, 1, 0] (by decide)
                          exact ⟨r13.1, r13.2.1, r13.2.2.1, r13.2.2.2, g7, A15, c15, hF.weak [1, 2, 5, 6, 7, 8, 9, 10, 11, 12, 13, 14, 15, 16, 17, 18] (by kernel_rfl), hS, hm⟩
      · refine reg [] [] [1, 2, 5, 6, 7, 8, 9, 10, 11, 12, 13, 14, 15, 16, 85] [pl 1 (.slice A2 l1.length c2), pl 2 (.pointer (some ⟨g4, 0, none⟩)), pl 5 (.bool r2), pl 6 (.pointer (some ⟨g5, 0, none⟩)), pl 7 (.int .i64 r5.2.2.2.1), pl 8 (.int .i64 r5.2.2.2.2), pl 9 (.bool r7.1), pl 10 (.int .i64 r7.2), pl 11 (.int .i64 r9.1), pl 12 (.int .i64 r9.2), pl 13 (.pointer (some ⟨g6, 0, none⟩)), pl 14 (.int .i64 made1), pl 15 (.int .i64 no1), pl 16 (.int .i64 i1), pl 85 (.bool ((decide (i1 < (l1.length : Int))) && (no1 == 0)))] hF hS Fol (by kernel_rfl) (by kernel_rfl) (by kernel_rfl) ?_ (fun a w hF hS => ?_)
        · exact obs_nil
        refine cond_ev (t := 85) (b := (decide (i1 < (l1.length : Int))) && (no1 == 0)) hF (by kernel_rfl) (fun hb => ?_) (fun hb => ?_)
        · replace hm := if_t hm hb
          refine wp_skip ?_
          refine then_n ?_
          exact ⟨hF.weak [1, 2, 5, 6, 7, 8, 9, 10, 11, 12, 13, 14, 15, 16] (by kernel_rfl), hS, hm⟩
        · replace hm := if_f hm hb
          refine wp_exit ?_
          refine then_e (then_e (block_e (then_n ?_)))
          rw [← hφ1] at hm
          replace hm := done_b hm
          unfold gameroomlaw_SlideMoves_K1 at hm
          try dsimp only at hm
          have hm : ((gameroomlaw_SlideMoves_J2 g1 g2 g3 r2 r5 r7 r9) now1 now2 now3 made1 no1).bind some = some r := hm
          exact ⟨now1, now2, now3, made1, no1, A10, c10, hF.weak [2, 5, 6, 7, 8, 9, 10, 11, 12, 13, 14, 15] (by kernel_rfl), hS, hm⟩
  · obtain ⟨r10, hr10, hm⟩ := call_b hm
    refine reg [⟨false, [], vS (Instr.loadAt 41 (.pointer (some ⟨g4, 0, none⟩))), .agg #[.int .i64 g1, .int .i64 g2, .slice A1 g3.length c1]⟩, ⟨false, [], callFunc 46 #[.agg #[.int .i64 g1, .int .i64 g2, .slice A1 g3.length c1]], .bool r10⟩] [some (.agg #[.int .i64 g1, .int .i64 g2, .slice A1 g3.length c1]), some (.bool r10), none] [1, 2, 5, 6, 7, 8, 9, 10, 11, 12, 45] [pl 1 (.slice A2 l1.length c2), pl 2 (.pointer (some ⟨g4, 0, none⟩)), pl 5 (.bool r2), pl 6 (.pointer (some ⟨g5, 0, none⟩)), pl 7 (.int .i64 r5.2.2.2.1), pl 8 (.int .i64 r5.2.2.2.2), pl 9 (.bool r7.1), pl 10 (.int .i64 r7.2), pl 11 (.int .i64 r9.1), pl 12 (.int .i64 r9.2), pl 45 (.bool (!r10))] hF hS Fol (by kernel_rfl) (by kernel_rfl) (by kernel_rfl) ?_ (fun a w hF hS => ?_)
    · exact obs_cons (ob_loadA (cs := #[.int .i64 g1, .int .i64 g2, .slice A1 g3.length c1]) (by kernel_rfl) (by kernel_rfl) (fun _ _ hS => (hS.at_ 7 rfl).cellsAt 0 (by rfl))) <| obs_cons (ob_call Try.func46 (by kernel_rfl) rfl (fun _ _ hS => gameroomref_SlideMay_w hr10 hS (fun _ hS => (hr_g3 _ (hS.dropN 8))) _hc_g3 rfl)) <| obs_nil
    refine cond_ev (t := 45) (b := !r10) hF (by kernel_rfl) (fun hb => ?_) (fun hb => ?_)
    · replace hm := if_t hm hb
      obtain ⟨r11, hr11, hm⟩ := call_b hm
      refine reg [⟨false, [((((!r2) && (r5.2.2.2.2 == 12)) && (r7.2 == 12)) && (r9.2 == 12), true)], vS (Instr.loadAt 41 (.pointer (some ⟨g5, 0, none⟩))), .agg #[.int .i64 r5.1, .int .i64 r5.2.1, .slice A6 r5.2.2.1.length c6]⟩, ⟨false, [((((!r2) && (r5.2.2.2.2 == 12)) && (r7.2 == 12)) && (r9.2 == 12), true)], callFunc 35 #[.agg #[.int .i64 r5.1, .int .i64 r5.2.1, .slice A6 r5.2.2.1.length c6]], .bool r11⟩] [none, none, none, none, none, none, none, none, none, none, none, none, none, none, none, some (.agg #[.int .i64 r5.1, .int .i64 r5.2.1, .slice A6 r5.2.2.1.length c6]), some (.bool r11), none, none, none, none, none, none, none, none, none, none, none, none, none, none] [4] [pl 4 (.bool ((((((((!r2) && (r5.2.2.2.2 == 12)) && (r7.2 == 12)) && (r9.2 == 12)) && r11) && (r5.2.2.2.1 == 0)) && (!r7.1)) && (r9.1 == 0)))] hF hS Fol (by kernel_rfl) (by kernel_rfl) (by kernel_rfl) ?_ (fun a w hF hS => ?_)
      · exact obs_cons (ob_loadA (cs := #[.int .i64 r5.1, .int .i64 r5.2.1, .slice A6 r5.2.2.1.length c6]) (by kernel_rfl) (by kernel_rfl) (fun _ _ hS => (hS.at_ 2 rfl).cellsAt 0 (by rfl))) <| obs_cons (ob_call Try.func35 (by kernel_rfl) rfl (fun hy _ hS => gameroomlaw_noGrid_w (ite_some hr11 (by rw [show ((((!r2) && (r5.2.2.2.2 == 12)) && (r7.2 == 12)) && (r9.2 == 12)) = true from hy ((((!r2) && (r5.2.2.2.2 == 12)) && (r7.2 == 12)) && (r9.2 == 12), true) (by simp)]; try rfl)) hS (fun _ hS => (hS.at_ 3 rfl).rd) ((hS.at_ 3 rfl).cap1) rfl)) <| obs_nil
      refine wp_ret ?_
      refine then_r ?_
      have hS := hS.pickN 8 [] (by decide)
      have hm : some ((((((((!r2) && (r5.2.2.2.2 == 12)) && (r7.2 == 12)) && (r9.2 == 12)) && r11) && (r5.2.2.2.1 == 0)) && (!r7.1)) && (r9.1 == 0)) = some r := hm
      obtain rfl := Option.some.inj hm
      exact retV (rs := [.tmp 4]) (vs := [.bool ((((((((!r2) && (r5.2.2.2.2 == 12)) && (r7.2 == 12)) && (r9.2 == 12)) && r11) && (r5.2.2.2.1 == 0)) && (!r7.1)) && (r9.1 == 0))]) hF rfl (rv_t (by kernel_rfl) <| rv_nil) rfl ⟨rfl, hS⟩
    · replace hm := if_f hm hb
      refine wp_skip ?_
      refine then_n ?_
      have hS := hS.pickN 8 [7, 2, 3] (by decide)
      exact ⟨hF.weak [1, 2, 5, 6, 7, 8, 9, 10, 11, 12] (by kernel_rfl), hS, hm⟩

end Go.Proofs.Ytlkdblflibgfpaa
