/-
  Models and walks, printed by our own program (wip/gen).
-/
import Derived.Test.YtbmhcapeikebgaaFB
import Derived.Test.YtbmhcapeikebgaaNYb
namespace Go.Proofs.Ytbmhcapeikebgaa
open Go Go.GL Go.RowKit

noncomputable def gameroomref_SolveGrid_m (g1 : Int) (g2 : Int) (g3 : List Int) (k1 : Int) (who1 : Int) : Option (Int × List Int) :=
  recM fun n => gameroomref_SolveGrid_mF n g1 g2 g3 k1 who1

set_option maxRecDepth 100000 in
set_option maxHeartbeats 4000000 in
theorem gameroomref_SolveGrid_wB {rec_gameroomref_SolveGrid : Int → Int → List Int → Int → Int → Option (Int × List Int)} (ih_gameroomref_SolveGrid : ∀ {g1 : Int} {g2 : Int} {A1 : Option Addr} {c1 : Nat} {n1 : Nat} {g3 : List Int} {k1 : Int} {who1 : Int} {r : (Int × List Int)} {w0 w : World} {B : Nat} {fs : List HP} (_ : rec_gameroomref_SolveGrid g1 g2 g3 k1 who1 = some r) (_ : Sep w0 B w (fs)) (hr_g3 : RdF w0 B fs A1 (vI g3)) (_hc_g3 : g3.length ≤ c1) (_hn_g3 : n1 = g3.length), Calls Try.prog 64 #[.agg #[.int .i64 g1, .int .i64 g2, .slice A1 n1 c1], .int .i64 k1, .int .i64 who1] w fun e w' => ∃ v, e = .returned v ∧ ∃ (A10 : Option Addr) (c10 : Nat), v = .tuple #[.int .i64 r.1, .slice A10 r.2.length c10] ∧ Sep w0 B w' (own 3 (.slice A10 r.2.length c10) (vI r.2) :: fs)) {g1 : Int} {g2 : Int} {A1 : Option Addr} {c1 : Nat} {n1 : Nat} {g3 : List Int} {k1 : Int} {who1 : Int} {r : (Int × List Int)} {w0 w : World} {B : Nat} {fs : List HP} (hm : gameroomref_SolveGrid_B rec_gameroomref_SolveGrid g1 g2 g3 k1 who1 = some r) (hS : Sep w0 B w (fs)) (hr_g3 : RdF w0 B fs A1 (vI g3)) (_hc_g3 : g3.length ≤ c1) (_hn_g3 : n1 = g3.length) :
    Calls Try.prog 64 #[.agg #[.int .i64 g1, .int .i64 g2, .slice A1 n1 c1], .int .i64 k1, .int .i64 who1] w fun e w' => ∃ v, e = .returned v ∧ ∃ (A10 : Option Addr) (c10 : Nat), v = .tuple #[.int .i64 r.1, .slice A10 r.2.length c10] ∧ Sep w0 B w' (own 3 (.slice A10 r.2.length c10) (vI r.2) :: fs) := by
  obtain ⟨i3, hi3, hz3, hs3, hb3⟩ := info_parts Info3
  obtain rfl := _hn_g3
  unfold gameroomref_SolveGrid_B at hm
  replace hm := start_b hm
  refine enter (l := [.agg #[.int .i64 g1, .int .i64 g2, .slice A1 g3.length c1], .int .i64 k1, .int .i64 who1]) (n := 73) Try.func64 rfl rfl (by simp) (fun a hF => ?_)
  refine seqR ?_
  refine at_do (d := 3) (s := vS (Instr.box 82 (.agg #[.int .i64 g1, .int .i64 g2, .slice A1 g3.length c1]))) (v := .pointer (some ⟨w.heap.size, 0, none⟩)) (w' := w.alloc (.cells #[.int .i64 g1, .int .i64 g2, .slice A1 g3.length c1] 82)) hF (by kernel_rfl) (by kernel_rfl) (by kernel_rfl) (fun a hF => ?_)
  have hS : Sep w0 B (w.alloc (.cells #[.int .i64 g1, .int .i64 g2, .slice A1 g3.length c1] 82)) (blk w.heap.size 82 #[.int .i64 g1, .int .i64 g2, .slice A1 g3.length c1] :: (fs)) := hS.box 82 #[.int .i64 g1, .int .i64 g2, .slice A1 g3.length c1]
  generalize w.heap.size = g4 at hF hS
  generalize w.alloc (.cells #[.int .i64 g1, .int .i64 g2, .slice A1 g3.length c1] 82) = w at hS ⊢
  refine at_run 2 [] [] [1, 2, 3] [pl 1 (.int .i64 k1), pl 2 (.int .i64 who1), pl 3 (.pointer (some ⟨g4, 0, none⟩))] hF hS (by kernel_rfl) (by kernel_rfl) ?_ (fun a w hF hS => ?_)
  · exact obs_nil
  refine at_end [1, 2, 3] [pl 1 (.int .i64 k1), pl 2 (.int .i64 who1), pl 3 (.pointer (some ⟨g4, 0, none⟩))] hF rfl (by kernel_rfl) (fun hF => ?_)
  refine then_n ?_
  refine seqR ?_
  obtain ⟨r1, hr1, hm⟩ := call_b hm
  refine at_run 2 [⟨false, [], vS (Instr.loadAt 82 (.pointer (some ⟨g4, 0, none⟩))), .agg #[.int .i64 g1, .int .i64 g2, .slice A1 g3.length c1]⟩] [some (.agg #[.int .i64 g1, .int .i64 g2, .slice A1 g3.length c1]), none] [1, 2, 3, 17, 18] [pl 1 (.int .i64 k1), pl 2 (.int .i64 who1), pl 3 (.pointer (some ⟨g4, 0, none⟩)), pl 17 (.agg #[.int .i64 g1, .int .i64 g2, .slice A1 g3.length c1]), pl 18 (.int .i64 k1)] hF hS (by kernel_rfl) (by kernel_rfl) ?_ (fun a w hF hS => ?_)
  · exact obs_cons (ob_loadA (cs := #[.int .i64 g1, .int .i64 g2, .slice A1 g3.length c1]) (by kernel_rfl) (by kernel_rfl) (fun _ _ hS => (hS.at_ 0 rfl).cellsAt 0 (by rfl))) <| obs_nil
  refine at_call (f := 116) (args := #[.agg #[.int .i64 g1, .int .i64 g2, .slice A1 g3.length c1], .int .i64 k1]) (d := 19) hF (by kernel_rfl) (by kernel_rfl) Try.func116 (by kernel_rfl) rfl (gameroomref_WonOf_w hr1 hS (fun _ hS => (hr_g3 _ (hS.dropN 1))) _hc_g3 rfl) (fun v a w hR hF => ?_)
  clear hS
  obtain ⟨A2, c2, rfl, hS⟩ := hR
  have hS : Sep w0 B w (own 3 (.slice A2 r1.2.length c2) (vI r1.2) :: blk g4 82 #[.int .i64 g1, .int .i64 g2, .slice A1 g3.length c1] :: fs) := hS
  refine at_run 5 [] [] [1, 2, 3, 8] [pl 1 (.int .i64 k1), pl 2 (.int .i64 who1), pl 3 (.pointer (some ⟨g4, 0, none⟩)), pl 8 (.int .i64 r1.1)] hF hS (by kernel_rfl) (by kernel_rfl) ?_ (fun a w hF hS => ?_)
  · exact obs_nil
  refine at_end [1, 2, 3, 8] [pl 1 (.int .i64 k1), pl 2 (.int .i64 who1), pl 3 (.pointer (some ⟨g4, 0, none⟩)), pl 8 (.int .i64 r1.1)] hF rfl (by kernel_rfl) (fun hF => ?_)
  refine then_n ?_
  refine seq_cut (fun a w => Fr 73 [pl 1 (.int .i64 k1), pl 2 (.int .i64 who1), pl 3 (.pointer (some ⟨g4, 0, none⟩)), pl 8 (.int .i64 r1.1)] a ∧ Sep w0 B w (blk g4 82 #[.int .i64 g1, .int .i64 g2, .slice A1 g3.length c1] :: fs) ∧ ((gameroomref_SolveGrid_J1 rec_gameroomref_SolveGrid g1 g2 g3 k1 who1 r1)).bind some = some r) ?_ ?_
  · rintro a w ⟨hF, hS, hm⟩
    unfold gameroomref_SolveGrid_J1 at hm
    refine seq_cut (fun a w => Fr 73 [pl 1 (.int .i64 k1), pl 2 (.int .i64 who1), pl 3 (.pointer (some ⟨g4, 0, none⟩))] a ∧ Sep w0 B w (blk g4 82 #[.int .i64 g1, .int .i64 g2, .slice A1 g3.length c1] :: fs) ∧ ((gameroomref_SolveGrid_J2 rec_gameroomref_SolveGrid g1 g2 g3 k1 who1)).bind some = some r) ?_ ?_
    · rintro a w ⟨hF, hS, hm⟩
      unfold gameroomref_SolveGrid_J2 at hm
      refine reg [] [] [1, 2, 3, 10] [pl 1 (.int .i64 k1), pl 2 (.int .i64 who1), pl 3 (.pointer (some ⟨g4, 0, none⟩)), pl 10 (.int .i64 (-2))] hF hS Fol (by kernel_rfl) (by kernel_rfl) (by kernel_rfl) ?_ (fun a w hF hS => ?_)
      · exact obs_nil
      refine reg [] [] [1, 2, 3, 10, 11] [pl 1 (.int .i64 k1), pl 2 (.int .i64 who1), pl 3 (.pointer (some ⟨g4, 0, none⟩)), pl 10 (.int .i64 (-2)), pl 11 (.slice none 0 0)] hF hS Fol (by kernel_rfl) (by kernel_rfl) (by kernel_rfl) ?_ (fun a w hF hS => ?_)
      · exact obs_nil
      refine seq_cut (fun a w => ∃ (best2 : Int) (where2 : List Int) (A4 : Option Addr) (c4 : Nat), Fr 73 [pl 10 (.int .i64 best2), pl 11 (.slice A4 where2.length c4)] a ∧ Sep w0 B w (own 3 (.slice A4 where2.length c4) (vI where2) :: fs) ∧ (gameroomref_SolveGrid_J3 best2 where2).bind some = some r) ?_ ?_
      · rintro a w ⟨best2, where2, A4, c4, hF, hS, hm⟩
        unfold gameroomref_SolveGrid_J3 at hm
        refine seq_cut (fun a w => Fr 73 [pl 10 (.int .i64 best2), pl 11 (.slice A4 where2.length c4)] a ∧ Sep w0 B w (own 3 (.slice A4 where2.length c4) (vI where2) :: fs) ∧ ((gameroomref_SolveGrid_J8 best2 where2)).bind some = some r) ?_ ?_
        · rintro a w ⟨hF, hS, hm⟩
          unfold gameroomref_SolveGrid_J8 at hm
          refine reg [] [] [6, 7] [pl 6 (.int .i64 best2), pl 7 (.slice A4 where2.length c4)] hF hS Fol (by kernel_rfl) (by kernel_rfl) (by kernel_rfl) ?_ (fun a w hF hS => ?_)
          · exact obs_nil
          refine wp_ret ?_
          have hm : some (best2, where2) = some r := hm
          obtain rfl := Option.some.inj hm
          exact retV (rs := [.tmp 6, .tmp 7]) (vs := [.int .i64 best2, .slice A4 where2.length c4]) hF rfl (rv_t (by kernel_rfl) <| rv_t (by kernel_rfl) <| rv_nil) rfl ⟨_, rfl, A4, c4, rfl, hS⟩
        · refine reg [] [] [10, 11, 70] [pl 10 (.int .i64 best2), pl 11 (.slice A4 where2.length c4), pl 70 (.bool (best2 == (-2)))] hF hS Fol (by kernel_rfl) (by kernel_rfl) (by kernel_rfl) ?_ (fun a w hF hS => ?_)
          · exact obs_nil
          refine cond_ev (t := 70) (b := (best2 == (-2))) hF (by kernel_rfl) (fun hb => ?_) (fun hb => ?_)
          · replace hm := if_t hm hb
            refine reg [] [] [6, 7] [pl 6 (.int .i64 0), pl 7 (.slice none 0 0)] hF hS Fol (by kernel_rfl) (by kernel_rfl) (by kernel_rfl) ?_ (fun a w hF hS => ?_)
            · exact obs_nil
            refine wp_ret ?_
            refine then_r ?_
            have hS : Sep w0 B w (own 3 (.slice none 0 0) (vI ([] : List Int)) :: own 3 (.slice A4 where2.length c4) (vI where2) :: fs) := hS.nil 3
            have hl5 := (hS.at_ 0 rfl).len1
            have hS := (hS.at_ 0 rfl).reN hl5
            have hS : Sep w0 B w (own 3 (.slice none (([] : List Int).length) 0) (vI ([] : List Int)) :: own 3 (.slice A4 where2.length c4) (vI where2) :: fs) := hS
            have hS := hS.pickN 2 [0] (by decide)
            have hm : some (0, ([] : List Int)) = some r := hm
            obtain rfl := Option.some.inj hm
            exact retV (rs := [.tmp 6, .tmp 7]) (vs := [.int .i64 0, .slice none (([] : List Int).length) 0]) hF rfl (rv_t (by kernel_rfl) <| rv_t (by kernel_rfl) <| rv_nil) rfl ⟨_, rfl, none, 0, rfl, hS⟩
          · replace hm := if_f hm hb
            refine wp_skip ?_
            refine then_n ?_
            exact ⟨hF.weak [10, 11] (by kernel_rfl), hS, hm⟩
      · refine reg [] [] [1, 2, 3, 10, 11, 12] [pl 1 (.int .i64 k1), pl 2 (.int .i64 who1), pl 3 (.pointer (some ⟨g4, 0, none⟩)), pl 10 (.int .i64 (-2)), pl 11 (.slice none 0 0), pl 12 (.int .i64 0)] hF hS Fol (by kernel_rfl) (by kernel_rfl) (by kernel_rfl) ?_ (fun a w hF hS => ?_)
        · exact obs_nil
        refine wp_block ?_
        have hS : Sep w0 B w (own 3 (.slice none 0 0) (vI ([] : List Int)) :: blk g4 82 #[.int .i64 g1, .int .i64 g2, .slice A1 g3.length c1] :: fs) := hS.nil 3
        have hl3 := (hS.at_ 0 rfl).len1
        have hS := (hS.at_ 0 rfl).reN hl3
        have hS : Sep w0 B w (own 3 (.slice none (([] : List Int).length) 0) (vI ([] : List Int)) :: blk g4 82 #[.int .i64 g1, .int .i64 g2, .slice A1 g3.length c1] :: fs) := hS
        have hF := hF.cast (t := 11) (v := .slice none 0 0) (v' := .slice none (([] : List Int).length) 0) rfl rfl (congrArg (fun k => Value.slice none k 0) hl3)
        have hS := hS.pickN 2 [1, 0] (by decide)
        refine wp_loop_model (S := (Int × List Int × Int)) (R := (Int × List Int)) (gameroomref_SolveGrid_L1 rec_gameroomref_SolveGrid g1 g2 g3 k1 who1) (fun x => (gameroomref_SolveGrid_K1 x).bind some) r (fun (x : (Int × List Int × Int)) a w => ∃ (A3 : Option Addr) (c3 : Nat), Fr 73 [pl 1 (.int .i64 k1), pl 2 (.int .i64 who1), pl 3 (.pointer (some ⟨g4, 0, none⟩)), pl 10 (.int .i64 x.1), pl 11 (.slice A3 x.2.1.length c3), pl 12 (.int .i64 x.2.2)] a ∧ Sep w0 B w (blk g4 82 #[.int .i64 g1, .int .i64 g2, .slice A1 g3.length c1] :: own 3 (.slice A3 x.2.1.length c3) (vI x.2.1) :: fs)) (assoc_b hm) ⟨none, 0, hF.weak [1, 2, 3, 10, 11, 12] (by kernel_rfl), hS⟩ ?_
        clear hF hS hm
        rintro nn1 ⟨best1, where1, i1⟩ a w ⟨A3, c3, hF, hS⟩ hm
        generalize hφ1 : stK (gameroomref_SolveGrid_L1 rec_gameroomref_SolveGrid g1 g2 g3 k1 who1) nn1 (fun x => (gameroomref_SolveGrid_K1 x).bind some) = φ1 at hm
        unfold gameroomref_SolveGrid_L1 at hm
        dsimp only at hF hS hm
        refine seq_cut (fun a w => Fr 73 [pl 1 (.int .i64 k1), pl 2 (.int .i64 who1), pl 3 (.pointer (some ⟨g4, 0, none⟩)), pl 10 (.int .i64 best1), pl 11 (.slice A3 where1.length c3), pl 12 (.int .i64 i1)] a ∧ Sep w0 B w (blk g4 82 #[.int .i64 g1, .int .i64 g2, .slice A1 g3.length c1] :: own 3 (.slice A3 where1.length c3) (vI where1) :: fs) ∧ ((gameroomref_SolveGrid_J4 rec_gameroomref_SolveGrid g1 g2 g3 k1 who1 best1 where1 i1)).bind φ1 = some r) ?_ ?_
        · rintro a w ⟨hF, hS, hm⟩
          unfold gameroomref_SolveGrid_J4 at hm
          refine seq_cut (fun a w => ∃ (best3 : Int) (where3 : List Int) (A5 : Option Addr) (c5 : Nat), Fr 73 [pl 1 (.int .i64 k1), pl 2 (.int .i64 who1), pl 3 (.pointer (some ⟨g4, 0, none⟩)), pl 10 (.int .i64 best3), pl 11 (.slice A5 where3.length c5), pl 12 (.int .i64 i1)] a ∧ Sep w0 B w (blk g4 82 #[.int .i64 g1, .int .i64 g2, .slice A1 g3.length c1] :: own 3 (.slice A5 where3.length c5) (vI where3) :: fs) ∧ ((gameroomref_SolveGrid_J5 i1) best3 where3).bind φ1 = some r) ?_ ?_
          · rintro a w ⟨best3, where3, A5, c5, hF, hS, hm⟩
            unfold gameroomref_SolveGrid_J5 at hm
            refine reg1 [] [] [1, 2, 3, 10, 11, 12] [pl 1 (.int .i64 k1), pl 2 (.int .i64 who1), pl 3 (.pointer (some ⟨g4, 0, none⟩)), pl 10 (.int .i64 best3), pl 11 (.slice A5 where3.length c5), pl 12 (.int .i64 (w64 (i1 + 1)))] hF hS Fol (by kernel_rfl) (by kernel_rfl) (by kernel_rfl) ?_ (fun a w hF hS => ?_)
            · exact obs_nil
            refine then_n ?_
            rw [← hφ1] at hm
            exact ⟨(best3, where3, (w64 (i1 + 1))), ⟨A5, c5, hF.weak [1, 2, 3, 10, 11, 12] (by kernel_rfl), hS⟩, hm⟩
          · refine wp_block ?_
            refine seq_cut (fun a w => Fr 73 [pl 1 (.int .i64 k1), pl 2 (.int .i64 who1), pl 3 (.pointer (some ⟨g4, 0, none⟩)), pl 10 (.int .i64 best1), pl 11 (.slice A3 where1.length c3), pl 12 (.int .i64 i1)] a ∧ Sep w0 B w (blk g4 82 #[.int .i64 g1, .int .i64 g2, .slice A1 g3.length c1] :: own 3 (.slice A3 where1.length c3) (vI where1) :: fs) ∧ ((gameroomref_SolveGrid_J6 rec_gameroomref_SolveGrid g1 g2 g3 k1 who1 best1 where1 i1)).bind φ1 = some r) ?_ ?_
            · rintro a w ⟨hF, hS, hm⟩
              unfold gameroomref_SolveGrid_J6 at hm
              refine seqR ?_
              obtain ⟨r2, hr2, hm⟩ := call_b hm
              refine at_run 1 [⟨false, [], vS (Instr.loadAt 82 (.pointer (some ⟨g4, 0, none⟩))), .agg #[.int .i64 g1, .int .i64 g2, .slice A1 g3.length c1]⟩] [some (.agg #[.int .i64 g1, .int .i64 g2, .slice A1 g3.length c1])] [1, 2, 3, 10, 11, 12, 40] [pl 1 (.int .i64 k1), pl 2 (.int .i64 who1), pl 3 (.pointer (some ⟨g4, 0, none⟩)), pl 10 (.int .i64 best1), pl 11 (.slice A3 where1.length c3), pl 12 (.int .i64 i1), pl 40 (.agg #[.int .i64 g1, .int .i64 g2, .slice A1 g3.length c1])] hF hS (by kernel_rfl) (by kernel_rfl) ?_ (fun a w hF hS => ?_)
              · exact obs_cons (ob_loadA (cs := #[.int .i64 g1, .int .i64 g2, .slice A1 g3.length c1]) (by kernel_rfl) (by kernel_rfl) (fun _ _ hS => (hS.at_ 0 rfl).cellsAt 0 (by rfl))) <| obs_nil
              refine at_call (f := 60) (args := #[.agg #[.int .i64 g1, .int .i64 g2, .slice A1 g3.length c1]]) (d := 41) hF (by kernel_rfl) (by kernel_rfl) Try.func60 (by kernel_rfl) rfl (gameroomref_GridOf_w hr2 hS (fun _ hS => (hr_g3 _ (hS.dropN 2))) _hc_g3 rfl) (fun v a w hR hF => ?_)
              clear hS
              obtain ⟨A6, c6, rfl, hS⟩ := hR
              have hS : Sep w0 B w (own 3 (.slice A6 r2.2.2.length c6) (vI r2.2.2) :: blk g4 82 #[.int .i64 g1, .int .i64 g2, .slice A1 g3.length c1] :: own 3 (.slice A3 where1.length c3) (vI where1) :: fs) := hS
              refine at_do (d := 13) (s := vS (Instr.alloc 82 true (.tuple #[]))) (v := .pointer (some ⟨w.heap.size, 0, none⟩)) (w' := w.alloc (.cells #[.int .i64 0, .int .i64 0, .slice none 0 0] 82)) hF (by kernel_rfl) (by kernel_rfl) (by kernel_rfl) (fun a hF => ?_)
              have hS : Sep w0 B (w.alloc (.cells #[.int .i64 0, .int .i64 0, .slice none 0 0] 82)) (blk w.heap.size 82 #[.int .i64 0, .int .i64 0, .slice none 0 0] :: (own 3 (.slice A6 r2.2.2.length c6) (vI r2.2.2) :: blk g4 82 #[.int .i64 g1, .int .i64 g2, .slice A1 g3.length c1] :: own 3 (.slice A3 where1.length c3) (vI where1) :: fs)) := hS.box 82 #[.int .i64 0, .int .i64 0, .slice none 0 0]
              generalize w.heap.size = g5 at hF hS
              generalize w.alloc (.cells #[.int .i64 0, .int .i64 0, .slice none 0 0] 82) = w at hS ⊢
              obtain ⟨w, hrun, hS⟩ := run_putA (P := Try.prog) (t := 82) (us := #[.int .i64 r2.1, .int .i64 r2.2.1, .slice A6 r2.2.2.length c6]) (o := 0) (hS.at_ 0 rfl) (by kernel_rfl) (all_one (by kernel_rfl)) (Nat.le_of_ble_eq_true (by kernel_rfl))
              refine at_skip hF (by kernel_rfl) hrun ?_
              have hS : Sep w0 B w (blk g5 82 #[.int .i64 r2.1, .int .i64 r2.2.1, .slice A6 r2.2.2.length c6] :: own 3 (.slice A6 r2.2.2.length c6) (vI r2.2.2) :: blk g4 82 #[.int .i64 g1, .int .i64 g2, .slice A1 g3.length c1] :: own 3 (.slice A3 where1.length c3) (vI where1) :: fs) := hS
              refine at_end [1, 2, 3, 10, 11, 12, 13] [pl 1 (.int .i64 k1), pl 2 (.int .i64 who1), pl 3 (.pointer (some ⟨g4, 0, none⟩)), pl 10 (.int .i64 best1), pl 11 (.slice A3 where1.length c3), pl 12 (.int .i64 i1), pl 13 (.pointer (some ⟨g5, 0, none⟩))] hF rfl (by kernel_rfl) (fun hF => ?_)
              refine then_n ?_
              refine seqR ?_
              obtain ⟨hp2, hm⟩ := asrt_b hm
              refine at_run 5 [⟨false, [], vS (Instr.loadAt 40 (.pointer (some ⟨g5, 2, none⟩))), .slice A6 r2.2.2.length c6⟩, ⟨true, [], vS (Instr.indexAt 40 (.slice A6 r2.2.2.length c6) (.int .i64 i1)), .pointer (some (sAddr A6 i1))⟩] [none, some (.slice A6 r2.2.2.length c6), none, none, some (.pointer (some (sAddr A6 i1)))] [1, 2, 3, 10, 11, 12, 13, 45, 46] [pl 1 (.int .i64 k1), pl 2 (.int .i64 who1), pl 3 (.pointer (some ⟨g4, 0, none⟩)), pl 10 (.int .i64 best1), pl 11 (.slice A3 where1.length c3), pl 12 (.int .i64 i1), pl 13 (.pointer (some ⟨g5, 0, none⟩)), pl 45 (.int .i64 who1), pl 46 (.pointer (some (sAddr A6 i1)))] hF hS (by kernel_rfl) (by kernel_rfl) ?_ (fun a w hF hS => ?_)
              · exact obs_cons (ob_load Agg40 (fun _ _ hS => (hS.at_ 0 rfl).cell rfl)) <| obs_cons (ob_ix1 (f := (Value.int .i64)) (m := r2.2.2) Und40 hi3 hs3 (hS.at_ 1 rfl).rd rfl (fun _ => hp2)) <| obs_nil
              obtain ⟨w, hrun, hS⟩ := run_set1 (P := Try.prog) (t := 3) (x := who1) (Value.int .i64) (hS.at_ 1 rfl) hi3 hs3 rfl rfl hp2
              refine at_skip hF (by kernel_rfl) hrun ?_
              have hS : Sep w0 B w (blk g5 82 #[.int .i64 r2.1, .int .i64 r2.2.1, .slice A6 r2.2.2.length c6] :: own 3 (.slice A6 r2.2.2.length c6) (vI (r2.2.2.set (Int.toNat i1) who1)) :: blk g4 82 #[.int .i64 g1, .int .i64 g2, .slice A1 g3.length c1] :: own 3 (.slice A3 where1.length c3) (vI where1) :: fs) := hS
              refine at_end [1, 2, 3, 10, 11, 12, 13] [pl 1 (.int .i64 k1), pl 2 (.int .i64 who1), pl 3 (.pointer (some ⟨g4, 0, none⟩)), pl 10 (.int .i64 best1), pl 11 (.slice A3 where1.length c3), pl 12 (.int .i64 i1), pl 13 (.pointer (some ⟨g5, 0, none⟩))] hF rfl (by kernel_rfl) (fun hF => ?_)
              refine then_n ?_
              refine seqR ?_
              obtain ⟨r3, hr3, hm⟩ := call_b hm
              refine at_run 4 [⟨false, [], vS (Instr.loadAt 82 (.pointer (some ⟨g5, 0, none⟩))), .agg #[.int .i64 r2.1, .int .i64 r2.2.1, .slice A6 r2.2.2.length c6]⟩] [some (.agg #[.int .i64 r2.1, .int .i64 r2.2.1, .slice A6 r2.2.2.length c6]), none, none, none] [1, 2, 3, 10, 11, 12, 48, 49, 51] [pl 1 (.int .i64 k1), pl 2 (.int .i64 who1), pl 3 (.pointer (some ⟨g4, 0, none⟩)), pl 10 (.int .i64 best1), pl 11 (.slice A3 where1.length c3), pl 12 (.int .i64 i1), pl 48 (.agg #[.int .i64 r2.1, .int .i64 r2.2.1, .slice A6 r2.2.2.length c6]), pl 49 (.int .i64 k1), pl 51 (.int .i64 (w64 (3 - who1)))] hF hS (by kernel_rfl) (by kernel_rfl) ?_ (fun a w hF hS => ?_)
              · exact obs_cons (ob_loadA (cs := #[.int .i64 r2.1, .int .i64 r2.2.1, .slice A6 r2.2.2.length c6]) (by kernel_rfl) (by kernel_rfl) (fun _ _ hS => (hS.at_ 0 rfl).cellsAt 0 (by rfl))) <| obs_nil
              refine at_call (f := 64) (args := #[.agg #[.int .i64 r2.1, .int .i64 r2.2.1, .slice A6 r2.2.2.length c6], .int .i64 k1, .int .i64 (w64 (3 - who1))]) (d := 52) hF (by kernel_rfl) (by kernel_rfl) Try.func64 (by kernel_rfl) rfl (ih_gameroomref_SolveGrid hr3 hS (fun _ hS => (hS.at_ 1 rfl).rd) ((hS.at_ 1 rfl).cap1) ((hS.at_ 1 rfl).len1)) (fun v a w hR hF => ?_)
              clear hS
              obtain ⟨A7, c7, rfl, hS⟩ := hR
              have hS : Sep w0 B w (own 3 (.slice A7 r3.2.length c7) (vI r3.2) :: blk g5 82 #[.int .i64 r2.1, .int .i64 r2.2.1, .slice A6 r2.2.2.length c6] :: own 3 (.slice A6 r2.2.2.length c6) (vI (r2.2.2.set (Int.toNat i1) who1)) :: blk g4 82 #[.int .i64 g1, .int .i64 g2, .slice A1 g3.length c1] :: own 3 (.slice A3 where1.length c3) (vI where1) :: fs) := hS
              refine at_run 5 [] [] [1, 2, 3, 10, 11, 12, 14] [pl 1 (.int .i64 k1), pl 2 (.int .i64 who1), pl 3 (.pointer (some ⟨g4, 0, none⟩)), pl 10 (.int .i64 best1), pl 11 (.slice A3 where1.length c3), pl 12 (.int .i64 i1), pl 14 (.int .i64 r3.1)] hF hS (by kernel_rfl) (by kernel_rfl) ?_ (fun a w hF hS => ?_)
              · exact obs_nil
              refine at_end [1, 2, 3, 10, 11, 12, 14] [pl 1 (.int .i64 k1), pl 2 (.int .i64 who1), pl 3 (.pointer (some ⟨g4, 0, none⟩)), pl 10 (.int .i64 best1), pl 11 (.slice A3 where1.length c3), pl 12 (.int .i64 i1), pl 14 (.int .i64 r3.1)] hF rfl (by kernel_rfl) (fun hF => ?_)
              refine then_n ?_
              refine seq_cut (fun a w => ∃ (best4 : Int) (where4 : List Int) (A8 : Option Addr) (c8 : Nat), Fr 73 [pl 1 (.int .i64 k1), pl 2 (.int .i64 who1), pl 3 (.pointer (some ⟨g4, 0, none⟩)), pl 10 (.int .i64 best4), pl 11 (.slice A8 where4.length c8), pl 12 (.int .i64 i1), pl 14 (.int .i64 r3.1)] a ∧ Sep w0 B w (blk g4 82 #[.int .i64 g1, .int .i64 g2, .slice A1 g3.length c1] :: own 3 (.slice A8 where4.length c8) (vI where4) :: fs) ∧ ((gameroomref_SolveGrid_J7 i1 r3) best4 where4).bind φ1 = some r) ?_ ?_
              · rintro a w ⟨best4, where4, A8, c8, hF, hS, hm⟩
                unfold gameroomref_SolveGrid_J7 at hm
                refine reg [] [] [1, 2, 3, 10, 11, 12, 64] [pl 1 (.int .i64 k1), pl 2 (.int .i64 who1), pl 3 (.pointer (some ⟨g4, 0, none⟩)), pl 10 (.int .i64 best4), pl 11 (.slice A8 where4.length c8), pl 12 (.int .i64 i1), pl 64 (.bool ((w64 (0 - r3.1)) == best4))] hF hS Fol (by kernel_rfl) (by kernel_rfl) (by kernel_rfl) ?_ (fun a w hF hS => ?_)
                · exact obs_nil
                refine cond_ev (t := 64) (b := ((w64 (0 - r3.1)) == best4)) hF (by kernel_rfl) (fun hb => ?_) (fun hb => ?_)
                · replace hm := if_t hm hb
                  refine oneR ?_
                  obtain ⟨hp3, hm⟩ := asrt_b hm
                  refine at_run 2 [] [] [1, 2, 3, 10, 12, 65, 66] [pl 1 (.int .i64 k1), pl 2 (.int .i64 who1), pl 3 (.pointer (some ⟨g4, 0, none⟩)), pl 10 (.int .i64 best4), pl 12 (.int .i64 i1), pl 65 (.slice A8 where4.length c8), pl 66 (.int .i64 i1)] hF hS (by kernel_rfl) (by kernel_rfl) ?_ (fun a w hF hS => ?_)
                  · exact obs_nil
                  refine at_do (d := 67) (s := vS (Instr.buildSlice 40 1 #[(0, .int .i64 i1)])) (v := .slice (some ⟨w.heap.size, 0, none⟩) 1 1) (w' := w.alloc (.cells #[.int .i64 i1] 3)) hF (by kernel_rfl) (by kernel_rfl) (by kernel_rfl) (fun a hF => ?_)
                  have hS : Sep w0 B (w.alloc (.cells #[.int .i64 i1] 3)) (own 3 (.slice (some (⟨w.heap.size, 0, none⟩ : Addr)) 1 1) (vI ([i1] : List Int)) :: (blk g4 82 #[.int .i64 g1, .int .i64 g2, .slice A1 g3.length c1] :: own 3 (.slice A8 where4.length c8) (vI where4) :: fs)) := hS.lit 3 #[.int .i64 i1] 1 rfl (by omega)
                  generalize (some (⟨w.heap.size, 0, none⟩ : Addr)) = g6 at hF hS
                  generalize w.alloc (.cells #[.int .i64 i1] 3) = w at hS ⊢
                  obtain ⟨A9, c9, w, hrun, hS⟩ := run_app1 (P := Try.prog) (t := 40) (m := where4) (ys := ([i1] : List Int)) (A2 := g6) (m2 := 1) (c2 := 1) (Value.int .i64) (0 : Int) (hS.at_ 2 rfl) (hS.at_ 0 rfl).rd ((hS.at_ 0 rfl).len1) 40 Und40 hi3 hz3 hs3 (by omega) rfl (fun _ => rfl) hp3
                  have hS : Sep w0 B w (own 3 (.slice g6 1 1) (vI ([i1] : List Int)) :: blk g4 82 #[.int .i64 g1, .int .i64 g2, .slice A1 g3.length c1] :: own 3 (.slice A9 ((where4 ++ ([i1] : List Int)).length) c9) (vI (where4 ++ ([i1] : List Int))) :: fs) := hS
                  refine at_do (d := 68) hF (by kernel_rfl) (by kernel_rfl) hrun (fun a hF => ?_)
                  refine at_run 1 [] [] [1, 2, 3, 10, 11, 12] [pl 1 (.int .i64 k1), pl 2 (.int .i64 who1), pl 3 (.pointer (some ⟨g4, 0, none⟩)), pl 10 (.int .i64 best4), pl 11 (.slice A9 ((where4 ++ ([i1] : List Int)).length) c9), pl 12 (.int .i64 i1)] hF hS (by kernel_rfl) (by kernel_rfl) ?_ (fun a w hF hS => ?_)
                  · exact obs_nil
                  refine at_end [1, 2, 3, 10, 11, 12] [pl 1 (.int .i64 k1), pl 2 (.int .i64 who1), pl 3 (.pointer (some ⟨g4, 0, none⟩)), pl 10 (.int .i64 best4), pl 11 (.slice A9 ((where4 ++ ([i1] : List Int)).length) c9), pl 12 (.int .i64 i1)] hF rfl (by kernel_rfl) (fun hF => ?_)
                  refine block_n ?_
                  refine then_n ?_
                  have hS := hS.pickN 3 [1, 2] (by decide)
                  exact ⟨best4, (where4 ++ ([i1] : List Int)), A9, c9, hF.weak [1, 2, 3, 10, 11, 12] (by kernel_rfl), hS, hm⟩
                · replace hm := if_f hm hb
                  refine wp_skip ?_
                  refine block_n ?_
                  refine then_n ?_
                  exact ⟨best4, where4, A8, c8, hF.weak [1, 2, 3, 10, 11, 12] (by kernel_rfl), hS, hm⟩
              · refine reg [] [] [1, 2, 3, 10, 11, 12, 14, 58] [pl 1 (.int .i64 k1), pl 2 (.int .i64 who1), pl 3 (.pointer (some ⟨g4, 0, none⟩)), pl 10 (.int .i64 best1), pl 11 (.slice A3 where1.length c3), pl 12 (.int .i64 i1), pl 14 (.int .i64 r3.1), pl 58 (.bool (decide (best1 < (w64 (0 - r3.1)))))] hF hS Fol (by kernel_rfl) (by kernel_rfl) (by kernel_rfl) ?_ (fun a w hF hS => ?_)
                · exact obs_nil
                refine cond_ev (t := 58) (b := decide (best1 < (w64 (0 - r3.1)))) hF (by kernel_rfl) (fun hb => ?_) (fun hb => ?_)
                · replace hm := if_t hm hb
                  refine reg [] [] [1, 2, 3, 10, 12, 14] [pl 1 (.int .i64 k1), pl 2 (.int .i64 who1), pl 3 (.pointer (some ⟨g4, 0, none⟩)), pl 10 (.int .i64 (w64 (0 - r3.1))), pl 12 (.int .i64 i1), pl 14 (.int .i64 r3.1)] hF hS Fol (by kernel_rfl) (by kernel_rfl) (by kernel_rfl) ?_ (fun a w hF hS => ?_)
                  · exact obs_nil
                  refine reg1 [] [] [1, 2, 3, 10, 11, 12, 14] [pl 1 (.int .i64 k1), pl 2 (.int .i64 who1), pl 3 (.pointer (some ⟨g4, 0, none⟩)), pl 10 (.int .i64 (w64 (0 - r3.1))), pl 11 (.slice none 0 0), pl 12 (.int .i64 i1), pl 14 (.int .i64 r3.1)] hF hS Fol (by kernel_rfl) (by kernel_rfl) (by kernel_rfl) ?_ (fun a w hF hS => ?_)
                  · exact obs_nil
                  refine then_n ?_
                  have hS : Sep w0 B w (own 3 (.slice none 0 0) (vI ([] : List Int)) :: own 3 (.slice A7 r3.2.length c7) (vI r3.2) :: blk g5 82 #[.int .i64 r2.1, .int .i64 r2.2.1, .slice A6 r2.2.2.length c6] :: own 3 (.slice A6 r2.2.2.length c6) (vI (r2.2.2.set (Int.toNat i1) who1)) :: blk g4 82 #[.int .i64 g1, .int .i64 g2, .slice A1 g3.length c1] :: own 3 (.slice A3 where1.length c3) (vI where1) :: fs) := hS.nil 3
                  have hl4 := (hS.at_ 0 rfl).len1
                  have hS := (hS.at_ 0 rfl).reN hl4
                  have hS : Sep w0 B w (own 3 (.slice none (([] : List Int).length) 0) (vI ([] : List Int)) :: own 3 (.slice A7 r3.2.length c7) (vI r3.2) :: blk g5 82 #[.int .i64 r2.1, .int .i64 r2.2.1, .slice A6 r2.2.2.length c6] :: own 3 (.slice A6 r2.2.2.length c6) (vI (r2.2.2.set (Int.toNat i1) who1)) :: blk g4 82 #[.int .i64 g1, .int .i64 g2, .slice A1 g3.length c1] :: own 3 (.slice A3 where1.length c3) (vI where1) :: fs) := hS
                  have hF := hF.cast (t := 11) (v := .slice none 0 0) (v' := .slice none (([] : List Int).length) 0) rfl rfl (congrArg (fun k => Value.slice none k 0) hl4)
                  have hS := hS.pickN 6 [4, 0] (by decide)
                  exact ⟨(w64 (0 - r3.1)), ([] : List Int), none, 0, hF.weak [1, 2, 3, 10, 11, 12, 14] (by kernel_rfl), hS, hm⟩
                · replace hm := if_f hm hb
                  refine wp_skip ?_
                  refine then_n ?_
                  have hS := hS.pickN 5 [3, 4] (by decide)
                  exact ⟨best1, where1, A3, c3, hF.weak [1, 2, 3, 10, 11, 12, 14] (by kernel_rfl), hS, hm⟩
            · obtain ⟨hp1, hm⟩ := asrt_b hm
              refine reg [⟨false, [], vS (Instr.loadAt 40 (.pointer (some ⟨g4, 2, none⟩))), .slice A1 g3.length c1⟩, ⟨true, [], vS (Instr.indexAt 40 (.slice A1 g3.length c1) (.int .i64 i1)), .pointer (some (sAddr A1 i1))⟩, ⟨false, [], vS (Instr.loadAt 3 (.pointer (some (sAddr A1 i1)))), .int .i64 (geti g3 i1)⟩] [none, some (.slice A1 g3.length c1), none, some (.pointer (some (sAddr A1 i1))), some (.int .i64 (geti g3 i1)), none] [1, 2, 3, 10, 11, 12, 39] [pl 1 (.int .i64 k1), pl 2 (.int .i64 who1), pl 3 (.pointer (some ⟨g4, 0, none⟩)), pl 10 (.int .i64 best1), pl 11 (.slice A3 where1.length c3), pl 12 (.int .i64 i1), pl 39 (.bool ((geti g3 i1) != 0))] hF hS Fol (by kernel_rfl) (by kernel_rfl) (by kernel_rfl) ?_ (fun a w hF hS => ?_)
              · exact obs_cons (ob_load Agg40 (fun _ _ hS => (hS.at_ 0 rfl).cell rfl)) <| obs_cons (ob_ix1 (f := (Value.int .i64)) (m := g3) Und40 hi3 hs3 (hr_g3 _ (hS.dropN 2)) rfl (fun _ => hp1)) <| obs_cons (ob_get1 (n := g3.length) (m := g3) (Value.int .i64) (0 : Int) Agg3 (fun _ hS => ⟨_, (hr_g3 _ (hS.dropN 2))⟩) (fun _ hS => rfl) (fun _ => hp1)) <| obs_nil
              refine cond_ev (t := 39) (b := ((geti g3 i1) != 0)) hF (by kernel_rfl) (fun hb => ?_) (fun hb => ?_)
              · replace hm := if_t hm hb
                refine wp_exit ?_
                refine then_e (block_e (then_n ?_))
                exact ⟨best1, where1, A3, c3, hF.weak [1, 2, 3, 10, 11, 12] (by kernel_rfl), hS, hm⟩
              · replace hm := if_f hm hb
                refine wp_skip ?_
                refine then_n ?_
                exact ⟨hF.weak [1, 2, 3, 10, 11, 12] (by kernel_rfl), hS, hm⟩
        · refine reg [⟨false, [], vS (Instr.loadAt 40 (.pointer (some ⟨g4, 2, none⟩))), .slice A1 g3.length c1⟩] [none, none, some (.slice A1 g3.length c1), none, none] [1, 2, 3, 10, 11, 12, 31] [pl 1 (.int .i64 k1), pl 2 (.int .i64 who1), pl 3 (.pointer (some ⟨g4, 0, none⟩)), pl 10 (.int .i64 best1), pl 11 (.slice A3 where1.length c3), pl 12 (.int .i64 i1), pl 31 (.bool (decide (i1 < (g3.length : Int))))] hF hS Fol (by kernel_rfl) (by kernel_rfl) (by kernel_rfl) ?_ (fun a w hF hS => ?_)
          · exact obs_cons (ob_load Agg40 (fun _ _ hS => (hS.at_ 0 rfl).cell rfl)) <| obs_nil
          refine cond_ev (t := 31) (b := decide (i1 < (g3.length : Int))) hF (by kernel_rfl) (fun hb => ?_) (fun hb => ?_)
          · replace hm := if_t hm hb
            refine wp_skip ?_
            refine then_n ?_
            exact ⟨hF.weak [1, 2, 3, 10, 11, 12] (by kernel_rfl), hS, hm⟩
          · replace hm := if_f hm hb
            refine wp_exit ?_
            refine then_e (then_e (block_e (then_n ?_)))
            have hS := hS.pickN 2 [1] (by decide)
            rw [← hφ1] at hm
            replace hm := done_b hm
            unfold gameroomref_SolveGrid_K1 at hm
            try dsimp only at hm
            have hm : (gameroomref_SolveGrid_J3 best1 where1).bind some = some r := hm
            exact ⟨best1, where1, A3, c3, hF.weak [10, 11] (by kernel_rfl), hS, hm⟩
    · refine reg [] [] [1, 2, 3, 26] [pl 1 (.int .i64 k1), pl 2 (.int .i64 who1), pl 3 (.pointer (some ⟨g4, 0, none⟩)), pl 26 (.bool (decide ((0 : Int) < r1.1)))] hF hS Fol (by kernel_rfl) (by kernel_rfl) (by kernel_rfl) ?_ (fun a w hF hS => ?_)
      · exact obs_nil
      refine cond_ev (t := 26) (b := decide ((0 : Int) < r1.1)) hF (by kernel_rfl) (fun hb => ?_) (fun hb => ?_)
      · replace hm := if_t hm hb
        refine reg [] [] [6, 7] [pl 6 (.int .i64 (-1)), pl 7 (.slice none 0 0)] hF hS Fol (by kernel_rfl) (by kernel_rfl) (by kernel_rfl) ?_ (fun a w hF hS => ?_)
        · exact obs_nil
        refine wp_ret ?_
        refine then_r ?_
        have hS : Sep w0 B w (own 3 (.slice none 0 0) (vI ([] : List Int)) :: blk g4 82 #[.int .i64 g1, .int .i64 g2, .slice A1 g3.length c1] :: fs) := hS.nil 3
        have hl2 := (hS.at_ 0 rfl).len1
        have hS := (hS.at_ 0 rfl).reN hl2
        have hS : Sep w0 B w (own 3 (.slice none (([] : List Int).length) 0) (vI ([] : List Int)) :: blk g4 82 #[.int .i64 g1, .int .i64 g2, .slice A1 g3.length c1] :: fs) := hS
        have hS := hS.pickN 2 [0] (by decide)
        have hm : some ((-1), ([] : List Int)) = some r := hm
        obtain rfl := Option.some.inj hm
        exact retV (rs := [.tmp 6, .tmp 7]) (vs := [.int .i64 (-1), .slice none (([] : List Int).length) 0]) hF rfl (rv_t (by kernel_rfl) <| rv_t (by kernel_rfl) <| rv_nil) rfl ⟨_, rfl, none, 0, rfl, hS⟩
      · replace hm := if_f hm hb
        refine wp_skip ?_
        refine then_n ?_
        exact ⟨hF.weak [1, 2, 3] (by kernel_rfl), hS, hm⟩
  · refine reg [] [] [1, 2, 3, 8, 24] [pl 1 (.int .i64 k1), pl 2 (.int .i64 who1), pl 3 (.pointer (some ⟨g4, 0, none⟩)), pl 8 (.int .i64 r1.1), pl 24 (.bool (r1.1 == who1))] hF hS Fol (by kernel_rfl) (by kernel_rfl) (by kernel_rfl) ?_ (fun a w hF hS => ?_)
    · exact obs_nil
    refine cond_ev (t := 24) (b := (r1.1 == who1)) hF (by kernel_rfl) (fun hb => ?_) (fun hb => ?_)
    · replace hm := if_t hm hb
      refine reg [] [] [6, 7] [pl 6 (.int .i64 1), pl 7 (.slice none 0 0)] hF hS Fol (by kernel_rfl) (by kernel_rfl) (by kernel_rfl) ?_ (fun a w hF hS => ?_)
      · exact obs_nil
      refine wp_ret ?_
      refine then_r ?_
      have hS : Sep w0 B w (own 3 (.slice none 0 0) (vI ([] : List Int)) :: own 3 (.slice A2 r1.2.length c2) (vI r1.2) :: blk g4 82 #[.int .i64 g1, .int .i64 g2, .slice A1 g3.length c1] :: fs) := hS.nil 3
      have hl1 := (hS.at_ 0 rfl).len1
      have hS := (hS.at_ 0 rfl).reN hl1
      have hS : Sep w0 B w (own 3 (.slice none (([] : List Int).length) 0) (vI ([] : List Int)) :: own 3 (.slice A2 r1.2.length c2) (vI r1.2) :: blk g4 82 #[.int .i64 g1, .int .i64 g2, .slice A1 g3.length c1] :: fs) := hS
      have hS := hS.pickN 3 [0] (by decide)
      have hm : some (1, ([] : List Int)) = some r := hm
      obtain rfl := Option.some.inj hm
      exact retV (rs := [.tmp 6, .tmp 7]) (vs := [.int .i64 1, .slice none (([] : List Int).length) 0]) hF rfl (rv_t (by kernel_rfl) <| rv_t (by kernel_rfl) <| rv_nil) rfl ⟨_, rfl, none, 0, rfl, hS⟩
    · replace hm := if_f hm hb
      refine wp_skip ?_
      refine then_n ?_
      have hS := hS.pickN 2 [1] (by decide)
      exact ⟨hF.weak [1, 2, 3, 8] (by kernel_rfl), hS, hm⟩

theorem gameroomref_SolveGrid_w {g1 : Int} {g2 : Int} {A1 : Option Addr} {c1 : Nat} {n1 : Nat} {g3 : List Int} {k1 : Int} {who1 : Int} {r : (Int × List Int)} {w0 w : World} {B : Nat} {fs : List HP} (hm : gameroomref_SolveGrid_m g1 g2 g3 k1 who1 = some r) (hS : Sep w0 B w (fs)) (hr_g3 : RdF w0 B fs A1 (vI g3)) (_hc_g3 : g3.length ≤ c1) (_hn_g3 : n1 = g3.length) :
    Calls Try.prog 64 #[.agg #[.int .i64 g1, .int .i64 g2, .slice A1 n1 c1], .int .i64 k1, .int .i64 who1] w fun e w' => ∃ v, e = .returned v ∧ ∃ (A10 : Option Addr) (c10 : Nat), v = .tuple #[.int .i64 r.1, .slice A10 r.2.length c10] ∧ Sep w0 B w' (own 3 (.slice A10 r.2.length c10) (vI r.2) :: fs) := by
  have key : ∀ (n : Nat) {g1 : Int} {g2 : Int} {A1 : Option Addr} {c1 : Nat} {n1 : Nat} {g3 : List Int} {k1 : Int} {who1 : Int} {r : (Int × List Int)} {w0 w : World} {B : Nat} {fs : List HP} (_ : gameroomref_SolveGrid_mF n g1 g2 g3 k1 who1 = some r) (_ : Sep w0 B w (fs)) (hr_g3 : RdF w0 B fs A1 (vI g3)) (_hc_g3 : g3.length ≤ c1) (_hn_g3 : n1 = g3.length), Calls Try.prog 64 #[.agg #[.int .i64 g1, .int .i64 g2, .slice A1 n1 c1], .int .i64 k1, .int .i64 who1] w fun e w' => ∃ v, e = .returned v ∧ ∃ (A10 : Option Addr) (c10 : Nat), v = .tuple #[.int .i64 r.1, .slice A10 r.2.length c10] ∧ Sep w0 B w' (own 3 (.slice A10 r.2.length c10) (vI r.2) :: fs) := by
    intro n
    induction n with
    | zero => intros; rename_i hm0 _ _ _ _; cases hm0
    | succ n ih => intros; rename_i hm0 hS0 h0 h1 h2; exact gameroomref_SolveGrid_wB (rec_gameroomref_SolveGrid := gameroomref_SolveGrid_mF n) (fun hm hS h0 h1 h2 => ih hm hS h0 h1 h2) hm0 hS0 h0 h1 h2
  obtain ⟨n, hn⟩ := recM_some hm
  exact key n hn hS hr_g3 _hc_g3 _hn_g3

theorem gameroomref_SolveGrid_J6_le_gameroomref_SolveGrid {rec_gameroomref_SolveGrid1 rec_gameroomref_SolveGrid2 : Int → Int → List Int → Int → Int → Option (Int × List Int)} (h_rec_gameroomref_SolveGrid : ∀ a0 a1 a2 a3 a4, Le (rec_gameroomref_SolveGrid1 a0 a1 a2 a3 a4) (rec_gameroomref_SolveGrid2 a0 a1 a2 a3 a4)) (g1 : Int) (g2 : Int) (g3 : List Int) (k1 : Int) (who1 : Int) (best1 : Int) (where1 : List Int) (i1 : Int) : Le (gameroomref_SolveGrid_J6 rec_gameroomref_SolveGrid1 g1 g2 g3 k1 who1 best1 where1 i1) (gameroomref_SolveGrid_J6 rec_gameroomref_SolveGrid2 g1 g2 g3 k1 who1 best1 where1 i1) := by
  unfold gameroomref_SolveGrid_J6
  repeat' (first | with_reducible exact Le.refl _ | with_reducible exact h_rec_gameroomref_SolveGrid _ _ _ _ _ | refine Le.asrt ?_ | refine Le.ite ?_ ?_ | refine Le.bind ?_ (fun _ => ?_) | refine Le.loop2 (fun _ => ?_) | refine Le.elim2 (fun _ => ?_) (fun _ => ?_))

theorem gameroomref_SolveGrid_J4_le_gameroomref_SolveGrid {rec_gameroomref_SolveGrid1 rec_gameroomref_SolveGrid2 : Int → Int → List Int → Int → Int → Option (Int × List Int)} (h_rec_gameroomref_SolveGrid : ∀ a0 a1 a2 a3 a4, Le (rec_gameroomref_SolveGrid1 a0 a1 a2 a3 a4) (rec_gameroomref_SolveGrid2 a0 a1 a2 a3 a4)) (g1 : Int) (g2 : Int) (g3 : List Int) (k1 : Int) (who1 : Int) (best1 : Int) (where1 : List Int) (i1 : Int) : Le (gameroomref_SolveGrid_J4 rec_gameroomref_SolveGrid1 g1 g2 g3 k1 who1 best1 where1 i1) (gameroomref_SolveGrid_J4 rec_gameroomref_SolveGrid2 g1 g2 g3 k1 who1 best1 where1 i1) := by
  unfold gameroomref_SolveGrid_J4
  repeat' (first | with_reducible exact Le.refl _ | with_reducible exact h_rec_gameroomref_SolveGrid _ _ _ _ _ | with_reducible exact gameroomref_SolveGrid_J6_le_gameroomref_SolveGrid h_rec_gameroomref_SolveGrid _ _ _ _ _ _ _ _ | refine Le.asrt ?_ | refine Le.ite ?_ ?_ | refine Le.bind ?_ (fun _ => ?_) | refine Le.loop2 (fun _ => ?_) | refine Le.elim2 (fun _ => ?_) (fun _ => ?_))

theorem gameroomref_SolveGrid_L1_le_gameroomref_SolveGrid {rec_gameroomref_SolveGrid1 rec_gameroomref_SolveGrid2 : Int → Int → List Int → Int → Int → Option (Int × List Int)} (h_rec_gameroomref_SolveGrid : ∀ a0 a1 a2 a3 a4, Le (rec_gameroomref_SolveGrid1 a0 a1 a2 a3 a4) (rec_gameroomref_SolveGrid2 a0 a1 a2 a3 a4)) (g1 : Int) (g2 : Int) (g3 : List Int) (k1 : Int) (who1 : Int) (x : (Int × List Int × Int)) : Le (gameroomref_SolveGrid_L1 rec_gameroomref_SolveGrid1 g1 g2 g3 k1 who1 x) (gameroomref_SolveGrid_L1 rec_gameroomref_SolveGrid2 g1 g2 g3 k1 who1 x) := by
  rcases x with ⟨best1, where1, i1⟩
  all_goals
    unfold gameroomref_SolveGrid_L1
    try dsimp only
    repeat' (first | with_reducible exact Le.refl _ | with_reducible exact h_rec_gameroomref_SolveGrid _ _ _ _ _ | with_reducible exact gameroomref_SolveGrid_J4_le_gameroomref_SolveGrid h_rec_gameroomref_SolveGrid _ _ _ _ _ _ _ _ | refine Le.asrt ?_ | refine Le.ite ?_ ?_ | refine Le.bind ?_ (fun _ => ?_) | refine Le.loop2 (fun _ => ?_) | refine Le.elim2 (fun _ => ?_) (fun _ => ?_))

theorem gameroomref_SolveGrid_J2_le_gameroomref_SolveGrid {rec_gameroomref_SolveGrid1 rec_gameroomref_SolveGrid2 : Int → Int → List Int → Int → Int → Option (Int × List Int)} (h_rec_gameroomref_SolveGrid : ∀ a0 a1 a2 a3 a4, Le (rec_gameroomref_SolveGrid1 a0 a1 a2 a3 a4) (rec_gameroomref_SolveGrid2 a0 a1 a2 a3 a4)) (g1 : Int) (g2 : Int) (g3 : List Int) (k1 : Int) (who1 : Int) : Le (gameroomref_SolveGrid_J2 rec_gameroomref_SolveGrid1 g1 g2 g3 k1 who1) (gameroomref_SolveGrid_J2 rec_gameroomref_SolveGrid2 g1 g2 g3 k1 who1) := by
  unfold gameroomref_SolveGrid_J2
  repeat' (first | with_reducible exact Le.refl _ | with_reducible exact h_rec_gameroomref_SolveGrid _ _ _ _ _ | with_reducible exact gameroomref_SolveGrid_L1_le_gameroomref_SolveGrid h_rec_gameroomref_SolveGrid _ _ _ _ _ _ | refine Le.asrt ?_ | refine Le.ite ?_ ?_ | refine Le.bind ?_ (fun _ => ?_) | refine Le.loop2 (fun _ => ?_) | refine Le.elim2 (fun _ => ?_) (fun _ => ?_))

theorem gameroomref_SolveGrid_J1_le_gameroomref_SolveGrid {rec_gameroomref_SolveGrid1 rec_gameroomref_SolveGrid2 : Int → Int → List Int → Int → Int → Option (Int × List Int)} (h_rec_gameroomref_SolveGrid : ∀ a0 a1 a2 a3 a4, Le (rec_gameroomref_SolveGrid1 a0 a1 a2 a3 a4) (rec_gameroomref_SolveGrid2 a0 a1 a2 a3 a4)) (g1 : Int) (g2 : Int) (g3 : List Int) (k1 : Int) (who1 : Int) (r1 : (Int × List Int)) : Le (gameroomref_SolveGrid_J1 rec_gameroomref_SolveGrid1 g1 g2 g3 k1 who1 r1) (gameroomref_SolveGrid_J1 rec_gameroomref_SolveGrid2 g1 g2 g3 k1 who1 r1) := by
  unfold gameroomref_SolveGrid_J1
  repeat' (first | with_reducible exact Le.refl _ | with_reducible exact h_rec_gameroomref_SolveGrid _ _ _ _ _ | with_reducible exact gameroomref_SolveGrid_J2_le_gameroomref_SolveGrid h_rec_gameroomref_SolveGrid _ _ _ _ _ | refine Le.asrt ?_ | refine Le.ite ?_ ?_ | refine Le.bind ?_ (fun _ => ?_) | refine Le.loop2 (fun _ => ?_) | refine Le.elim2 (fun _ => ?_) (fun _ => ?_))

theorem gameroomref_SolveGrid_B_le {rec_gameroomref_SolveGrid1 rec_gameroomref_SolveGrid2 : Int → Int → List Int → Int → Int → Option (Int × List Int)} (h_rec_gameroomref_SolveGrid : ∀ a0 a1 a2 a3 a4, Le (rec_gameroomref_SolveGrid1 a0 a1 a2 a3 a4) (rec_gameroomref_SolveGrid2 a0 a1 a2 a3 a4)) (g1 : Int) (g2 : Int) (g3 : List Int) (k1 : Int) (who1 : Int) : Le (gameroomref_SolveGrid_B rec_gameroomref_SolveGrid1 g1 g2 g3 k1 who1) (gameroomref_SolveGrid_B rec_gameroomref_SolveGrid2 g1 g2 g3 k1 who1) := by
  unfold gameroomref_SolveGrid_B
  repeat' (first | with_reducible exact Le.refl _ | with_reducible exact h_rec_gameroomref_SolveGrid _ _ _ _ _ | with_reducible exact gameroomref_SolveGrid_J1_le_gameroomref_SolveGrid h_rec_gameroomref_SolveGrid _ _ _ _ _ _ | refine Le.asrt ?_ | refine Le.ite ?_ ?_ | refine Le.bind ?_ (fun _ => ?_) | refine Le.loop2 (fun _ => ?_) | refine Le.elim2 (fun _ => ?_) (fun _ => ?_))

theorem gameroomref_SolveGrid_mF_le : ∀ (n : Nat) (g1 : Int) (g2 : Int) (g3 : List Int) (k1 : Int) (who1 : Int), Le (gameroomref_SolveGrid_mF n g1 g2 g3 k1 who1) (gameroomref_SolveGrid_mF (n + 1) g1 g2 g3 k1 who1)
  | 0, _, _, _, _, _ => fun _ h => by cases h
  | n + 1, _, _, _, _, _ => gameroomref_SolveGrid_B_le (fun a0 a1 a2 a3 a4 => gameroomref_SolveGrid_mF_le n a0 a1 a2 a3 a4) _ _ _ _ _

theorem gameroomref_SolveGrid_m_of (N : Nat) (g1 : Int) (g2 : Int) (g3 : List Int) (k1 : Int) (who1 : Int) {r : (Int × List Int)} (h : gameroomref_SolveGrid_mF N g1 g2 g3 k1 who1 = some r) : gameroomref_SolveGrid_m g1 g2 g3 k1 who1 = some r :=
  recM_mono (fun n => gameroomref_SolveGrid_mF_le n _ _ _ _ _) h

noncomputable def gameroomlaw_sameInts_J4 (i1 : Int) : Option (St Int (Fl Unit Bool)) :=
  some (.next (w64 (i1 + 1)))

noncomputable def gameroomlaw_sameInts_J3 (a1 : List Int) (b1 : List Int) (i1 : Int) : Option (St Int (Fl Unit Bool)) :=
  asrt (0 ≤ i1 ∧ i1 < (a1.length : Int)) <| asrt (0 ≤ i1 ∧ i1 < (b1.length : Int)) <| if ((geti a1 i1) != (geti b1 i1)) then (some (.done (.ret false))) else ((gameroomlaw_sameInts_J4 i1))

noncomputable def gameroomlaw_sameInts_J2 : Option Bool :=
  some true

noncomputable def gameroomlaw_sameInts_K1 : (Fl Unit Bool) → Option Bool :=
  fun (x : (Fl Unit Bool)) => match x with | .go _ => gameroomlaw_sameInts_J2 | .ret x => some x

noncomputable def gameroomlaw_sameInts_L1 (a1 : List Int) (b1 : List Int) : Int → Option (St Int (Fl Unit Bool)) :=
  fun (x : Int) => match x with | i1 => if (decide (i1 < (a1.length : Int))) then ((gameroomlaw_sameInts_J3 a1 b1 i1)) else (some (.done (.go ())))

noncomputable def gameroomlaw_sameInts_J1 (a1 : List Int) (b1 : List Int) : Option Bool :=
  (loop (gameroomlaw_sameInts_L1 a1 b1) 0).bind gameroomlaw_sameInts_K1

noncomputable def gameroomlaw_sameInts_m (a1 : List Int) (b1 : List Int) : Option Bool :=
  if ((a1.length : Int) != (b1.length : Int)) then (some false) else ((gameroomlaw_sameInts_J1 a1 b1))

set_option maxRecDepth 100000 in
set_option maxHeartbeats 4000000 in
theorem gameroomlaw_sameInts_w {A1 : Option Addr} {c1 : Nat} {n1 : Nat} {a1 : List Int} {A2 : Option Addr} {c2 : Nat} {n2 : Nat} {b1 : List Int} {r : Bool} {w0 w : World} {B : Nat} {fs : List HP} (hm : gameroomlaw_sameInts_m a1 b1 = some r) (hS : Sep w0 B w (fs)) (hr_a1 : RdF w0 B fs A1 (vI a1)) (_hc_a1 : a1.length ≤ c1) (_hn_a1 : n1 = a1.length) (hr_b1 : RdF w0 B fs A2 (vI b1)) (_hc_b1 : b1.length ≤ c2) (_hn_b1 : n2 = b1.length) :
    Calls Try.prog 36 #[.slice A1 n1 c1, .slice A2 n2 c2] w fun e w' => e = .returned (.bool r) ∧ Sep w0 B w' (fs) := by
  obtain ⟨i3, hi3, hz3, hs3, hb3⟩ := info_parts Info3
  obtain rfl := _hn_a1
  obtain rfl := _hn_b1
  unfold gameroomlaw_sameInts_m at hm
  replace hm := start_b hm
  refine enter (l := [.slice A1 a1.length c1, .slice A2 b1.length c2]) (n := 26) Try.func36 rfl rfl (by simp) (fun a hF => ?_)
  refine reg [] [] [0, 1] [pl 0 (.slice A1 a1.length c1), pl 1 (.slice A2 b1.length c2)] hF hS Fol (by kernel_rfl) (by kernel_rfl) (by kernel_rfl) ?_ (fun a w hF hS => ?_)
  · exact obs_nil
  refine seq_cut (fun a w => Fr 26 [pl 0 (.slice A1 a1.length c1), pl 1 (.slice A2 b1.length c2)] a ∧ Sep w0 B w (fs) ∧ ((gameroomlaw_sameInts_J1 a1 b1)).bind some = some r) ?_ ?_
  · rintro a w ⟨hF, hS, hm⟩
    unfold gameroomlaw_sameInts_J1 at hm
    refine seq_cut (fun a w => Fr 26 [] a ∧ Sep w0 B w (fs) ∧ (gameroomlaw_sameInts_J2).bind some = some r) ?_ ?_
    · rintro a w ⟨hF, hS, hm⟩
      unfold gameroomlaw_sameInts_J2 at hm
      refine reg [] [] [4] [pl 4 (.bool true)] hF hS Fol (by kernel_rfl) (by kernel_rfl) (by kernel_rfl) ?_ (fun a w hF hS => ?_)
      · exact obs_nil
      refine wp_ret ?_
      have hm : some true = some r := hm
      obtain rfl := Option.some.inj hm
      exact retV (rs := [.tmp 4]) (vs := [.bool true]) hF rfl (rv_t (by kernel_rfl) <| rv_nil) rfl ⟨rfl, hS⟩
    · refine reg [] [] [0, 1, 5] [pl 0 (.slice A1 a1.length c1), pl 1 (.slice A2 b1.length c2), pl 5 (.int .i64 0)] hF hS Fol (by kernel_rfl) (by kernel_rfl) (by kernel_rfl) ?_ (fun a w hF hS => ?_)
      · exact obs_nil
      refine wp_block ?_
      refine wp_loop_model (S := Int) (R := (Fl Unit Bool)) (gameroomlaw_sameInts_L1 a1 b1) (fun x => (gameroomlaw_sameInts_K1 x).bind some) r (fun (x : Int) a w => Fr 26 [pl 0 (.slice A1 a1.length c1), pl 1 (.slice A2 b1.length c2), pl 5 (.int .i64 x)] a ∧ Sep w0 B w (fs)) (assoc_b hm) ⟨hF.weak [0, 1, 5] (by kernel_rfl), hS⟩ ?_
      clear hF hS hm
      rintro nn1 i1 a w ⟨hF, hS⟩ hm
      generalize hφ1 : stK (gameroomlaw_sameInts_L1 a1 b1) nn1 (fun x => (gameroomlaw_sameInts_K1 x).bind some) = φ1 at hm
      unfold gameroomlaw_sameInts_L1 at hm
      dsimp only at hm
      refine seq_cut (fun a w => Fr 26 [pl 0 (.slice A1 a1.length c1), pl 1 (.slice A2 b1.length c2), pl 5 (.int .i64 i1)] a ∧ Sep w0 B w (fs) ∧ ((gameroomlaw_sameInts_J3 a1 b1 i1)).bind φ1 = some r) ?_ ?_
      · rintro a w ⟨hF, hS, hm⟩
        unfold gameroomlaw_sameInts_J3 at hm
        refine seq_cut (fun a w => Fr 26 [pl 0 (.slice A1 a1.length c1), pl 1 (.slice A2 b1.length c2), pl 5 (.int .i64 i1)] a ∧ Sep w0 B w (fs) ∧ ((gameroomlaw_sameInts_J4 i1)).bind φ1 = some r) ?_ ?_
        · rintro a w ⟨hF, hS, hm⟩
          unfold gameroomlaw_sameInts_J4 at hm
          refine reg1 [] [] [0, 1, 5] [pl 0 (.slice A1 a1.length c1), pl 1 (.slice A2 b1.length c2), pl 5 (.int .i64 (w64 (i1 + 1)))] hF hS Fol (by kernel_rfl) (by kernel_rfl) (by kernel_rfl) ?_ (fun a w hF hS => ?_)
          · exact obs_nil
          refine then_n ?_
          rw [← hφ1] at hm
          exact ⟨(w64 (i1 + 1)), ⟨hF.weak [0, 1, 5] (by kernel_rfl), hS⟩, hm⟩
        · refine wp_block ?_
          obtain ⟨hp1, hm⟩ := asrt_b hm
          obtain ⟨hp2, hm⟩ := asrt_b hm
          refine reg [⟨true, [], vS (Instr.indexAt 40 (.slice A1 a1.length c1) (.int .i64 i1)), .pointer (some (sAddr A1 i1))⟩, ⟨false, [], vS (Instr.loadAt 3 (.pointer (some (sAddr A1 i1)))), .int .i64 (geti a1 i1)⟩, ⟨true, [], vS (Instr.indexAt 40 (.slice A2 b1.length c2) (.int .i64 i1)), .pointer (some (sAddr A2 i1))⟩, ⟨false, [], vS (Instr.loadAt 3 (.pointer (some (sAddr A2 i1)))), .int .i64 (geti b1 i1)⟩] [none, none, some (.pointer (some (sAddr A1 i1))), some (.int .i64 (geti a1 i1)), none, none, some (.pointer (some (sAddr A2 i1))), some (.int .i64 (geti b1 i1)), none] [0, 1, 5, 25] [pl 0 (.slice A1 a1.length c1), pl 1 (.slice A2 b1.length c2), pl 5 (.int .i64 i1), pl 25 (.bool ((geti a1 i1) != (geti b1 i1)))] hF hS Fol (by kernel_rfl) (by kernel_rfl) (by kernel_rfl) ?_ (fun a w hF hS => ?_)
          · exact obs_cons (ob_ix1 (f := (Value.int .i64)) (m := a1) Und40 hi3 hs3 (hr_a1 _ (hS.dropN 0)) rfl (fun _ => hp1)) <| obs_cons (ob_get1 (n := a1.length) (m := a1) (Value.int .i64) (0 : Int) Agg3 (fun _ hS => ⟨_, (hr_a1 _ (hS.dropN 0))⟩) (fun _ hS => rfl) (fun _ => hp1)) <| obs_cons (ob_ix1 (f := (Value.int .i64)) (m := b1) Und40 hi3 hs3 (hr_b1 _ (hS.dropN 0)) rfl (fun _ => hp2)) <| obs_cons (ob_get1 (n := b1.length) (m := b1) (Value.int .i64) (0 : Int) Agg3 (fun _ hS => ⟨_, (hr_b1 _ (hS.dropN 0))⟩) (fun _ hS => rfl) (fun _ => hp2)) <| obs_nil
          refine cond_ev (t := 25) (b := ((geti a1 i1) != (geti b1 i1))) hF (by kernel_rfl) (fun hb => ?_) (fun hb => ?_)
          · replace hm := if_t hm hb
            refine reg [] [] [4] [pl 4 (.bool false)] hF hS Fol (by kernel_rfl) (by kernel_rfl) (by kernel_rfl) ?_ (fun a w hF hS => ?_)
            · exact obs_nil
            refine wp_ret ?_
            refine block_r (then_r (then_r (block_r (then_r ?_))))
            rw [← hφ1] at hm
            replace hm := done_b hm
            unfold gameroomlaw_sameInts_K1 at hm
            try dsimp only at hm
            have hm : some false = some r := hm
            obtain rfl := Option.some.inj hm
            exact retV (rs := [.tmp 4]) (vs := [.bool false]) hF rfl (rv_t (by kernel_rfl) <| rv_nil) rfl ⟨rfl, hS⟩
          · replace hm := if_f hm hb
            refine wp_skip ?_
            refine block_n ?_
            refine then_n ?_
            exact ⟨hF.weak [0, 1, 5] (by kernel_rfl), hS, hm⟩
      · refine reg [] [] [0, 1, 5, 14] [pl 0 (.slice A1 a1.length c1), pl 1 (.slice A2 b1.length c2), pl 5 (.int .i64 i1), pl 14 (.bool (decide (i1 < (a1.length : Int))))] hF hS Fol (by kernel_rfl) (by kernel_rfl) (by kernel_rfl) ?_ (fun a w hF hS => ?_)
        · exact obs_nil
        refine cond_ev (t := 14) (b := decide (i1 < (a1.length : Int))) hF (by kernel_rfl) (fun hb => ?_) (fun hb => ?_)
        · replace hm := if_t hm hb
          refine wp_skip ?_
          refine then_n ?_
          exact ⟨hF.weak [0, 1, 5] (by kernel_rfl), hS, hm⟩
        · replace hm := if_f hm hb
          refine wp_exit ?_
          refine then_e (then_e (block_e (then_n ?_)))
          rw [← hφ1] at hm
          replace hm := done_b hm
          unfold gameroomlaw_sameInts_K1 at hm
          try dsimp only at hm
          have hm : (gameroomlaw_sameInts_J2).bind some = some r := hm
          exact ⟨hF.weak [] (by kernel_rfl), hS, hm⟩
  · refine reg [] [] [0, 1, 10] [pl 0 (.slice A1 a1.length c1), pl 1 (.slice A2 b1.length c2), pl 10 (.bool ((a1.length : Int) != (b1.length : Int)))] hF hS Fol (by kernel_rfl) (by kernel_rfl) (by kernel_rfl) ?_ (fun a w hF hS => ?_)
    · exact obs_nil
    refine cond_ev (t := 10) (b := ((a1.length : Int) != (b1.length : Int))) hF (by kernel_rfl) (fun hb => ?_) (fun hb => ?_)
    · replace hm := if_t hm hb
      refine reg [] [] [4] [pl 4 (.bool false)] hF hS Fol (by kernel_rfl) (by kernel_rfl) (by kernel_rfl) ?_ (fun a w hF hS => ?_)
      · exact obs_nil
      refine wp_ret ?_
      refine then_r ?_
      have hm : some false = some r := hm
      obtain rfl := Option.some.inj hm
      exact retV (rs := [.tmp 4]) (vs := [.bool false]) hF rfl (rv_t (by kernel_rfl) <| rv_nil) rfl ⟨rfl, hS⟩
    · replace hm := if_f hm hb
      refine wp_skip ?_
      refine then_n ?_
      exact ⟨hF.weak [0, 1] (by kernel_rfl), hS, hm⟩

noncomputable def gameroomlaw_RowsSolves_J3 (r2 : (Int × List Int × Int)) (m1 : Int) (x1 : List Int) : Option Bool :=
  ((if ((r2.2.2 == 0) && (r2.1 == m1)) then gameroomlaw_sameInts_m r2.2.1 x1 else some false)).bind fun r8 => some (((r2.2.2 == 0) && (r2.1 == m1)) && r8)

noncomputable def gameroomlaw_RowsSolves_J2 (g1 : Int) (g2 : Int) (g3 : List Int) (k1 : Int) (r2 : (Int × List Int × Int)) : Option Bool :=
  (gameroomref_GridMover_m g1 g2 g3).bind fun r6 => (gameroomref_SolveGrid_m g1 g2 g3 k1 r6).bind fun r7 => (gameroomlaw_RowsSolves_J3 r2) r7.1 r7.2

noncomputable def gameroomlaw_RowsSolves_J1 (g1 : Int) (g2 : Int) (g3 : List Int) (k1 : Int) (r2 : (Int × List Int × Int)) (no1 : Int) : Option Bool :=
  if (no1 != 0) then (some (((r2.2.2 == no1) && (r2.1 == 0)) && ((r2.2.1.length : Int) == 0))) else ((gameroomlaw_RowsSolves_J2 g1 g2 g3 k1 r2))

noncomputable def gameroomlaw_RowsSolves_m (g1 : Int) (g2 : Int) (g3 : List Int) (k1 : Int) : Option Bool :=
  (gameroomref_GridOf_m g1 g2 g3).bind fun r1 => (rows_Solve_m r1.1 r1.2.1 r1.2.2 k1).bind fun r2 => (gameroomref_GridMay_m g1 g2 g3).bind fun r3 => if (!r3) then ((gameroomlaw_RowsSolves_J1 g1 g2 g3 k1 r2) 12) else (if ((decide (k1 < 1)) || (decide ((10 : Int) < k1))) then ((gameroomlaw_RowsSolves_J1 g1 g2 g3 k1 r2) 3) else ((gameroomref_GridMover_m g1 g2 g3).bind fun r4 => if (r4 == 0) then ((gameroomlaw_RowsSolves_J1 g1 g2 g3 k1 r2) 7) else ((gameroomref_OpenPlaces_m g1 g2 g3).bind fun r5 => if (decide ((9 : Int) < r5)) then ((gameroomlaw_RowsSolves_J1 g1 g2 g3 k1 r2) 2) else ((gameroomlaw_RowsSolves_J1 g1 g2 g3 k1 r2) 0))))

set_option maxRecDepth 100000 in
set_option maxHeartbeats 4000000 in
theorem gameroomlaw_RowsSolves_w {g1 : Int} {g2 : Int} {A1 : Option Addr} {c1 : Nat} {n1 : Nat} {g3 : List Int} {k1 : Int} {r : Bool} {w0 w : World} {B : Nat} {fs : List HP} (hm : gameroomlaw_RowsSolves_m g1 g2 g3 k1 = some r) (hS : Sep w0 B w (fs)) (hr_g3 : RdF w0 B fs A1 (vI g3)) (_hc_g3 : g3.length ≤ c1) (_hn_g3 : n1 = g3.length) :
    Calls Try.prog 11 #[.agg #[.int .i64 g1, .int .i64 g2, .slice A1 n1 c1], .int .i64 k1] w fun e w' => e = .returned (.bool r) ∧ Sep w0 B w' (fs) := by
  obtain ⟨i3, hi3, hz3, hs3, hb3⟩ := info_parts Info3
  obtain rfl := _hn_g3
  unfold gameroomlaw_RowsSolves_m at hm
  replace hm := start_b hm
  refine enter (l := [.agg #[.int .i64 g1, .int .i64 g2, .slice A1 g3.length c1], .int .i64 k1]) (n := 68) Try.func11 rfl rfl (by simp) (fun a hF => ?_)
  refine seqR ?_
  refine at_do (d := 2) (s := vS (Instr.box 82 (.agg #[.int .i64 g1, .int .i64 g2, .slice A1 g3.length c1]))) (v := .pointer (some ⟨w.heap.size, 0, none⟩)) (w' := w.alloc (.cells #[.int .i64 g1, .int .i64 g2, .slice A1 g3.length c1] 82)) hF (by kernel_rfl) (by kernel_rfl) (by kernel_rfl) (fun a hF => ?_)
  have hS : Sep w0 B (w.alloc (.cells #[.int .i64 g1, .int .i64 g2, .slice A1 g3.length c1] 82)) (blk w.heap.size 82 #[.int .i64 g1, .int .i64 g2, .slice A1 g3.length c1] :: (fs)) := hS.box 82 #[.int .i64 g1, .int .i64 g2, .slice A1 g3.length c1]
  generalize w.heap.size = g4 at hF hS
  generalize w.alloc (.cells #[.int .i64 g1, .int .i64 g2, .slice A1 g3.length c1] 82) = w at hS ⊢
  refine at_run 1 [] [] [1, 2] [pl 1 (.int .i64 k1), pl 2 (.pointer (some ⟨g4, 0, none⟩))] hF hS (by kernel_rfl) (by kernel_rfl) ?_ (fun a w hF hS => ?_)
  · exact obs_nil
  refine at_end [1, 2] [pl 1 (.int .i64 k1), pl 2 (.pointer (some ⟨g4, 0, none⟩))] hF rfl (by kernel_rfl) (fun hF => ?_)
  refine then_n ?_
  refine seqR ?_
  obtain ⟨r1, hr1, hm⟩ := call_b hm
  obtain ⟨r2, hr2, hm⟩ := call_b hm
  refine at_run 1 [⟨false, [], vS (Instr.loadAt 82 (.pointer (some ⟨g4, 0, none⟩))), .agg #[.int .i64 g1, .int .i64 g2, .slice A1 g3.length c1]⟩] [some (.agg #[.int .i64 g1, .int .i64 g2, .slice A1 g3.length c1])] [1, 2, 12] [pl 1 (.int .i64 k1), pl 2 (.pointer (some ⟨g4, 0, none⟩)), pl 12 (.agg #[.int .i64 g1, .int .i64 g2, .slice A1 g3.length c1])] hF hS (by kernel_rfl) (by kernel_rfl) ?_ (fun a w hF hS => ?_)
  · exact obs_cons (ob_loadA (cs := #[.int .i64 g1, .int .i64 g2, .slice A1 g3.length c1]) (by kernel_rfl) (by kernel_rfl) (fun _ _ hS => (hS.at_ 0 rfl).cellsAt 0 (by rfl))) <| obs_nil
  refine at_call (f := 60) (args := #[.agg #[.int .i64 g1, .int .i64 g2, .slice A1 g3.length c1]]) (d := 13) hF (by kernel_rfl) (by kernel_rfl) Try.func60 (by kernel_rfl) rfl (gameroomref_GridOf_w hr1 hS (fun _ hS => (hr_g3 _ (hS.dropN 1))) _hc_g3 rfl) (fun v a w hR hF => ?_)
  clear hS
  obtain ⟨A2, c2, rfl, hS⟩ := hR
  have hS : Sep w0 B w (own 3 (.slice A2 r1.2.2.length c2) (vI r1.2.2) :: blk g4 82 #[.int .i64 g1, .int .i64 g2, .slice A1 g3.length c1] :: fs) := hS
  refine at_run 1 [] [] [1, 2, 13, 14] [pl 1 (.int .i64 k1), pl 2 (.pointer (some ⟨g4, 0, none⟩)), pl 13 (.agg #[.int .i64 r1.1, .int .i64 r1.2.1, .slice A2 r1.2.2.length c2]), pl 14 (.int .i64 k1)] hF hS (by kernel_rfl) (by kernel_rfl) ?_ (fun a w hF hS => ?_)
  · exact obs_nil
  refine at_call (f := 59) (args := #[.agg #[.int .i64 r1.1, .int .i64 r1.2.1, .slice A2 r1.2.2.length c2], .int .i64 k1]) (d := 15) hF (by kernel_rfl) (by kernel_rfl) Try.func59 (by kernel_rfl) rfl (rows_Solve_w hr2 hS (fun _ hS => (hS.at_ 0 rfl).rd) ((hS.at_ 0 rfl).cap1) rfl) (fun v a w hR hF => ?_)
  clear hS
  obtain ⟨A3, c3, rfl, hS⟩ := hR
  have hS : Sep w0 B w (own 3 (.slice A3 r2.2.1.length c3) (vI r2.2.1) :: own 3 (.slice A2 r1.2.2.length c2) (vI r1.2.2) :: blk g4 82 #[.int .i64 g1, .int .i64 g2, .slice A1 g3.length c1] :: fs) := hS
  refine at_run 7 [] [] [1, 2, 5, 6, 7] [pl 1 (.int .i64 k1), pl 2 (.pointer (some ⟨g4, 0, none⟩)), pl 5 (.int .i64 r2.1), pl 6 (.slice A3 r2.2.1.length c3), pl 7 (.int .i64 r2.2.2)] hF hS (by kernel_rfl) (by kernel_rfl) ?_ (fun a w hF hS => ?_)
  · exact obs_nil
  refine at_end [1, 2, 5, 6, 7] [pl 1 (.int .i64 k1), pl 2 (.pointer (some ⟨g4, 0, none⟩)), pl 5 (.int .i64 r2.1), pl 6 (.slice A3 r2.2.1.length c3), pl 7 (.int .i64 r2.2.2)] hF rfl (by kernel_rfl) (fun hF => ?_)
  refine then_n ?_
  refine reg [] [] [1, 2, 5, 6, 7, 8] [pl 1 (.int .i64 k1), pl 2 (.pointer (some ⟨g4, 0, none⟩)), pl 5 (.int .i64 r2.1), pl 6 (.slice A3 r2.2.1.length c3), pl 7 (.int .i64 r2.2.2), pl 8 (.int .i64 0)] hF hS Fol (by kernel_rfl) (by kernel_rfl) (by kernel_rfl) ?_ (fun a w hF hS => ?_)
  · exact obs_nil
  refine seq_cut (fun a w => ∃ (no1 : Int), Fr 68 [pl 1 (.int .i64 k1), pl 2 (.pointer (some ⟨g4, 0, none⟩)), pl 5 (.int .i64 r2.1), pl 6 (.slice A3 r2.2.1.length c3), pl 7 (.int .i64 r2.2.2), pl 8 (.int .i64 no1)] a ∧ Sep w0 B w (blk g4 82 #[.int .i64 g1, .int .i64 g2, .slice A1 g3.length c1] :: own 3 (.slice A3 r2.2.1.length c3) (vI r2.2.1) :: fs) ∧ ((gameroomlaw_RowsSolves_J1 g1 g2 g3 k1 r2) no1).bind some = some r) ?_ ?_
  · rintro a w ⟨no1, hF, hS, hm⟩
    unfold gameroomlaw_RowsSolves_J1 at hm
    refine seq_cut (fun a w => Fr 68 [pl 1 (.int .i64 k1), pl 2 (.pointer (some ⟨g4, 0, none⟩)), pl 5 (.int .i64 r2.1), pl 6 (.slice A3 r2.2.1.length c3), pl 7 (.int .i64 r2.2.2)] a ∧ Sep w0 B w (blk g4 82 #[.int .i64 g1, .int .i64 g2, .slice A1 g3.length c1] :: own 3 (.slice A3 r2.2.1.length c3) (vI r2.2.1) :: fs) ∧ ((gameroomlaw_RowsSolves_J2 g1 g2 g3 k1 r2)).bind some = some r) ?_ ?_
    · rintro a w ⟨hF, hS, hm⟩
      unfold gameroomlaw_RowsSolves_J2 at hm
      refine seq_cut (fun a w => ∃ (m1 : Int) (x1 : List Int) (A6 : Option Addr) (c6 : Nat), Fr 68 [pl 5 (.int .i64 r2.1), pl 6 (.slice A3 r2.2.1.length c3), pl 7 (.int .i64 r2.2.2), pl 9 (.int .i64 m1), pl 10 (.slice A6 x1.length c6)] a ∧ Sep w0 B w (own 3 (.slice A3 r2.2.1.length c3) (vI r2.2.1) :: own 3 (.slice A6 x1.length c6) (vI x1) :: fs) ∧ ((gameroomlaw_RowsSolves_J3 r2) m1 x1).bind some = some r) ?_ ?_
      · rintro a w ⟨m1, x1, A6, c6, hF, hS, hm⟩
        unfold gameroomlaw_RowsSolves_J3 at hm
        obtain ⟨r8, hr8, hm⟩ := call_b hm
        refine reg [⟨false, [((r2.2.2 == 0) && (r2.1 == m1), true)], callFunc 36 #[.slice A3 r2.2.1.length c3, .slice A6 x1.length c6], .bool r8⟩] [none, none, none, none, none, none, none, none, none, none, some (.bool r8), none, none] [4] [pl 4 (.bool (((r2.2.2 == 0) && (r2.1 == m1)) && r8))] hF hS Fol (by kernel_rfl) (by kernel_rfl) (by kernel_rfl) ?_ (fun a w hF hS => ?_)
        · exact obs_cons (ob_call Try.func36 (by kernel_rfl) rfl (fun hy _ hS => gameroomlaw_sameInts_w (ite_some hr8 (by rw [show ((r2.2.2 == 0) && (r2.1 == m1)) = true from hy ((r2.2.2 == 0) && (r2.1 == m1), true) (by simp)]; try rfl)) hS (fun _ hS => (hS.at_ 0 rfl).rd) ((hS.at_ 0 rfl).cap1) rfl (fun _ hS => (hS.at_ 1 rfl).rd) ((hS.at_ 1 rfl).cap1) rfl)) <| obs_nil
        refine wp_ret ?_
        have hS := hS.pickN 2 [] (by decide)
        have hm : some (((r2.2.2 == 0) && (r2.1 == m1)) && r8) = some r := hm
        obtain rfl := Option.some.inj hm
        exact retV (rs := [.tmp 4]) (vs := [.bool (((r2.2.2 == 0) && (r2.1 == m1)) && r8)]) hF rfl (rv_t (by kernel_rfl) <| rv_nil) rfl ⟨rfl, hS⟩
      · obtain ⟨r6, hr6, hm⟩ := call_b hm
        obtain ⟨r7, hr7, hm⟩ := call_b hm
        refine regMix5 [0, 1, 2] [] 7 #[true, true, true, false, false, false, false, false, false, false] [⟨false, [], vS (Instr.loadAt 82 (.pointer (some ⟨g4, 0, none⟩))), .agg #[.int .i64 g1, .int .i64 g2, .slice A1 g3.length c1]⟩, ⟨false, [], vS (Instr.loadAt 82 (.pointer (some ⟨g4, 0, none⟩))), .agg #[.int .i64 g1, .int .i64 g2, .slice A1 g3.length c1]⟩] [some (.agg #[.int .i64 g1, .int .i64 g2, .slice A1 g3.length c1]), none, some (.agg #[.int .i64 g1, .int .i64 g2, .slice A1 g3.length c1])] [5, 6, 7, 49, 50, 51] [pl 5 (.int .i64 r2.1), pl 6 (.slice A3 r2.2.1.length c3), pl 7 (.int .i64 r2.2.2), pl 49 (.agg #[.int .i64 g1, .int .i64 g2, .slice A1 g3.length c1]), pl 50 (.int .i64 k1), pl 51 (.agg #[.int .i64 g1, .int .i64 g2, .slice A1 g3.length c1])] hF hS Fol (by kernel_rfl) (by kernel_rfl) (by kernel_rfl) (by kernel_rfl) ?_ (fun a w hF hS => ?_)
        · exact obs_cons (ob_loadA (cs := #[.int .i64 g1, .int .i64 g2, .slice A1 g3.length c1]) (by kernel_rfl) (by kernel_rfl) (fun _ _ hS => (hS.at_ 0 rfl).cellsAt 0 (by rfl))) <| obs_cons (ob_loadA (cs := #[.int .i64 g1, .int .i64 g2, .slice A1 g3.length c1]) (by kernel_rfl) (by kernel_rfl) (fun _ _ hS => (hS.at_ 0 rfl).cellsAt 0 (by rfl))) <| obs_nil
        refine any_step [3] (by kernel_rfl) rfl ?_
        refine (all_cons ?_ all_nil)
        · refine any_op (listed' := #[true, true, true, true, false, false, false, false, false, false]) (by kernel_rfl) (by kernel_rfl) ?_
          refine at_run 1 [⟨false, [], callFunc 62 #[.agg #[.int .i64 g1, .int .i64 g2, .slice A1 g3.length c1]], .int .i64 r6⟩] [some (.int .i64 r6)] [5, 6, 7, 49, 50, 52] [pl 5 (.int .i64 r2.1), pl 6 (.slice A3 r2.2.1.length c3), pl 7 (.int .i64 r2.2.2), pl 49 (.agg #[.int .i64 g1, .int .i64 g2, .slice A1 g3.length c1]), pl 50 (.int .i64 k1), pl 52 (.int .i64 r6)] hF hS (by kernel_rfl) (by kernel_rfl) ?_ (fun a w hF hS => ?_)
          · exact obs_cons (ob_call Try.func62 (by kernel_rfl) rfl (fun _ _ hS => gameroomref_GridMover_w hr6 hS (fun _ hS => (hr_g3 _ (hS.dropN 2))) _hc_g3 rfl)) <| obs_nil
          refine any_fin rfl hS ?_
          refine any_step [4] (by kernel_rfl) rfl ?_
          refine (all_cons ?_ all_nil)
          · refine any_op (listed' := #[true, true, true, true, true, false, false, false, false, false]) (by kernel_rfl) (by kernel_rfl) ?_
            refine at_call (f := 64) (args := #[.agg #[.int .i64 g1, .int .i64 g2, .slice A1 g3.length c1], .int .i64 k1, .int .i64 r6]) (d := 53) hF (by kernel_rfl) (by kernel_rfl) Try.func64 (by kernel_rfl) rfl (gameroomref_SolveGrid_w hr7 hS (fun _ hS => (hr_g3 _ (hS.dropN 2))) _hc_g3 rfl) (fun v a w hR hF => ?_)
            clear hS
            obtain ⟨A5, c5, rfl, hS⟩ := hR
            have hS : Sep w0 B w (own 3 (.slice A5 r7.2.length c5) (vI r7.2) :: blk g4 82 #[.int .i64 g1, .int .i64 g2, .slice A1 g3.length c1] :: own 3 (.slice A3 r2.2.1.length c3) (vI r2.2.1) :: fs) := hS
            refine any_fin rfl (hS.pickN 3 [1, 2] (by decide)) ?_
            refine any_step [5] (by kernel_rfl) rfl ?_
            refine (all_cons ?_ all_nil)
            · refine any_op (listed' := #[true, true, true, true, true, true, false, false, false, false]) (by kernel_rfl) (by kernel_rfl) ?_
              refine at_runW 1 [] [] [5, 6, 7, 48] [pl 5 (.int .i64 r2.1), pl 6 (.slice A3 r2.2.1.length c3), pl 7 (.int .i64 r2.2.2), pl 48 (.tuple #[.int .i64 r7.1, .slice A5 r7.2.length c5])] hF hS (by kernel_rfl) (by kernel_rfl) ?_ (fun a hF => ?_)
              · exact obs_nil
              refine any_finI rfl (fun h => h) ?_
              refine any_step [6, 7] (by kernel_rfl) rfl ?_
              refine (all_cons ?_ (all_cons ?_ all_nil))
              · refine any_op (listed' := #[true, true, true, true, true, true, true, false, false, false]) (by kernel_rfl) (by kernel_rfl) ?_
                refine at_runW 1 [] [] [5, 6, 7, 48, 54] [pl 5 (.int .i64 r2.1), pl 6 (.slice A3 r2.2.1.length c3), pl 7 (.int .i64 r2.2.2), pl 48 (.tuple #[.int .i64 r7.1, .slice A5 r7.2.length c5]), pl 54 (.int .i64 r7.1)] hF hS (by kernel_rfl) (by kernel_rfl) ?_ (fun a hF => ?_)
                · exact obs_nil
                refine any_finI rfl (fun h => h) ?_
                refine any_step [7, 8] (by kernel_rfl) rfl ?_
                refine (all_cons ?_ (all_cons ?_ all_nil))
                · refine any_op (listed' := #[true, true, true, true, true, true, true, true, false, false]) (by kernel_rfl) (by kernel_rfl) ?_
                  refine at_runW 1 [] [] [5, 6, 7, 54, 55] [pl 5 (.int .i64 r2.1), pl 6 (.slice A3 r2.2.1.length c3), pl 7 (.int .i64 r2.2.2), pl 54 (.int .i64 r7.1), pl 55 (.slice A5 r7.2.length c5)] hF hS (by kernel_rfl) (by kernel_rfl) ?_ (fun a hF => ?_)
                  · exact obs_nil
                  refine any_finI rfl (fun h => h) ?_
                  refine any_step [8] (by kernel_rfl) rfl ?_
                  refine (all_cons ?_ all_nil)
                  · refine any_op (listed' := #[true, true, true, true, true, true, true, true, true, false]) (by kernel_rfl) (by kernel_rfl) ?_
                    refine at_runW 1 [] [] [5, 6, 7, 9, 55] [pl 5 (.int .i64 r2.1), pl 6 (.slice A3 r2.2.1.length c3), pl 7 (.int .i64 r2.2.2), pl 9 (.int .i64 r7.1), pl 55 (.slice A5 r7.2.length c5)] hF hS (by kernel_rfl) (by kernel_rfl) ?_ (fun a hF => ?_)
                    · exact obs_nil
                    refine any_finI rfl (fun h => h) ?_
                    refine any_step [9] (by kernel_rfl) rfl ?_
                    refine (all_cons ?_ all_nil)
                    · refine any_op (listed' := #[true, true, true, true, true, true, true, true, true, true]) (by kernel_rfl) (by kernel_rfl) ?_
                      refine at_runW 1 [] [] [5, 6, 7, 9, 10] [pl 5 (.int .i64 r2.1), pl 6 (.slice A3 r2.2.1.length c3), pl 7 (.int .i64 r2.2.2), pl 9 (.int .i64 r7.1), pl 10 (.slice A5 r7.2.length c5)] hF hS (by kernel_rfl) (by kernel_rfl) ?_ (fun a hF => ?_)
                      · exact obs_nil
                      refine any_finI rfl (fun h => h) ?_
                      refine any_end (by kernel_rfl) ?_
                      refine np_n ?_
                      refine then_n ?_
                      have hS := hS.pickN 3 [2, 0] (by decide)
                      exact ⟨r7.1, r7.2, A5, c5, hF.weak [5, 6, 7, 9, 10] (by kernel_rfl), hS, hm⟩
                · refine any_op (listed' := #[true, true, true, true, true, true, true, false, true, false]) (by kernel_rfl) (by kernel_rfl) ?_
                  refine at_runW 1 [] [] [5, 6, 7, 9, 48] [pl 5 (.int .i64 r2.1), pl 6 (.slice A3 r2.2.1.length c3), pl 7 (.int .i64 r2.2.2), pl 9 (.int .i64 r7.1), pl 48 (.tuple #[.int .i64 r7.1, .slice A5 r7.2.length c5])] hF hS (by kernel_rfl) (by kernel_rfl) ?_ (fun a hF => ?_)
                  · exact obs_nil
                  refine any_finI rfl (fun h => h) ?_
                  refine any_step [7] (by kernel_rfl) rfl ?_
                  refine (all_cons ?_ all_nil)
                  · refine any_op (listed' := #[true, true, true, true, true, true, true, true, true, false]) (by kernel_rfl) (by kernel_rfl) ?_
                    refine at_runW 1 [] [] [5, 6, 7, 9, 55] [pl 5 (.int .i64 r2.1), pl 6 (.slice A3 r2.2.1.length c3), pl 7 (.int .i64 r2.2.2), pl 9 (.int .i64 r7.1), pl 55 (.slice A5 r7.2.length c5)] hF hS (by kernel_rfl) (by kernel_rfl) ?_ (fun a hF => ?_)
                    · exact obs_nil
                    refine any_finI rfl (fun h => h) ?_
                    refine any_step [9] (by kernel_rfl) rfl ?_
                    refine (all_cons ?_ all_nil)
                    · refine any_op (listed' := #[true, true, true, true, true, true, true, true, true, true]) (by kernel_rfl) (by kernel_rfl) ?_
                      refine at_runW 1 [] [] [5, 6, 7, 9, 10] [pl 5 (.int .i64 r2.1), pl 6 (.slice A3 r2.2.1.length c3), pl 7 (.int .i64 r2.2.2), pl 9 (.int .i64 r7.1), pl 10 (.slice A5 r7.2.length c5)] hF hS (by kernel_rfl) (by kernel_rfl) ?_ (fun a hF => ?_)
                      · exact obs_nil
                      refine any_finI rfl (fun h => h) ?_
                      refine any_end (by kernel_rfl) ?_
                      refine np_n ?_
                      refine then_n ?_
                      have hS := hS.pickN 3 [2, 0] (by decide)
                      exact ⟨r7.1, r7.2, A5, c5, hF.weak [5, 6, 7, 9, 10] (by kernel_rfl), hS, hm⟩
              · refine any_op (listed' := #[true, true, true, true, true, true, false, true, false, false]) (by kernel_rfl) (by kernel_rfl) ?_
                refine at_runW 1 [] [] [5, 6, 7, 48, 55] [pl 5 (.int .i64 r2.1), pl 6 (.slice A3 r2.2.1.length c3), pl 7 (.int .i64 r2.2.2), pl 48 (.tuple #[.int .i64 r7.1, .slice A5 r7.2.length c5]), pl 55 (.slice A5 r7.2.length c5)] hF hS (by kernel_rfl) (by kernel_rfl) ?_ (fun a hF => ?_)
                · exact obs_nil
                refine any_finI rfl (fun h => h) ?_
                refine any_step [6] (by kernel_rfl) rfl ?_
                refine (all_cons ?_ all_nil)
                · refine any_op (listed' := #[true, true, true, true, true, true, true, true, false, false]) (by kernel_rfl) (by kernel_rfl) ?_
                  refine at_runW 1 [] [] [5, 6, 7, 54, 55] [pl 5 (.int .i64 r2.1), pl 6 (.slice A3 r2.2.1.length c3), pl 7 (.int .i64 r2.2.2), pl 54 (.int .i64 r7.1), pl 55 (.slice A5 r7.2.length c5)] hF hS (by kernel_rfl) (by kernel_rfl) ?_ (fun a hF => ?_)
                  · exact obs_nil
                  refine any_finI rfl (fun h => h) ?_
                  refine any_step [8] (by kernel_rfl) rfl ?_
                  refine (all_cons ?_ all_nil)
                  · refine any_op (listed' := #[true, true, true, true, true, true, true, true, true, false]) (by kernel_rfl) (by kernel_rfl) ?_
                    refine at_runW 1 [] [] [5, 6, 7, 9, 55] [pl 5 (.int .i64 r2.1), pl 6 (.slice A3 r2.2.1.length c3), pl 7 (.int .i64 r2.2.2), pl 9 (.int .i64 r7.1), pl 55 (.slice A5 r7.2.length c5)] hF hS (by kernel_rfl) (by kernel_rfl) ?_ (fun a hF => ?_)
                    · exact obs_nil
                    refine any_finI rfl (fun h => h) ?_
                    refine any_step [9] (by kernel_rfl) rfl ?_
                    refine (all_cons ?_ all_nil)
                    · refine any_op (listed' := #[true, true, true, true, true, true, true, true, true, true]) (by kernel_rfl) (by kernel_rfl) ?_
                      refine at_runW 1 [] [] [5, 6, 7, 9, 10] [pl 5 (.int .i64 r2.1), pl 6 (.slice A3 r2.2.1.length c3), pl 7 (.int .i64 r2.2.2), pl 9 (.int .i64 r7.1), pl 10 (.slice A5 r7.2.length c5)] hF hS (by kernel_rfl) (by kernel_rfl) ?_ (fun a hF => ?_)
                      · exact obs_nil
                      refine any_finI rfl (fun h => h) ?_
                      refine any_end (by kernel_rfl) ?_
                      refine np_n ?_
                      refine then_n ?_
                      have hS := hS.pickN 3 [2, 0] (by decide)
                      exact ⟨r7.1, r7.2, A5, c5, hF.weak [5, 6, 7, 9, 10] (by kernel_rfl), hS, hm⟩
    · refine reg [] [] [1, 2, 5, 6, 7, 8, 35] [pl 1 (.int .i64 k1), pl 2 (.pointer (some ⟨g4, 0, none⟩)), pl 5 (.int .i64 r2.1), pl 6 (.slice A3 r2.2.1.length c3), pl 7 (.int .i64 r2.2.2), pl 8 (.int .i64 no1), pl 35 (.bool (no1 != 0))] hF hS Fol (by kernel_rfl) (by kernel_rfl) (by kernel_rfl) ?_ (fun a w hF hS => ?_)
      · exact obs_nil
      refine cond_ev (t := 35) (b := (no1 != 0)) hF (by kernel_rfl) (fun hb => ?_) (fun hb => ?_)
      · replace hm := if_t hm hb
        refine reg [] [] [4] [pl 4 (.bool (((r2.2.2 == no1) && (r2.1 == 0)) && ((r2.2.1.length : Int) == 0)))] hF hS Fol (by kernel_rfl) (by kernel_rfl) (by kernel_rfl) ?_ (fun a w hF hS => ?_)
        · exact obs_nil
        refine wp_ret ?_
        refine then_r ?_
        have hS := hS.pickN 2 [] (by decide)
        have hm : some (((r2.2.2 == no1) && (r2.1 == 0)) && ((r2.2.1.length : Int) == 0)) = some r := hm
        obtain rfl := Option.some.inj hm
        exact retV (rs := [.tmp 4]) (vs := [.bool (((r2.2.2 == no1) && (r2.1 == 0)) && ((r2.2.1.length : Int) == 0))]) hF rfl (rv_t (by kernel_rfl) <| rv_nil) rfl ⟨rfl, hS⟩
      · replace hm := if_f hm hb
        refine wp_skip ?_
        refine then_n ?_
        exact ⟨hF.weak [1, 2, 5, 6, 7] (by kernel_rfl), hS, hm⟩
  · obtain ⟨r3, hr3, hm⟩ := call_b hm
    refine reg [⟨false, [], vS (Instr.loadAt 82 (.pointer (some ⟨g4, 0, none⟩))), .agg #[.int .i64 g1, .int .i64 g2, .slice A1 g3.length c1]⟩, ⟨false, [], callFunc 61 #[.agg #[.int .i64 g1, .int .i64 g2, .slice A1 g3.length c1]], .bool r3⟩] [some (.agg #[.int .i64 g1, .int .i64 g2, .slice A1 g3.length c1]), some (.bool r3), none] [1, 2, 5, 6, 7, 8, 21] [pl 1 (.int .i64 k1), pl 2 (.pointer (some ⟨g4, 0, none⟩)), pl 5 (.int .i64 r2.1), pl 6 (.slice A3 r2.2.1.length c3), pl 7 (.int .i64 r2.2.2), pl 8 (.int .i64 0), pl 21 (.bool (!r3))] hF hS Fol (by kernel_rfl) (by kernel_rfl) (by kernel_rfl) ?_ (fun a w hF hS => ?_)
    · exact obs_cons (ob_loadA (cs := #[.int .i64 g1, .int .i64 g2, .slice A1 g3.length c1]) (by kernel_rfl) (by kernel_rfl) (fun _ _ hS => (hS.at_ 2 rfl).cellsAt 0 (by rfl))) <| obs_cons (ob_call Try.func61 (by kernel_rfl) rfl (fun _ _ hS => gameroomref_GridMay_w hr3 hS (fun _ hS => (hr_g3 _ (hS.dropN 3))) _hc_g3 rfl)) <| obs_nil
    refine cond_ev (t := 21) (b := !r3) hF (by kernel_rfl) (fun hb => ?_) (fun hb => ?_)
    · replace hm := if_t hm hb
      refine reg1 [] [] [1, 2, 5, 6, 7, 8] [pl 1 (.int .i64 k1), pl 2 (.pointer (some ⟨g4, 0, none⟩)), pl 5 (.int .i64 r2.1), pl 6 (.slice A3 r2.2.1.length c3), pl 7 (.int .i64 r2.2.2), pl 8 (.int .i64 12)] hF hS Fol (by kernel_rfl) (by kernel_rfl) (by kernel_rfl) ?_ (fun a w hF hS => ?_)
      · exact obs_nil
      refine then_n ?_
      have hS := hS.pickN 3 [2, 0] (by decide)
      exact ⟨12, hF.weak [1, 2, 5, 6, 7, 8] (by kernel_rfl), hS, hm⟩
    · replace hm := if_f hm hb
      refine reg [] [] [1, 2, 5, 6, 7, 8, 27] [pl 1 (.int .i64 k1), pl 2 (.pointer (some ⟨g4, 0, none⟩)), pl 5 (.int .i64 r2.1), pl 6 (.slice A3 r2.2.1.length c3), pl 7 (.int .i64 r2.2.2), pl 8 (.int .i64 0), pl 27 (.bool ((decide (k1 < 1)) || (decide ((10 : Int) < k1))))] hF hS Fol (by kernel_rfl) (by kernel_rfl) (by kernel_rfl) ?_ (fun a w hF hS => ?_)
      · exact obs_nil
      refine cond_ev (t := 27) (b := (decide (k1 < 1)) || (decide ((10 : Int) < k1))) hF (by kernel_rfl) (fun hb => ?_) (fun hb => ?_)
      · replace hm := if_t hm hb
        refine reg1 [] [] [1, 2, 5, 6, 7, 8] [pl 1 (.int .i64 k1), pl 2 (.pointer (some ⟨g4, 0, none⟩)), pl 5 (.int .i64 r2.1), pl 6 (.slice A3 r2.2.1.length c3), pl 7 (.int .i64 r2.2.2), pl 8 (.int .i64 3)] hF hS Fol (by kernel_rfl) (by kernel_rfl) (by kernel_rfl) ?_ (fun a w hF hS => ?_)
        · exact obs_nil
        refine then_n ?_
        have hS := hS.pickN 3 [2, 0] (by decide)
        exact ⟨3, hF.weak [1, 2, 5, 6, 7, 8] (by kernel_rfl), hS, hm⟩
      · replace hm := if_f hm hb
        obtain ⟨r4, hr4, hm⟩ := call_b hm
        refine reg [⟨false, [], vS (Instr.loadAt 82 (.pointer (some ⟨g4, 0, none⟩))), .agg #[.int .i64 g1, .int .i64 g2, .slice A1 g3.length c1]⟩, ⟨false, [], callFunc 62 #[.agg #[.int .i64 g1, .int .i64 g2, .slice A1 g3.length c1]], .int .i64 r4⟩] [some (.agg #[.int .i64 g1, .int .i64 g2, .slice A1 g3.length c1]), some (.int .i64 r4), none] [1, 2, 5, 6, 7, 8, 30] [pl 1 (.int .i64 k1), pl 2 (.pointer (some ⟨g4, 0, none⟩)), pl 5 (.int .i64 r2.1), pl 6 (.slice A3 r2.2.1.length c3), pl 7 (.int .i64 r2.2.2), pl 8 (.int .i64 0), pl 30 (.bool (r4 == 0))] hF hS Fol (by kernel_rfl) (by kernel_rfl) (by kernel_rfl) ?_ (fun a w hF hS => ?_)
        · exact obs_cons (ob_loadA (cs := #[.int .i64 g1, .int .i64 g2, .slice A1 g3.length c1]) (by kernel_rfl) (by kernel_rfl) (fun _ _ hS => (hS.at_ 2 rfl).cellsAt 0 (by rfl))) <| obs_cons (ob_call Try.func62 (by kernel_rfl) rfl (fun _ _ hS => gameroomref_GridMover_w hr4 hS (fun _ hS => (hr_g3 _ (hS.dropN 3))) _hc_g3 rfl)) <| obs_nil
        refine cond_ev (t := 30) (b := (r4 == 0)) hF (by kernel_rfl) (fun hb => ?_) (fun hb => ?_)
        · replace hm := if_t hm hb
          refine reg1 [] [] [1, 2, 5, 6, 7, 8] [pl 1 (.int .i64 k1), pl 2 (.pointer (some ⟨g4, 0, none⟩)), pl 5 (.int .i64 r2.1), pl 6 (.slice A3 r2.2.1.length c3), pl 7 (.int .i64 r2.2.2), pl 8 (.int .i64 7)] hF hS Fol (by kernel_rfl) (by kernel_rfl) (by kernel_rfl) ?_ (fun a w hF hS => ?_)
          · exact obs_nil
          refine then_n ?_
          have hS := hS.pickN 3 [2, 0] (by decide)
          exact ⟨7, hF.weak [1, 2, 5, 6, 7, 8] (by kernel_rfl), hS, hm⟩
        · replace hm := if_f hm hb
          obtain ⟨r5, hr5, hm⟩ := call_b hm
          refine reg [⟨false, [], vS (Instr.loadAt 82 (.pointer (some ⟨g4, 0, none⟩))), .agg #[.int .i64 g1, .int .i64 g2, .slice A1 g3.length c1]⟩, ⟨false, [], callFunc 63 #[.agg #[.int .i64 g1, .int .i64 g2, .slice A1 g3.length c1]], .int .i64 r5⟩] [some (.agg #[.int .i64 g1, .int .i64 g2, .slice A1 g3.length c1]), some (.int .i64 r5), none] [1, 2, 5, 6, 7, 8, 33] [pl 1 (.int .i64 k1), pl 2 (.pointer (some ⟨g4, 0, none⟩)), pl 5 (.int .i64 r2.1), pl 6 (.slice A3 r2.2.1.length c3), pl 7 (.int .i64 r2.2.2), pl 8 (.int .i64 0), pl 33 (.bool (decide ((9 : Int) < r5)))] hF hS Fol (by kernel_rfl) (by kernel_rfl) (by kernel_rfl) ?_ (fun a w hF hS => ?_)
          · exact obs_cons (ob_loadA (cs := #[.int .i64 g1, .int .i64 g2, .slice A1 g3.length c1]) (by kernel_rfl) (by kernel_rfl) (fun _ _ hS => (hS.at_ 2 rfl).cellsAt 0 (by rfl))) <| obs_cons (ob_call Try.func63 (by kernel_rfl) rfl (fun _ _ hS => gameroomref_OpenPlaces_w hr5 hS (fun _ hS => (hr_g3 _ (hS.dropN 3))) _hc_g3 rfl)) <| obs_nil
          refine cond_ev (t := 33) (b := decide ((9 : Int) < r5)) hF (by kernel_rfl) (fun hb => ?_) (fun hb => ?_)
          · replace hm := if_t hm hb
            refine reg1 [] [] [1, 2, 5, 6, 7, 8] [pl 1 (.int .i64 k1), pl 2 (.pointer (some ⟨g4, 0, none⟩)), pl 5 (.int .i64 r2.1), pl 6 (.slice A3 r2.2.1.length c3), pl 7 (.int .i64 r2.2.2), pl 8 (.int .i64 2)] hF hS Fol (by kernel_rfl) (by kernel_rfl) (by kernel_rfl) ?_ (fun a w hF hS => ?_)
            · exact obs_nil
            refine then_n ?_
            have hS := hS.pickN 3 [2, 0] (by decide)
            exact ⟨2, hF.weak [1, 2, 5, 6, 7, 8] (by kernel_rfl), hS, hm⟩
          · replace hm := if_f hm hb
            refine wp_skip ?_
            refine then_n ?_
            have hS := hS.pickN 3 [2, 0] (by decide)
            exact ⟨0, hF.weak [1, 2, 5, 6, 7, 8] (by kernel_rfl), hS, hm⟩

end Go.Proofs.Ytbmhcapeikebgaa
