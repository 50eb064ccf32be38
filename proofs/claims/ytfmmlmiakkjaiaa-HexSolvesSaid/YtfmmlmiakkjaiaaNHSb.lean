/-
  Models and walks, printed by our own program (wip/gen).
-/
import Derived.Test.YtfmmlmiakkjaiaaFB
import Derived.Test.YtfmmlmiakkjaiaaLibD
import Derived.Test.YtfmmlmiakkjaiaaLibRF
import Derived.Test.YtfmmlmiakkjaiaaFM
import Derived.Test.YtfmmlmiakkjaiaaSH
import Derived.Test.YtfmmlmiakkjaiaaNHSa
namespace Go.Proofs.Ytfmmlmiakkjaiaa
open Go Go.GL Go.RowKit

noncomputable def hex_solver_winner_m  (rec_hex_solver_after : Int → Int → List Int → List ((Int × Int × Int) × Int) → Int → Int → Option (Int × List Int × List ((Int × Int × Int) × Int))) (s_Grid_W1 : Int) (s_Grid_H1 : Int) (s_Grid_Cells1 : List Int) (s_known1 : List ((Int × Int × Int) × Int)) (who1 : Int) : Option (Int × List Int × List ((Int × Int × Int) × Int)) :=
  (hex_joined_m s_Grid_W1 s_Grid_H1 s_Grid_Cells1).bind fun r1 => if (decide ((0 : Int) < r1.1)) then (some (r1.1, s_Grid_Cells1, s_known1)) else ((hex_solver_winner_J1 rec_hex_solver_after s_Grid_W1 s_Grid_H1 s_Grid_Cells1 s_known1 who1))

set_option maxRecDepth 100000 in
set_option maxHeartbeats 4000000 in
theorem hex_solver_winner_w {rec_hex_solver_after : Int → Int → List Int → List ((Int × Int × Int) × Int) → Int → Int → Option (Int × List Int × List ((Int × Int × Int) × Int))} (ih_hex_solver_after : ∀ {g1 : Nat} {s_Grid_W1 : Int} {s_Grid_H1 : Int} {A1 : Option Addr} {c1 : Nat} {n1 : Nat} {s_Grid_Cells1 : List Int} {g2 : Nat} {s_known1 : List ((Int × Int × Int) × Int)} {at1 : Int} {who1 : Int} {r : (Int × List Int × List ((Int × Int × Int) × Int))} {w0 w : World} {B : Nat} {fs : List HP} (_ : rec_hex_solver_after s_Grid_W1 s_Grid_H1 s_Grid_Cells1 s_known1 at1 who1 = some r) (_ : Sep w0 B w (blk g1 158 #[.int .i64 s_Grid_W1, .int .i64 s_Grid_H1, .slice A1 n1 c1, .map (some g2)] :: own 3 (.slice A1 n1 c1) (vI s_Grid_Cells1) :: mapH kf240 (Value.int .i64) g2 s_known1 :: fs)), Calls Try.prog 117 #[.pointer (some ⟨g1, 0, none⟩), .int .i64 at1, .int .i64 who1] w fun e w' => ∃ v, e = .returned v ∧ v = .int .i64 r.1 ∧ Sep w0 B w' (blk g1 158 #[.int .i64 s_Grid_W1, .int .i64 s_Grid_H1, .slice A1 n1 c1, .map (some g2)] :: own 3 (.slice A1 n1 c1) (vI r.2.1) :: mapH kf240 (Value.int .i64) g2 r.2.2 :: fs)) {g1 : Nat} {s_Grid_W1 : Int} {s_Grid_H1 : Int} {A1 : Option Addr} {c1 : Nat} {n1 : Nat} {s_Grid_Cells1 : List Int} {g2 : Nat} {s_known1 : List ((Int × Int × Int) × Int)} {who1 : Int} {r : (Int × List Int × List ((Int × Int × Int) × Int))} {w0 w : World} {B : Nat} {fs : List HP} (hm : hex_solver_winner_m rec_hex_solver_after s_Grid_W1 s_Grid_H1 s_Grid_Cells1 s_known1 who1 = some r) (hS : Sep w0 B w (blk g1 158 #[.int .i64 s_Grid_W1, .int .i64 s_Grid_H1, .slice A1 n1 c1, .map (some g2)] :: own 3 (.slice A1 n1 c1) (vI s_Grid_Cells1) :: mapH kf240 (Value.int .i64) g2 s_known1 :: fs)) :
    Calls Try.prog 186 #[.pointer (some ⟨g1, 0, none⟩), .int .i64 who1] w fun e w' => ∃ v, e = .returned v ∧ v = .int .i64 r.1 ∧ Sep w0 B w' (blk g1 158 #[.int .i64 s_Grid_W1, .int .i64 s_Grid_H1, .slice A1 n1 c1, .map (some g2)] :: own 3 (.slice A1 n1 c1) (vI r.2.1) :: mapH kf240 (Value.int .i64) g2 r.2.2 :: fs) := by
  obtain ⟨i3, hi3, hz3, hs3, hb3⟩ := info_parts Info3
  obtain rfl := (hS.at_ 1 rfl).len1
  unfold hex_solver_winner_m at hm
  replace hm := start_b hm
  refine enter (l := [.pointer (some ⟨g1, 0, none⟩), .int .i64 who1]) (n := 77) Try.func186 rfl rfl (by simp) (fun a hF => ?_)
  refine reg [] [] [0, 1] [pl 0 (.pointer (some ⟨g1, 0, none⟩)), pl 1 (.int .i64 who1)] hF hS Fol (by kernel_rfl) (by kernel_rfl) (by kernel_rfl) ?_ (fun a w hF hS => ?_)
  · exact obs_nil
  refine seq_cut (fun a w => Fr 77 [pl 0 (.pointer (some ⟨g1, 0, none⟩)), pl 1 (.int .i64 who1)] a ∧ Sep w0 B w (blk g1 158 #[.int .i64 s_Grid_W1, .int .i64 s_Grid_H1, .slice A1 s_Grid_Cells1.length c1, .map (some g2)] :: own 3 (.slice A1 s_Grid_Cells1.length c1) (vI s_Grid_Cells1) :: mapH kf240 (Value.int .i64) g2 s_known1 :: fs) ∧ ((hex_solver_winner_J1 rec_hex_solver_after s_Grid_W1 s_Grid_H1 s_Grid_Cells1 s_known1 who1)).bind some = some r) ?_ ?_
  · rintro a w ⟨hF, hS, hm⟩
    unfold hex_solver_winner_J1 at hm
    refine seqR ?_
    obtain ⟨r2, hr2, hm⟩ := call_b hm
    refine at_run 3 [⟨false, [], callFunc 241 #[.pointer (some ⟨g1, 0, none⟩), .int .i64 who1], .agg #[.int .u64 r2.1, .int .u64 r2.2.1, .int .i64 r2.2.2]⟩] [none, none, some (.agg #[.int .u64 r2.1, .int .u64 r2.2.1, .int .i64 r2.2.2])] [0, 1, 26] [pl 0 (.pointer (some ⟨g1, 0, none⟩)), pl 1 (.int .i64 who1), pl 26 (.agg #[.int .u64 r2.1, .int .u64 r2.2.1, .int .i64 r2.2.2])] hF hS (by kernel_rfl) (by kernel_rfl) ?_ (fun a w hF hS => ?_)
    · exact obs_cons (ob_call Try.func241 (by kernel_rfl) rfl (fun _ _ hS => hex_solver_key_w hr2 hS )) <| obs_nil
    refine at_do (d := 7) (s := vS (Instr.alloc 240 true (.tuple #[]))) (v := .pointer (some ⟨w.heap.size, 0, none⟩)) (w' := w.alloc (.cells #[.int .u64 0, .int .u64 0, .int .i64 0] 240)) hF (by kernel_rfl) (by kernel_rfl) (by kernel_rfl) (fun a hF => ?_)
    have hS : Sep w0 B (w.alloc (.cells #[.int .u64 0, .int .u64 0, .int .i64 0] 240)) (blk w.heap.size 240 #[.int .u64 0, .int .u64 0, .int .i64 0] :: (blk g1 158 #[.int .i64 s_Grid_W1, .int .i64 s_Grid_H1, .slice A1 s_Grid_Cells1.length c1, .map (some g2)] :: own 3 (.slice A1 s_Grid_Cells1.length c1) (vI s_Grid_Cells1) :: mapH kf240 (Value.int .i64) g2 s_known1 :: fs)) := hS.box 240 #[.int .u64 0, .int .u64 0, .int .i64 0]
    generalize w.heap.size = g3 at hF hS
    generalize w.alloc (.cells #[.int .u64 0, .int .u64 0, .int .i64 0] 240) = w at hS ⊢
    obtain ⟨w, hrun, hS⟩ := run_putA (P := Try.prog) (t := 240) (us := #[.int .u64 r2.1, .int .u64 r2.2.1, .int .i64 r2.2.2]) (o := 0) (hS.at_ 0 rfl) (by kernel_rfl) (all_one (by kernel_rfl)) (Nat.le_of_ble_eq_true (by kernel_rfl))
    refine at_skip hF (by kernel_rfl) hrun ?_
    have hS : Sep w0 B w (blk g3 240 #[.int .u64 r2.1, .int .u64 r2.2.1, .int .i64 r2.2.2] :: blk g1 158 #[.int .i64 s_Grid_W1, .int .i64 s_Grid_H1, .slice A1 s_Grid_Cells1.length c1, .map (some g2)] :: own 3 (.slice A1 s_Grid_Cells1.length c1) (vI s_Grid_Cells1) :: mapH kf240 (Value.int .i64) g2 s_known1 :: fs) := hS
    refine at_end [0, 1, 7] [pl 0 (.pointer (some ⟨g1, 0, none⟩)), pl 1 (.int .i64 who1), pl 7 (.pointer (some ⟨g3, 0, none⟩))] hF rfl (by kernel_rfl) (fun hF => ?_)
    refine then_n ?_
    refine seq_cut (fun a w => Fr 77 [pl 0 (.pointer (some ⟨g1, 0, none⟩)), pl 1 (.int .i64 who1), pl 7 (.pointer (some ⟨g3, 0, none⟩))] a ∧ Sep w0 B w (blk g1 158 #[.int .i64 s_Grid_W1, .int .i64 s_Grid_H1, .slice A1 s_Grid_Cells1.length c1, .map (some g2)] :: own 3 (.slice A1 s_Grid_Cells1.length c1) (vI s_Grid_Cells1) :: mapH kf240 (Value.int .i64) g2 s_known1 :: blk g3 240 #[.int .u64 r2.1, .int .u64 r2.2.1, .int .i64 r2.2.2] :: fs) ∧ ((hex_solver_winner_J2 rec_hex_solver_after s_Grid_W1 s_Grid_H1 s_Grid_Cells1 s_known1 who1 r2)).bind some = some r) ?_ ?_
    · rintro a w ⟨hF, hS, hm⟩
      unfold hex_solver_winner_J2 at hm
      refine reg [] [] [0, 1, 7, 10] [pl 0 (.pointer (some ⟨g1, 0, none⟩)), pl 1 (.int .i64 who1), pl 7 (.pointer (some ⟨g3, 0, none⟩)), pl 10 (.int .i64 (w64 (3 - who1)))] hF hS Fol (by kernel_rfl) (by kernel_rfl) (by kernel_rfl) ?_ (fun a w hF hS => ?_)
      · exact obs_nil
      refine seq_cut (fun a w => ∃ (s5 : List Int) (s6 : List ((Int × Int × Int) × Int)) (w1 : Int), Fr 77 [pl 0 (.pointer (some ⟨g1, 0, none⟩)), pl 7 (.pointer (some ⟨g3, 0, none⟩)), pl 10 (.int .i64 w1)] a ∧ Sep w0 B w (blk g1 158 #[.int .i64 s_Grid_W1, .int .i64 s_Grid_H1, .slice A1 s_Grid_Cells1.length c1, .map (some g2)] :: own 3 (.slice A1 s_Grid_Cells1.length c1) (vI s5) :: mapH kf240 (Value.int .i64) g2 s6 :: blk g3 240 #[.int .u64 r2.1, .int .u64 r2.2.1, .int .i64 r2.2.2] :: fs) ∧ ((hex_solver_winner_J3 r2) s5 s6 w1).bind some = some r) ?_ ?_
      · rintro a w ⟨s5, s6, w1, hF, hS, hm⟩
        unfold hex_solver_winner_J3 at hm
        refine wpIn_seq ?_
        refine regMix4 [0, 1, 2, 3, 4, 5] [6] [⟨false, [], vS (Instr.loadAt 156 (.pointer (some ⟨g1, 3, none⟩))), .map (some g2)⟩, ⟨false, [], vS (Instr.loadAt 240 (.pointer (some ⟨g3, 0, none⟩))), .agg #[.int .u64 r2.1, .int .u64 r2.2.1, .int .i64 r2.2.2]⟩] [none, none, none, some (.map (some g2)), some (.agg #[.int .u64 r2.1, .int .u64 r2.2.1, .int .i64 r2.2.2]), none] [10, 73, 74, 75] [pl 10 (.int .i64 w1), pl 73 (.map (some g2)), pl 74 (.agg #[.int .u64 r2.1, .int .u64 r2.2.1, .int .i64 r2.2.2]), pl 75 (.int .i64 w1)] hF hS Fol (by kernel_rfl) (by kernel_rfl) (by kernel_rfl) (by kernel_rfl) (by kernel_rfl) ?_ (fun a w hF hS => ?_)
        · exact obs_cons (ob_load Agg156 (fun _ _ hS => (hS.at_ 0 rfl).cell rfl)) <| obs_cons (ob_loadA (cs := #[.int .u64 r2.1, .int .u64 r2.2.1, .int .i64 r2.2.2]) (by kernel_rfl) (by kernel_rfl) (fun _ _ hS => (hS.at_ 3 rfl).cellsAt 0 (by rfl))) <| obs_nil
        obtain ⟨w, hrun, hS⟩ := run_mput (P := Try.prog) (t := 156) (vf := (Value.int .i64)) MK240 UndM156 (r2.1, r2.2.1, r2.2.2) w1 (hS.at_ 2 rfl)
        refine at_skip hF (by kernel_rfl) hrun ?_
        have hS : Sep w0 B w (blk g1 158 #[.int .i64 s_Grid_W1, .int .i64 s_Grid_H1, .slice A1 s_Grid_Cells1.length c1, .map (some g2)] :: own 3 (.slice A1 s_Grid_Cells1.length c1) (vI s5) :: mapH kf240 (Value.int .i64) g2 (mput (r2.1, r2.2.1, r2.2.2) w1 s6) :: blk g3 240 #[.int .u64 r2.1, .int .u64 r2.2.1, .int .i64 r2.2.2] :: fs) := hS
        refine at_end [10] [pl 10 (.int .i64 w1)] hF rfl (by kernel_rfl) (fun hF => ?_)
        refine np_n ?_
        refine then_n ?_
        refine reg [] [] [4] [pl 4 (.int .i64 w1)] hF hS Fol (by kernel_rfl) (by kernel_rfl) (by kernel_rfl) ?_ (fun a w hF hS => ?_)
        · exact obs_nil
        refine wpIn_ret ?_
        have hS := hS.pickN 4 [0, 1, 2] (by decide)
        have hm : some (w1, s5, (mput (r2.1, r2.2.1, r2.2.2) w1 s6)) = some r := hm
        obtain rfl := Option.some.inj hm
        exact retV (rs := [.tmp 4]) (vs := [.int .i64 w1]) hF rfl (rv_t (by kernel_rfl) <| rv_nil) rfl ⟨_, rfl, rfl, hS⟩
      · refine reg [⟨false, [], vS (Instr.loadAt 27 (.pointer (some ⟨g1, 2, none⟩))), .slice A1 s_Grid_Cells1.length c1⟩] [none, none, none, none, some (.slice A1 s_Grid_Cells1.length c1), none, none] [0, 1, 7, 10, 51, 52, 53] [pl 0 (.pointer (some ⟨g1, 0, none⟩)), pl 1 (.int .i64 who1), pl 7 (.pointer (some ⟨g3, 0, none⟩)), pl 10 (.int .i64 (w64 (3 - who1))), pl 51 (.slice A1 s_Grid_Cells1.length c1), pl 52 (.int .i64 (s_Grid_Cells1.length : Int)), pl 53 (.int .i64 0)] hF hS Fol (by kernel_rfl) (by kernel_rfl) (by kernel_rfl) ?_ (fun a w hF hS => ?_)
        · exact obs_cons (ob_load Agg27 (fun _ _ hS => (hS.at_ 0 rfl).cell rfl)) <| obs_nil
        refine wpIn_block ?_
        refine wp_loop_model (S := (List Int × List ((Int × Int × Int) × Int) × Int)) (R := (List Int × List ((Int × Int × Int) × Int) × Int)) (hex_solver_winner_L1 rec_hex_solver_after s_Grid_W1 s_Grid_H1 s_Grid_Cells1 who1) (fun x => ((hex_solver_winner_K1 r2) x).bind some) r (fun (x : (List Int × List ((Int × Int × Int) × Int) × Int)) a w => Fr 77 [pl 0 (.pointer (some ⟨g1, 0, none⟩)), pl 1 (.int .i64 who1), pl 7 (.pointer (some ⟨g3, 0, none⟩)), pl 10 (.int .i64 (w64 (3 - who1))), pl 51 (.slice A1 s_Grid_Cells1.length c1), pl 52 (.int .i64 (s_Grid_Cells1.length : Int)), pl 53 (.int .i64 x.2.2)] a ∧ Sep w0 B w (blk g1 158 #[.int .i64 s_Grid_W1, .int .i64 s_Grid_H1, .slice A1 s_Grid_Cells1.length c1, .map (some g2)] :: own 3 (.slice A1 s_Grid_Cells1.length c1) (vI x.1) :: mapH kf240 (Value.int .i64) g2 x.2.1 :: blk g3 240 #[.int .u64 r2.1, .int .u64 r2.2.1, .int .i64 r2.2.2] :: fs)) (assoc_b hm) ⟨hF.weak [0, 1, 7, 10, 51, 52, 53] (by kernel_rfl), hS⟩ ?_
        clear hF hS hm
        rintro nn1 ⟨s3, s4, z1⟩ a w ⟨hF, hS⟩ hm
        generalize hφ1 : stK (hex_solver_winner_L1 rec_hex_solver_after s_Grid_W1 s_Grid_H1 s_Grid_Cells1 who1) nn1 (fun x => ((hex_solver_winner_K1 r2) x).bind some) = φ1 at hm
        unfold hex_solver_winner_L1 at hm
        dsimp only at hF hS hm
        refine reg [] [] [0, 1, 7, 10, 51, 52, 53, 54] [pl 0 (.pointer (some ⟨g1, 0, none⟩)), pl 1 (.int .i64 who1), pl 7 (.pointer (some ⟨g3, 0, none⟩)), pl 10 (.int .i64 (w64 (3 - who1))), pl 51 (.slice A1 s_Grid_Cells1.length c1), pl 52 (.int .i64 (s_Grid_Cells1.length : Int)), pl 53 (.int .i64 z1), pl 54 (.bool (decide (z1 < (s_Grid_Cells1.length : Int))))] hF hS Fol (by kernel_rfl) (by kernel_rfl) (by kernel_rfl) ?_ (fun a w hF hS => ?_)
        · exact obs_nil
        refine seq_cut (fun a w => Fr 77 [pl 0 (.pointer (some ⟨g1, 0, none⟩)), pl 1 (.int .i64 who1), pl 7 (.pointer (some ⟨g3, 0, none⟩)), pl 10 (.int .i64 (w64 (3 - who1))), pl 51 (.slice A1 s_Grid_Cells1.length c1), pl 52 (.int .i64 (s_Grid_Cells1.length : Int)), pl 53 (.int .i64 z1)] a ∧ Sep w0 B w (blk g1 158 #[.int .i64 s_Grid_W1, .int .i64 s_Grid_H1, .slice A1 s_Grid_Cells1.length c1, .map (some g2)] :: own 3 (.slice A1 s_Grid_Cells1.length c1) (vI s3) :: mapH kf240 (Value.int .i64) g2 s4 :: blk g3 240 #[.int .u64 r2.1, .int .u64 r2.2.1, .int .i64 r2.2.2] :: fs) ∧ ((hex_solver_winner_J4 rec_hex_solver_after s_Grid_W1 s_Grid_H1 s_Grid_Cells1 who1 s3 s4 z1)).bind φ1 = some r) ?_ ?_
        · rintro a w ⟨hF, hS, hm⟩
          unfold hex_solver_winner_J4 at hm
          refine seq_cut (fun a w => ∃ (s9 : List Int) (s10 : List ((Int × Int × Int) × Int)), Fr 77 [pl 0 (.pointer (some ⟨g1, 0, none⟩)), pl 1 (.int .i64 who1), pl 7 (.pointer (some ⟨g3, 0, none⟩)), pl 10 (.int .i64 (w64 (3 - who1))), pl 51 (.slice A1 s_Grid_Cells1.length c1), pl 52 (.int .i64 (s_Grid_Cells1.length : Int)), pl 53 (.int .i64 z1)] a ∧ Sep w0 B w (blk g1 158 #[.int .i64 s_Grid_W1, .int .i64 s_Grid_H1, .slice A1 s_Grid_Cells1.length c1, .map (some g2)] :: own 3 (.slice A1 s_Grid_Cells1.length c1) (vI s9) :: mapH kf240 (Value.int .i64) g2 s10 :: blk g3 240 #[.int .u64 r2.1, .int .u64 r2.2.1, .int .i64 r2.2.2] :: fs) ∧ ((hex_solver_winner_J5 z1) s9 s10).bind φ1 = some r) ?_ ?_
          · rintro a w ⟨s9, s10, hF, hS, hm⟩
            unfold hex_solver_winner_J5 at hm
            refine reg1 [] [] [0, 1, 7, 10, 51, 52, 53] [pl 0 (.pointer (some ⟨g1, 0, none⟩)), pl 1 (.int .i64 who1), pl 7 (.pointer (some ⟨g3, 0, none⟩)), pl 10 (.int .i64 (w64 (3 - who1))), pl 51 (.slice A1 s_Grid_Cells1.length c1), pl 52 (.int .i64 (s_Grid_Cells1.length : Int)), pl 53 (.int .i64 (w64 (z1 + 1)))] hF hS Fol (by kernel_rfl) (by kernel_rfl) (by kernel_rfl) ?_ (fun a w hF hS => ?_)
            · exact obs_nil
            refine then_n ?_
            rw [← hφ1] at hm
            exact ⟨(s9, s10, (w64 (z1 + 1))), ⟨hF.weak [0, 1, 7, 10, 51, 52, 53] (by kernel_rfl), hS⟩, hm⟩
          · refine wpIn_block ?_
            obtain ⟨hp1, hm⟩ := asrt_b hm
            refine reg [⟨true, [], vS (Instr.indexAt 27 (.slice A1 s_Grid_Cells1.length c1) (.int .i64 z1)), .pointer (some (sAddr A1 z1))⟩, ⟨false, [], vS (Instr.loadAt 3 (.pointer (some (sAddr A1 z1)))), .int .i64 (geti s3 z1)⟩] [none, some (.pointer (some (sAddr A1 z1))), some (.int .i64 (geti s3 z1)), none, none] [0, 1, 7, 10, 11, 12, 51, 52, 53] [pl 0 (.pointer (some ⟨g1, 0, none⟩)), pl 1 (.int .i64 who1), pl 7 (.pointer (some ⟨g3, 0, none⟩)), pl 10 (.int .i64 (w64 (3 - who1))), pl 11 (.int .i64 z1), pl 12 (.int .i64 (geti s3 z1)), pl 51 (.slice A1 s_Grid_Cells1.length c1), pl 52 (.int .i64 (s_Grid_Cells1.length : Int)), pl 53 (.int .i64 z1)] hF hS Fol (by kernel_rfl) (by kernel_rfl) (by kernel_rfl) ?_ (fun a w hF hS => ?_)
            · exact obs_cons (ob_ix1 (f := (Value.int .i64)) (m := s3) Und27 hi3 hs3 (hS.at_ 1 rfl).rd ((hS.at_ 1 rfl).len1) (fun _ => hp1)) <| obs_cons (ob_get1 (n := s_Grid_Cells1.length) (m := s3) (Value.int .i64) (0 : Int) Agg3 (fun _ hS => ⟨_, (hS.at_ 1 rfl).rd⟩) (fun _ hS => ((hS.at_ 1 rfl).len1)) (fun _ => hp1)) <| obs_nil
            refine seq_cut (fun a w => ∃ (s7 : List Int) (s8 : List ((Int × Int × Int) × Int)) (z2 : Bool), Fr 77 [pl 0 (.pointer (some ⟨g1, 0, none⟩)), pl 1 (.int .i64 who1), pl 7 (.pointer (some ⟨g3, 0, none⟩)), pl 10 (.int .i64 (w64 (3 - who1))), pl 51 (.slice A1 s_Grid_Cells1.length c1), pl 52 (.int .i64 (s_Grid_Cells1.length : Int)), pl 53 (.int .i64 z1), pl 67 (.bool z2)] a ∧ Sep w0 B w (blk g1 158 #[.int .i64 s_Grid_W1, .int .i64 s_Grid_H1, .slice A1 s_Grid_Cells1.length c1, .map (some g2)] :: own 3 (.slice A1 s_Grid_Cells1.length c1) (vI s7) :: mapH kf240 (Value.int .i64) g2 s8 :: blk g3 240 #[.int .u64 r2.1, .int .u64 r2.2.1, .int .i64 r2.2.2] :: fs) ∧ ((hex_solver_winner_J6 who1 z1) s7 s8 z2).bind φ1 = some r) ?_ ?_
            · rintro a w ⟨s7, s8, z2, hF, hS, hm⟩
              unfold hex_solver_winner_J6 at hm
              refine cond_ev (t := 67) (b := z2) hF (by kernel_rfl) (fun hb => ?_) (fun hb => ?_)
              · replace hm := if_t hm hb
                refine reg [] [] [0, 7, 10] [pl 0 (.pointer (some ⟨g1, 0, none⟩)), pl 7 (.pointer (some ⟨g3, 0, none⟩)), pl 10 (.int .i64 who1)] hF hS Fol (by kernel_rfl) (by kernel_rfl) (by kernel_rfl) ?_ (fun a w hF hS => ?_)
                · exact obs_nil
                refine wpIn_exit ?_
                refine block_o rfl (then_e (then_e (block_e (then_n ?_))))
                rw [← hφ1] at hm
                replace hm := done_b hm
                unfold hex_solver_winner_K1 at hm
                try dsimp only at hm
                have hm : ((hex_solver_winner_J3 r2) s7 s8 who1).bind some = some r := hm
                exact ⟨s7, s8, who1, hF.weak [0, 7, 10] (by kernel_rfl), hS, hm⟩
              · replace hm := if_f hm hb
                refine wpIn_skip ?_
                refine block_n ?_
                refine then_n ?_
                exact ⟨s7, s8, hF.weak [0, 1, 7, 10, 51, 52, 53] (by kernel_rfl), hS, hm⟩
            · refine oneR ?_
              refine at_run 6 [] [] [0, 1, 7, 10, 51, 52, 53, 60, 61, 62, 63] [pl 0 (.pointer (some ⟨g1, 0, none⟩)), pl 1 (.int .i64 who1), pl 7 (.pointer (some ⟨g3, 0, none⟩)), pl 10 (.int .i64 (w64 (3 - who1))), pl 51 (.slice A1 s_Grid_Cells1.length c1), pl 52 (.int .i64 (s_Grid_Cells1.length : Int)), pl 53 (.int .i64 z1), pl 60 (.bool ((geti s3 z1) == 0)), ⟨61, [(60, true)], .pointer (some ⟨g1, 0, none⟩)⟩, ⟨62, [(60, true)], .int .i64 z1⟩, ⟨63, [(60, true)], .int .i64 who1⟩] hF hS (by kernel_rfl) (by kernel_rfl) ?_ (fun a w hF hS => ?_)
              · exact obs_nil
              rcases Bool.eq_false_or_eq_true ((geti s3 z1) == 0) with hg1 | hg1
              · replace hm := if_t hm hg1
                obtain ⟨r3, hr3, hm⟩ := call_b hm
                refine at_gcall (hs := [(((geti s3 z1) == 0), true)]) (fun y hy => by simp only [List.mem_cons, List.not_mem_nil, or_false] at hy; subst hy; first | exact hg1) (f := 117) (args := #[.pointer (some ⟨g1, 0, none⟩), .int .i64 z1, .int .i64 who1]) (d := 64) hF (by kernel_rfl) (by kernel_rfl) Try.func117 (by kernel_rfl) rfl (ih_hex_solver_after hr3 hS ) (fun v a w hR hF => ?_)
                clear hS
                obtain ⟨rfl, hS⟩ := hR
                have hS : Sep w0 B w (blk g1 158 #[.int .i64 s_Grid_W1, .int .i64 s_Grid_H1, .slice A1 s_Grid_Cells1.length c1, .map (some g2)] :: own 3 (.slice A1 s_Grid_Cells1.length c1) (vI r3.2.1) :: mapH kf240 (Value.int .i64) g2 r3.2.2 :: blk g3 240 #[.int .u64 r2.1, .int .u64 r2.2.1, .int .i64 r2.2.2] :: fs) := hS
                refine at_run 3 [] [] [0, 1, 7, 10, 51, 52, 53, 67] [pl 0 (.pointer (some ⟨g1, 0, none⟩)), pl 1 (.int .i64 who1), pl 7 (.pointer (some ⟨g3, 0, none⟩)), pl 10 (.int .i64 (w64 (3 - who1))), pl 51 (.slice A1 s_Grid_Cells1.length c1), pl 52 (.int .i64 (s_Grid_Cells1.length : Int)), pl 53 (.int .i64 z1), pl 67 (.bool (((geti s3 z1) == 0) && (r3.1 == who1)))] hF hS (by kernel_rfl) (by kernel_rfl) ?_ (fun a w hF hS => ?_)
                · exact obs_nil
                refine at_end [0, 1, 7, 10, 51, 52, 53, 67] [pl 0 (.pointer (some ⟨g1, 0, none⟩)), pl 1 (.int .i64 who1), pl 7 (.pointer (some ⟨g3, 0, none⟩)), pl 10 (.int .i64 (w64 (3 - who1))), pl 51 (.slice A1 s_Grid_Cells1.length c1), pl 52 (.int .i64 (s_Grid_Cells1.length : Int)), pl 53 (.int .i64 z1), pl 67 (.bool (((geti s3 z1) == 0) && (r3.1 == who1)))] hF rfl (by kernel_rfl) (fun hF => ?_)
                refine then_n ?_
                exact ⟨r3.2.1, r3.2.2, (((geti s3 z1) == 0) && (r3.1 == who1)), hF.weak [0, 1, 7, 10, 51, 52, 53, 67] (by kernel_rfl), hS, hm⟩
              · replace hm := if_f hm hg1
                refine at_gskip (d := 64) (v := .int .i64 0) (hs := [(((geti s3 z1) == 0), true)]) (ctx := [(60, true)]) hF (by kernel_rfl) (by kernel_rfl) (fun h => absurd (h (((geti s3 z1) == 0), true) (by simp)) (by simp [hg1])) (fun a hF => ?_)
                refine at_run 3 [] [] [0, 1, 7, 10, 51, 52, 53, 67] [pl 0 (.pointer (some ⟨g1, 0, none⟩)), pl 1 (.int .i64 who1), pl 7 (.pointer (some ⟨g3, 0, none⟩)), pl 10 (.int .i64 (w64 (3 - who1))), pl 51 (.slice A1 s_Grid_Cells1.length c1), pl 52 (.int .i64 (s_Grid_Cells1.length : Int)), pl 53 (.int .i64 z1), pl 67 (.bool (((geti s3 z1) == 0) && ((0 : Int) == who1)))] hF hS (by kernel_rfl) (by kernel_rfl) ?_ (fun a w hF hS => ?_)
                · exact obs_nil
                refine at_end [0, 1, 7, 10, 51, 52, 53, 67] [pl 0 (.pointer (some ⟨g1, 0, none⟩)), pl 1 (.int .i64 who1), pl 7 (.pointer (some ⟨g3, 0, none⟩)), pl 10 (.int .i64 (w64 (3 - who1))), pl 51 (.slice A1 s_Grid_Cells1.length c1), pl 52 (.int .i64 (s_Grid_Cells1.length : Int)), pl 53 (.int .i64 z1), pl 67 (.bool (((geti s3 z1) == 0) && ((0 : Int) == who1)))] hF rfl (by kernel_rfl) (fun hF => ?_)
                refine then_n ?_
                exact ⟨s3, s4, (((geti s3 z1) == 0) && ((0 : Int) == who1)), hF.weak [0, 1, 7, 10, 51, 52, 53, 67] (by kernel_rfl), hS, hm⟩
        · refine cond_ev (t := 54) (b := decide (z1 < (s_Grid_Cells1.length : Int))) hF (by kernel_rfl) (fun hb => ?_) (fun hb => ?_)
          · replace hm := if_t hm hb
            refine wpIn_skip ?_
            refine then_n ?_
            exact ⟨hF.weak [0, 1, 7, 10, 51, 52, 53] (by kernel_rfl), hS, hm⟩
          · replace hm := if_f hm hb
            refine wpIn_exit ?_
            refine then_e (then_e (block_e (then_n ?_)))
            rw [← hφ1] at hm
            replace hm := done_b hm
            unfold hex_solver_winner_K1 at hm
            try dsimp only at hm
            have hm : ((hex_solver_winner_J3 r2) s3 s4 (w64 (3 - who1))).bind some = some r := hm
            exact ⟨s3, s4, (w64 (3 - who1)), hF.weak [0, 7, 10] (by kernel_rfl), hS, hm⟩
    · refine reg [⟨false, [], vS (Instr.loadAt 27 (.pointer (some ⟨g1, 2, none⟩))), .slice A1 s_Grid_Cells1.length c1⟩] [none, none, none, none, some (.slice A1 s_Grid_Cells1.length c1), none, none] [0, 1, 7, 33] [pl 0 (.pointer (some ⟨g1, 0, none⟩)), pl 1 (.int .i64 who1), pl 7 (.pointer (some ⟨g3, 0, none⟩)), pl 33 (.bool (decide ((s_Grid_Cells1.length : Int) ≤ 64)))] hF hS Fol (by kernel_rfl) (by kernel_rfl) (by kernel_rfl) ?_ (fun a w hF hS => ?_)
      · exact obs_cons (ob_load Agg27 (fun _ _ hS => (hS.at_ 1 rfl).cell rfl)) <| obs_nil
      refine cond_ev (t := 33) (b := decide ((s_Grid_Cells1.length : Int) ≤ 64)) hF (by kernel_rfl) (fun hb => ?_) (fun hb => ?_)
      · replace hm := if_t hm hb
        refine reg [⟨false, [], vS (Instr.loadAt 156 (.pointer (some ⟨g1, 3, none⟩))), .map (some g2)⟩, ⟨false, [], vS (Instr.loadAt 240 (.pointer (some ⟨g3, 0, none⟩))), .agg #[.int .u64 r2.1, .int .u64 r2.2.1, .int .i64 r2.2.2]⟩, ⟨false, [], vS (Instr.lookup 156 (.map (some g2)) (.agg #[.int .u64 r2.1, .int .u64 r2.2.1, .int .i64 r2.2.2]) true), .tuple #[.int .i64 (mget (0 : Int) (r2.1, r2.2.1, r2.2.2) s_known1), .bool (mhas (r2.1, r2.2.1, r2.2.2) s_known1)]⟩] [none, none, none, some (.map (some g2)), some (.agg #[.int .u64 r2.1, .int .u64 r2.2.1, .int .i64 r2.2.2]), some (.tuple #[.int .i64 (mget (0 : Int) (r2.1, r2.2.1, r2.2.2) s_known1), .bool (mhas (r2.1, r2.2.1, r2.2.2) s_known1)]), none, none, none, none, none] [0, 1, 7, 8, 9] [pl 0 (.pointer (some ⟨g1, 0, none⟩)), pl 1 (.int .i64 who1), pl 7 (.pointer (some ⟨g3, 0, none⟩)), pl 8 (.int .i64 (mget (0 : Int) (r2.1, r2.2.1, r2.2.2) s_known1)), pl 9 (.bool (mhas (r2.1, r2.2.1, r2.2.2) s_known1))] hF hS Fol (by kernel_rfl) (by kernel_rfl) (by kernel_rfl) ?_ (fun a w hF hS => ?_)
        · exact obs_cons (ob_load Agg156 (fun _ _ hS => (hS.at_ 1 rfl).cell rfl)) <| obs_cons (ob_loadA (cs := #[.int .u64 r2.1, .int .u64 r2.2.1, .int .i64 r2.2.2]) (by kernel_rfl) (by kernel_rfl) (fun _ _ hS => (hS.at_ 0 rfl).cellsAt 0 (by rfl))) <| obs_cons (ob_look2 (k := (r2.1, r2.2.1, r2.2.2)) (m := s_known1) MK240 UndM156 (z := (0 : Int)) MZ3 (fun _ hS => ⟨_, _, _, _, hS.at_ 3 rfl⟩)) <| obs_nil
        refine reg [] [] [0, 1, 7, 8, 43] [pl 0 (.pointer (some ⟨g1, 0, none⟩)), pl 1 (.int .i64 who1), pl 7 (.pointer (some ⟨g3, 0, none⟩)), pl 8 (.int .i64 (mget (0 : Int) (r2.1, r2.2.1, r2.2.2) s_known1)), pl 43 (.bool (mhas (r2.1, r2.2.1, r2.2.2) s_known1))] hF hS Fol (by kernel_rfl) (by kernel_rfl) (by kernel_rfl) ?_ (fun a w hF hS => ?_)
        · exact obs_nil
        refine cond_ev (t := 43) (b := (mhas (r2.1, r2.2.1, r2.2.2) s_known1)) hF (by kernel_rfl) (fun hb => ?_) (fun hb => ?_)
        · replace hm := if_t hm hb
          refine reg [] [] [4] [pl 4 (.int .i64 (mget (0 : Int) (r2.1, r2.2.1, r2.2.2) s_known1))] hF hS Fol (by kernel_rfl) (by kernel_rfl) (by kernel_rfl) ?_ (fun a w hF hS => ?_)
          · exact obs_nil
          refine wpIn_ret ?_
          refine then_r ?_
          have hS := hS.pickN 4 [1, 2, 3] (by decide)
          have hm : some ((mget (0 : Int) (r2.1, r2.2.1, r2.2.2) s_known1), s_Grid_Cells1, s_known1) = some r := hm
          obtain rfl := Option.some.inj hm
          exact retV (rs := [.tmp 4]) (vs := [.int .i64 (mget (0 : Int) (r2.1, r2.2.1, r2.2.2) s_known1)]) hF rfl (rv_t (by kernel_rfl) <| rv_nil) rfl ⟨_, rfl, rfl, hS⟩
        · replace hm := if_f hm hb
          refine wpIn_skip ?_
          refine then_n ?_
          have hS := hS.pickN 4 [1, 2, 3, 0] (by decide)
          exact ⟨hF.weak [0, 1, 7] (by kernel_rfl), hS, hm⟩
      · replace hm := if_f hm hb
        refine wpIn_skip ?_
        refine then_n ?_
        have hS := hS.pickN 4 [1, 2, 3, 0] (by decide)
        exact ⟨hF.weak [0, 1, 7] (by kernel_rfl), hS, hm⟩
  · refine seqR ?_
    obtain ⟨r1, hr1, hm⟩ := call_b hm
    refine at_run 4 [⟨false, [], vS (Instr.loadAt 64 (.pointer (some ⟨g1, 0, none⟩))), .agg #[.int .i64 s_Grid_W1, .int .i64 s_Grid_H1, .slice A1 s_Grid_Cells1.length c1]⟩] [none, none, none, some (.agg #[.int .i64 s_Grid_W1, .int .i64 s_Grid_H1, .slice A1 s_Grid_Cells1.length c1])] [0, 1, 17] [pl 0 (.pointer (some ⟨g1, 0, none⟩)), pl 1 (.int .i64 who1), pl 17 (.agg #[.int .i64 s_Grid_W1, .int .i64 s_Grid_H1, .slice A1 s_Grid_Cells1.length c1])] hF hS (by kernel_rfl) (by kernel_rfl) ?_ (fun a w hF hS => ?_)
    · exact obs_cons (ob_loadA (cs := #[.int .i64 s_Grid_W1, .int .i64 s_Grid_H1, .slice A1 s_Grid_Cells1.length c1]) (by kernel_rfl) (by kernel_rfl) (fun _ _ hS => (hS.at_ 0 rfl).cellsAt 0 (by rfl))) <| obs_nil
    refine at_call (f := 116) (args := #[.agg #[.int .i64 s_Grid_W1, .int .i64 s_Grid_H1, .slice A1 s_Grid_Cells1.length c1]]) (d := 18) hF (by kernel_rfl) (by kernel_rfl) Try.func116 (by kernel_rfl) rfl (hex_joined_w hr1 hS (fun _ hS => (hS.at_ 1 rfl).rd) ((hS.at_ 1 rfl).cap1) rfl) (fun v a w hR hF => ?_)
    clear hS
    obtain ⟨A2, c2, rfl, hS⟩ := hR
    have hS : Sep w0 B w (own 3 (.slice A2 r1.2.length c2) (vI r1.2) :: blk g1 158 #[.int .i64 s_Grid_W1, .int .i64 s_Grid_H1, .slice A1 s_Grid_Cells1.length c1, .map (some g2)] :: own 3 (.slice A1 s_Grid_Cells1.length c1) (vI s_Grid_Cells1) :: mapH kf240 (Value.int .i64) g2 s_known1 :: fs) := hS
    refine at_run 5 [] [] [0, 1, 5] [pl 0 (.pointer (some ⟨g1, 0, none⟩)), pl 1 (.int .i64 who1), pl 5 (.int .i64 r1.1)] hF hS (by kernel_rfl) (by kernel_rfl) ?_ (fun a w hF hS => ?_)
    · exact obs_nil
    refine at_end [0, 1, 5] [pl 0 (.pointer (some ⟨g1, 0, none⟩)), pl 1 (.int .i64 who1), pl 5 (.int .i64 r1.1)] hF rfl (by kernel_rfl) (fun hF => ?_)
    refine then_n ?_
    refine reg [] [] [0, 1, 5, 22] [pl 0 (.pointer (some ⟨g1, 0, none⟩)), pl 1 (.int .i64 who1), pl 5 (.int .i64 r1.1), pl 22 (.bool (decide ((0 : Int) < r1.1)))] hF hS Fol (by kernel_rfl) (by kernel_rfl) (by kernel_rfl) ?_ (fun a w hF hS => ?_)
    · exact obs_nil
    refine cond_ev (t := 22) (b := decide ((0 : Int) < r1.1)) hF (by kernel_rfl) (fun hb => ?_) (fun hb => ?_)
    · replace hm := if_t hm hb
      refine reg [] [] [4] [pl 4 (.int .i64 r1.1)] hF hS Fol (by kernel_rfl) (by kernel_rfl) (by kernel_rfl) ?_ (fun a w hF hS => ?_)
      · exact obs_nil
      refine wpIn_ret ?_
      refine then_r ?_
      have hS := hS.pickN 4 [1, 2, 3] (by decide)
      have hm : some (r1.1, s_Grid_Cells1, s_known1) = some r := hm
      obtain rfl := Option.some.inj hm
      exact retV (rs := [.tmp 4]) (vs := [.int .i64 r1.1]) hF rfl (rv_t (by kernel_rfl) <| rv_nil) rfl ⟨_, rfl, rfl, hS⟩
    · replace hm := if_f hm hb
      refine wpIn_skip ?_
      refine then_n ?_
      have hS := hS.pickN 4 [1, 2, 3] (by decide)
      exact ⟨hF.weak [0, 1] (by kernel_rfl), hS, hm⟩

set_option maxRecDepth 100000 in
theorem hex_solver_winner_J4_le_hex_solver_after {rec_hex_solver_after1 rec_hex_solver_after2 : Int → Int → List Int → List ((Int × Int × Int) × Int) → Int → Int → Option (Int × List Int × List ((Int × Int × Int) × Int))} (h_rec_hex_solver_after : ∀ a0 a1 a2 a3 a4 a5, Le (rec_hex_solver_after1 a0 a1 a2 a3 a4 a5) (rec_hex_solver_after2 a0 a1 a2 a3 a4 a5)) (s_Grid_W1 : Int) (s_Grid_H1 : Int) (s_Grid_Cells1 : List Int) (who1 : Int) (s3 : List Int) (s4 : List ((Int × Int × Int) × Int)) (z1 : Int) : Le (hex_solver_winner_J4 rec_hex_solver_after1 s_Grid_W1 s_Grid_H1 s_Grid_Cells1 who1 s3 s4 z1) (hex_solver_winner_J4 rec_hex_solver_after2 s_Grid_W1 s_Grid_H1 s_Grid_Cells1 who1 s3 s4 z1) := by
  unfold hex_solver_winner_J4
  repeat' (first | with_reducible exact Le.refl _ | with_reducible exact h_rec_hex_solver_after _ _ _ _ _ _ | with_reducible refine Le.asrt ?_ | with_reducible refine Le.ite ?_ ?_ | refine Le.bind ?_ (fun _ => ?_) | refine Le.loop2 (fun _ => ?_) | refine Le.elim2 (fun _ => ?_) (fun _ => ?_))

set_option maxRecDepth 100000 in
theorem hex_solver_winner_L1_le_hex_solver_after {rec_hex_solver_after1 rec_hex_solver_after2 : Int → Int → List Int → List ((Int × Int × Int) × Int) → Int → Int → Option (Int × List Int × List ((Int × Int × Int) × Int))} (h_rec_hex_solver_after : ∀ a0 a1 a2 a3 a4 a5, Le (rec_hex_solver_after1 a0 a1 a2 a3 a4 a5) (rec_hex_solver_after2 a0 a1 a2 a3 a4 a5)) (s_Grid_W1 : Int) (s_Grid_H1 : Int) (s_Grid_Cells1 : List Int) (who1 : Int) (x : (List Int × List ((Int × Int × Int) × Int) × Int)) : Le (hex_solver_winner_L1 rec_hex_solver_after1 s_Grid_W1 s_Grid_H1 s_Grid_Cells1 who1 x) (hex_solver_winner_L1 rec_hex_solver_after2 s_Grid_W1 s_Grid_H1 s_Grid_Cells1 who1 x) := by
  rcases x with ⟨s3, s4, z1⟩
  all_goals
    unfold hex_solver_winner_L1
    try dsimp only
    repeat' (first | with_reducible exact Le.refl _ | with_reducible exact h_rec_hex_solver_after _ _ _ _ _ _ | with_reducible exact hex_solver_winner_J4_le_hex_solver_after h_rec_hex_solver_after _ _ _ _ _ _ _ | with_reducible refine Le.asrt ?_ | with_reducible refine Le.ite ?_ ?_ | refine Le.bind ?_ (fun _ => ?_) | refine Le.loop2 (fun _ => ?_) | refine Le.elim2 (fun _ => ?_) (fun _ => ?_))

set_option maxRecDepth 100000 in
theorem hex_solver_winner_J2_le_hex_solver_after {rec_hex_solver_after1 rec_hex_solver_after2 : Int → Int → List Int → List ((Int × Int × Int) × Int) → Int → Int → Option (Int × List Int × List ((Int × Int × Int) × Int))} (h_rec_hex_solver_after : ∀ a0 a1 a2 a3 a4 a5, Le (rec_hex_solver_after1 a0 a1 a2 a3 a4 a5) (rec_hex_solver_after2 a0 a1 a2 a3 a4 a5)) (s_Grid_W1 : Int) (s_Grid_H1 : Int) (s_Grid_Cells1 : List Int) (s_known1 : List ((Int × Int × Int) × Int)) (who1 : Int) (r2 : (Int × Int × Int)) : Le (hex_solver_winner_J2 rec_hex_solver_after1 s_Grid_W1 s_Grid_H1 s_Grid_Cells1 s_known1 who1 r2) (hex_solver_winner_J2 rec_hex_solver_after2 s_Grid_W1 s_Grid_H1 s_Grid_Cells1 s_known1 who1 r2) := by
  unfold hex_solver_winner_J2
  repeat' (first | with_reducible exact Le.refl _ | with_reducible exact h_rec_hex_solver_after _ _ _ _ _ _ | with_reducible exact hex_solver_winner_L1_le_hex_solver_after h_rec_hex_solver_after _ _ _ _ _ | with_reducible refine Le.asrt ?_ | with_reducible refine Le.ite ?_ ?_ | refine Le.bind ?_ (fun _ => ?_) | refine Le.loop2 (fun _ => ?_) | refine Le.elim2 (fun _ => ?_) (fun _ => ?_))

set_option maxRecDepth 100000 in
theorem hex_solver_winner_J1_le_hex_solver_after {rec_hex_solver_after1 rec_hex_solver_after2 : Int → Int → List Int → List ((Int × Int × Int) × Int) → Int → Int → Option (Int × List Int × List ((Int × Int × Int) × Int))} (h_rec_hex_solver_after : ∀ a0 a1 a2 a3 a4 a5, Le (rec_hex_solver_after1 a0 a1 a2 a3 a4 a5) (rec_hex_solver_after2 a0 a1 a2 a3 a4 a5)) (s_Grid_W1 : Int) (s_Grid_H1 : Int) (s_Grid_Cells1 : List Int) (s_known1 : List ((Int × Int × Int) × Int)) (who1 : Int) : Le (hex_solver_winner_J1 rec_hex_solver_after1 s_Grid_W1 s_Grid_H1 s_Grid_Cells1 s_known1 who1) (hex_solver_winner_J1 rec_hex_solver_after2 s_Grid_W1 s_Grid_H1 s_Grid_Cells1 s_known1 who1) := by
  unfold hex_solver_winner_J1
  repeat' (first | with_reducible exact Le.refl _ | with_reducible exact h_rec_hex_solver_after _ _ _ _ _ _ | with_reducible exact hex_solver_winner_J2_le_hex_solver_after h_rec_hex_solver_after _ _ _ _ _ _ | with_reducible refine Le.asrt ?_ | with_reducible refine Le.ite ?_ ?_ | refine Le.bind ?_ (fun _ => ?_) | refine Le.loop2 (fun _ => ?_) | refine Le.elim2 (fun _ => ?_) (fun _ => ?_))

set_option maxRecDepth 100000 in
theorem hex_solver_winner_m_le_hex_solver_after {rec_hex_solver_after1 rec_hex_solver_after2 : Int → Int → List Int → List ((Int × Int × Int) × Int) → Int → Int → Option (Int × List Int × List ((Int × Int × Int) × Int))} (h_rec_hex_solver_after : ∀ a0 a1 a2 a3 a4 a5, Le (rec_hex_solver_after1 a0 a1 a2 a3 a4 a5) (rec_hex_solver_after2 a0 a1 a2 a3 a4 a5)) (s_Grid_W1 : Int) (s_Grid_H1 : Int) (s_Grid_Cells1 : List Int) (s_known1 : List ((Int × Int × Int) × Int)) (who1 : Int) : Le (hex_solver_winner_m rec_hex_solver_after1 s_Grid_W1 s_Grid_H1 s_Grid_Cells1 s_known1 who1) (hex_solver_winner_m rec_hex_solver_after2 s_Grid_W1 s_Grid_H1 s_Grid_Cells1 s_known1 who1) := by
  unfold hex_solver_winner_m
  repeat' (first | with_reducible exact Le.refl _ | with_reducible exact h_rec_hex_solver_after _ _ _ _ _ _ | with_reducible exact hex_solver_winner_J1_le_hex_solver_after h_rec_hex_solver_after _ _ _ _ _ | with_reducible refine Le.asrt ?_ | with_reducible refine Le.ite ?_ ?_ | refine Le.bind ?_ (fun _ => ?_) | refine Le.loop2 (fun _ => ?_) | refine Le.elim2 (fun _ => ?_) (fun _ => ?_))

noncomputable def hex_solver_after_B (rec_hex_solver_after : Int → Int → List Int → List ((Int × Int × Int) × Int) → Int → Int → Option (Int × List Int × List ((Int × Int × Int) × Int))) (s_Grid_W1 : Int) (s_Grid_H1 : Int) (s_Grid_Cells1 : List Int) (s_known1 : List ((Int × Int × Int) × Int)) (at1 : Int) (who1 : Int) : Option (Int × List Int × List ((Int × Int × Int) × Int)) :=
  asrt (0 ≤ at1 ∧ at1 < (s_Grid_Cells1.length : Int)) <| ((hex_solver_winner_m rec_hex_solver_after) s_Grid_W1 s_Grid_H1 (s_Grid_Cells1.set (Int.toNat at1) who1) s_known1 (w64 (3 - who1))).bind fun r1 => asrt (0 ≤ at1 ∧ at1 < (s_Grid_Cells1.length : Int)) <| some (r1.1, (r1.2.1.set (Int.toNat at1) 0), r1.2.2)

noncomputable def hex_solver_after_mF : Nat → Int → Int → List Int → List ((Int × Int × Int) × Int) → Int → Int → Option (Int × List Int × List ((Int × Int × Int) × Int))
  | 0 => fun _ _ _ _ _ _ => none
  | n + 1 => fun s_Grid_W1 s_Grid_H1 s_Grid_Cells1 s_known1 at1 who1 => hex_solver_after_B (hex_solver_after_mF n) s_Grid_W1 s_Grid_H1 s_Grid_Cells1 s_known1 at1 who1

noncomputable def hex_solver_after_m (s_Grid_W1 : Int) (s_Grid_H1 : Int) (s_Grid_Cells1 : List Int) (s_known1 : List ((Int × Int × Int) × Int)) (at1 : Int) (who1 : Int) : Option (Int × List Int × List ((Int × Int × Int) × Int)) :=
  recM fun n => hex_solver_after_mF n s_Grid_W1 s_Grid_H1 s_Grid_Cells1 s_known1 at1 who1

set_option maxRecDepth 100000 in
set_option maxHeartbeats 4000000 in
theorem hex_solver_after_wB {rec_hex_solver_after : Int → Int → List Int → List ((Int × Int × Int) × Int) → Int → Int → Option (Int × List Int × List ((Int × Int × Int) × Int))} (ih_hex_solver_after : ∀ {g1 : Nat} {s_Grid_W1 : Int} {s_Grid_H1 : Int} {A1 : Option Addr} {c1 : Nat} {n1 : Nat} {s_Grid_Cells1 : List Int} {g2 : Nat} {s_known1 : List ((Int × Int × Int) × Int)} {at1 : Int} {who1 : Int} {r : (Int × List Int × List ((Int × Int × Int) × Int))} {w0 w : World} {B : Nat} {fs : List HP} (_ : rec_hex_solver_after s_Grid_W1 s_Grid_H1 s_Grid_Cells1 s_known1 at1 who1 = some r) (_ : Sep w0 B w (blk g1 158 #[.int .i64 s_Grid_W1, .int .i64 s_Grid_H1, .slice A1 n1 c1, .map (some g2)] :: own 3 (.slice A1 n1 c1) (vI s_Grid_Cells1) :: mapH kf240 (Value.int .i64) g2 s_known1 :: fs)), Calls Try.prog 117 #[.pointer (some ⟨g1, 0, none⟩), .int .i64 at1, .int .i64 who1] w fun e w' => ∃ v, e = .returned v ∧ v = .int .i64 r.1 ∧ Sep w0 B w' (blk g1 158 #[.int .i64 s_Grid_W1, .int .i64 s_Grid_H1, .slice A1 n1 c1, .map (some g2)] :: own 3 (.slice A1 n1 c1) (vI r.2.1) :: mapH kf240 (Value.int .i64) g2 r.2.2 :: fs)) {g1 : Nat} {s_Grid_W1 : Int} {s_Grid_H1 : Int} {A1 : Option Addr} {c1 : Nat} {n1 : Nat} {s_Grid_Cells1 : List Int} {g2 : Nat} {s_known1 : List ((Int × Int × Int) × Int)} {at1 : Int} {who1 : Int} {r : (Int × List Int × List ((Int × Int × Int) × Int))} {w0 w : World} {B : Nat} {fs : List HP} (hm : hex_solver_after_B rec_hex_solver_after s_Grid_W1 s_Grid_H1 s_Grid_Cells1 s_known1 at1 who1 = some r) (hS : Sep w0 B w (blk g1 158 #[.int .i64 s_Grid_W1, .int .i64 s_Grid_H1, .slice A1 n1 c1, .map (some g2)] :: own 3 (.slice A1 n1 c1) (vI s_Grid_Cells1) :: mapH kf240 (Value.int .i64) g2 s_known1 :: fs)) :
    Calls Try.prog 117 #[.pointer (some ⟨g1, 0, none⟩), .int .i64 at1, .int .i64 who1] w fun e w' => ∃ v, e = .returned v ∧ v = .int .i64 r.1 ∧ Sep w0 B w' (blk g1 158 #[.int .i64 s_Grid_W1, .int .i64 s_Grid_H1, .slice A1 n1 c1, .map (some g2)] :: own 3 (.slice A1 n1 c1) (vI r.2.1) :: mapH kf240 (Value.int .i64) g2 r.2.2 :: fs) := by
  obtain ⟨i3, hi3, hz3, hs3, hb3⟩ := info_parts Info3
  obtain rfl := (hS.at_ 1 rfl).len1
  unfold hex_solver_after_B at hm
  replace hm := start_b hm
  refine enter (l := [.pointer (some ⟨g1, 0, none⟩), .int .i64 at1, .int .i64 who1]) (n := 28) Try.func117 rfl rfl (by simp) (fun a hF => ?_)
  refine reg [] [] [0, 1, 2] [pl 0 (.pointer (some ⟨g1, 0, none⟩)), pl 1 (.int .i64 at1), pl 2 (.int .i64 who1)] hF hS Fol (by kernel_rfl) (by kernel_rfl) (by kernel_rfl) ?_ (fun a w hF hS => ?_)
  · exact obs_nil
  refine seqR ?_
  obtain ⟨hp1, hm⟩ := asrt_b hm
  refine at_run 8 [⟨false, [], vS (Instr.loadAt 27 (.pointer (some ⟨g1, 2, none⟩))), .slice A1 s_Grid_Cells1.length c1⟩, ⟨true, [], vS (Instr.indexAt 27 (.slice A1 s_Grid_Cells1.length c1) (.int .i64 at1)), .pointer (some (sAddr A1 at1))⟩] [none, none, none, none, some (.slice A1 s_Grid_Cells1.length c1), none, none, some (.pointer (some (sAddr A1 at1)))] [0, 1, 2, 14, 15] [pl 0 (.pointer (some ⟨g1, 0, none⟩)), pl 1 (.int .i64 at1), pl 2 (.int .i64 who1), pl 14 (.int .i64 who1), pl 15 (.pointer (some (sAddr A1 at1)))] hF hS (by kernel_rfl) (by kernel_rfl) ?_ (fun a w hF hS => ?_)
  · exact obs_cons (ob_load Agg27 (fun _ _ hS => (hS.at_ 0 rfl).cell rfl)) <| obs_cons (ob_ix1 (f := (Value.int .i64)) (m := s_Grid_Cells1) Und27 hi3 hs3 (hS.at_ 1 rfl).rd rfl (fun _ => hp1)) <| obs_nil
  obtain ⟨w, hrun, hS⟩ := run_set1 (P := Try.prog) (t := 3) (x := who1) (Value.int .i64) (hS.at_ 1 rfl) hi3 hs3 rfl rfl hp1
  refine at_skip hF (by kernel_rfl) hrun ?_
  have hS : Sep w0 B w (blk g1 158 #[.int .i64 s_Grid_W1, .int .i64 s_Grid_H1, .slice A1 s_Grid_Cells1.length c1, .map (some g2)] :: own 3 (.slice A1 s_Grid_Cells1.length c1) (vI (s_Grid_Cells1.set (Int.toNat at1) who1)) :: mapH kf240 (Value.int .i64) g2 s_known1 :: fs) := hS
  refine at_end [0, 1, 2] [pl 0 (.pointer (some ⟨g1, 0, none⟩)), pl 1 (.int .i64 at1), pl 2 (.int .i64 who1)] hF rfl (by kernel_rfl) (fun hF => ?_)
  refine then_n ?_
  refine seqR ?_
  obtain ⟨r1, hr1, hm⟩ := call_b hm
  refine at_run 3 [] [] [0, 1, 16, 18] [pl 0 (.pointer (some ⟨g1, 0, none⟩)), pl 1 (.int .i64 at1), pl 16 (.pointer (some ⟨g1, 0, none⟩)), pl 18 (.int .i64 (w64 (3 - who1)))] hF hS (by kernel_rfl) (by kernel_rfl) ?_ (fun a w hF hS => ?_)
  · exact obs_nil
  refine at_call (f := 186) (args := #[.pointer (some ⟨g1, 0, none⟩), .int .i64 (w64 (3 - who1))]) (d := 19) hF (by kernel_rfl) (by kernel_rfl) Try.func186 (by kernel_rfl) rfl (hex_solver_winner_w ih_hex_solver_after hr1 hS ) (fun v a w hR hF => ?_)
  clear hS
  obtain ⟨rfl, hS⟩ := hR
  have hS : Sep w0 B w (blk g1 158 #[.int .i64 s_Grid_W1, .int .i64 s_Grid_H1, .slice A1 s_Grid_Cells1.length c1, .map (some g2)] :: own 3 (.slice A1 s_Grid_Cells1.length c1) (vI r1.2.1) :: mapH kf240 (Value.int .i64) g2 r1.2.2 :: fs) := hS
  refine at_run 1 [] [] [0, 1, 7] [pl 0 (.pointer (some ⟨g1, 0, none⟩)), pl 1 (.int .i64 at1), pl 7 (.int .i64 r1.1)] hF hS (by kernel_rfl) (by kernel_rfl) ?_ (fun a w hF hS => ?_)
  · exact obs_nil
  refine at_end [0, 1, 7] [pl 0 (.pointer (some ⟨g1, 0, none⟩)), pl 1 (.int .i64 at1), pl 7 (.int .i64 r1.1)] hF rfl (by kernel_rfl) (fun hF => ?_)
  refine then_n ?_
  refine seqR ?_
  obtain ⟨hp2, hm⟩ := asrt_b hm
  refine at_run 7 [⟨false, [], vS (Instr.loadAt 27 (.pointer (some ⟨g1, 2, none⟩))), .slice A1 s_Grid_Cells1.length c1⟩, ⟨true, [], vS (Instr.indexAt 27 (.slice A1 s_Grid_Cells1.length c1) (.int .i64 at1)), .pointer (some (sAddr A1 at1))⟩] [none, none, none, none, some (.slice A1 s_Grid_Cells1.length c1), none, some (.pointer (some (sAddr A1 at1)))] [7, 26] [pl 7 (.int .i64 r1.1), pl 26 (.pointer (some (sAddr A1 at1)))] hF hS (by kernel_rfl) (by kernel_rfl) ?_ (fun a w hF hS => ?_)
  · exact obs_cons (ob_load Agg27 (fun _ _ hS => (hS.at_ 0 rfl).cell rfl)) <| obs_cons (ob_ix1 (f := (Value.int .i64)) (m := r1.2.1) Und27 hi3 hs3 (hS.at_ 1 rfl).rd ((hS.at_ 1 rfl).len1) (fun _ => hp2)) <| obs_nil
  obtain ⟨w, hrun, hS⟩ := run_set1 (P := Try.prog) (t := 3) (x := 0) (Value.int .i64) (hS.at_ 1 rfl) hi3 hs3 rfl rfl hp2
  refine at_skip hF (by kernel_rfl) hrun ?_
  have hS : Sep w0 B w (blk g1 158 #[.int .i64 s_Grid_W1, .int .i64 s_Grid_H1, .slice A1 s_Grid_Cells1.length c1, .map (some g2)] :: own 3 (.slice A1 s_Grid_Cells1.length c1) (vI (r1.2.1.set (Int.toNat at1) 0)) :: mapH kf240 (Value.int .i64) g2 r1.2.2 :: fs) := hS
  refine at_end [7] [pl 7 (.int .i64 r1.1)] hF rfl (by kernel_rfl) (fun hF => ?_)
  refine then_n ?_
  refine reg [] [] [6] [pl 6 (.int .i64 r1.1)] hF hS Fol (by kernel_rfl) (by kernel_rfl) (by kernel_rfl) ?_ (fun a w hF hS => ?_)
  · exact obs_nil
  refine wpIn_ret ?_
  have hm : some (r1.1, (r1.2.1.set (Int.toNat at1) 0), r1.2.2) = some r := hm
  obtain rfl := Option.some.inj hm
  exact retV (rs := [.tmp 6]) (vs := [.int .i64 r1.1]) hF rfl (rv_t (by kernel_rfl) <| rv_nil) rfl ⟨_, rfl, rfl, hS⟩

theorem hex_solver_after_w {g1 : Nat} {s_Grid_W1 : Int} {s_Grid_H1 : Int} {A1 : Option Addr} {c1 : Nat} {n1 : Nat} {s_Grid_Cells1 : List Int} {g2 : Nat} {s_known1 : List ((Int × Int × Int) × Int)} {at1 : Int} {who1 : Int} {r : (Int × List Int × List ((Int × Int × Int) × Int))} {w0 w : World} {B : Nat} {fs : List HP} (hm : hex_solver_after_m s_Grid_W1 s_Grid_H1 s_Grid_Cells1 s_known1 at1 who1 = some r) (hS : Sep w0 B w (blk g1 158 #[.int .i64 s_Grid_W1, .int .i64 s_Grid_H1, .slice A1 n1 c1, .map (some g2)] :: own 3 (.slice A1 n1 c1) (vI s_Grid_Cells1) :: mapH kf240 (Value.int .i64) g2 s_known1 :: fs)) :
    Calls Try.prog 117 #[.pointer (some ⟨g1, 0, none⟩), .int .i64 at1, .int .i64 who1] w fun e w' => ∃ v, e = .returned v ∧ v = .int .i64 r.1 ∧ Sep w0 B w' (blk g1 158 #[.int .i64 s_Grid_W1, .int .i64 s_Grid_H1, .slice A1 n1 c1, .map (some g2)] :: own 3 (.slice A1 n1 c1) (vI r.2.1) :: mapH kf240 (Value.int .i64) g2 r.2.2 :: fs) := by
  have key : ∀ (n : Nat) {g1 : Nat} {s_Grid_W1 : Int} {s_Grid_H1 : Int} {A1 : Option Addr} {c1 : Nat} {n1 : Nat} {s_Grid_Cells1 : List Int} {g2 : Nat} {s_known1 : List ((Int × Int × Int) × Int)} {at1 : Int} {who1 : Int} {r : (Int × List Int × List ((Int × Int × Int) × Int))} {w0 w : World} {B : Nat} {fs : List HP} (_ : hex_solver_after_mF n s_Grid_W1 s_Grid_H1 s_Grid_Cells1 s_known1 at1 who1 = some r) (_ : Sep w0 B w (blk g1 158 #[.int .i64 s_Grid_W1, .int .i64 s_Grid_H1, .slice A1 n1 c1, .map (some g2)] :: own 3 (.slice A1 n1 c1) (vI s_Grid_Cells1) :: mapH kf240 (Value.int .i64) g2 s_known1 :: fs)), Calls Try.prog 117 #[.pointer (some ⟨g1, 0, none⟩), .int .i64 at1, .int .i64 who1] w fun e w' => ∃ v, e = .returned v ∧ v = .int .i64 r.1 ∧ Sep w0 B w' (blk g1 158 #[.int .i64 s_Grid_W1, .int .i64 s_Grid_H1, .slice A1 n1 c1, .map (some g2)] :: own 3 (.slice A1 n1 c1) (vI r.2.1) :: mapH kf240 (Value.int .i64) g2 r.2.2 :: fs) := by
    intro n
    induction n with
    | zero => intros; rename_i hm0 _; cases hm0
    | succ n ih => intros; rename_i hm0 hS0; exact hex_solver_after_wB (rec_hex_solver_after := hex_solver_after_mF n) (fun hm hS => ih hm hS) hm0 hS0
  obtain ⟨n, hn⟩ := recM_some hm
  exact key n hn hS

set_option maxRecDepth 100000 in
theorem hex_solver_after_B_le {rec_hex_solver_after1 rec_hex_solver_after2 : Int → Int → List Int → List ((Int × Int × Int) × Int) → Int → Int → Option (Int × List Int × List ((Int × Int × Int) × Int))} (h_rec_hex_solver_after : ∀ a0 a1 a2 a3 a4 a5, Le (rec_hex_solver_after1 a0 a1 a2 a3 a4 a5) (rec_hex_solver_after2 a0 a1 a2 a3 a4 a5)) (s_Grid_W1 : Int) (s_Grid_H1 : Int) (s_Grid_Cells1 : List Int) (s_known1 : List ((Int × Int × Int) × Int)) (at1 : Int) (who1 : Int) : Le (hex_solver_after_B rec_hex_solver_after1 s_Grid_W1 s_Grid_H1 s_Grid_Cells1 s_known1 at1 who1) (hex_solver_after_B rec_hex_solver_after2 s_Grid_W1 s_Grid_H1 s_Grid_Cells1 s_known1 at1 who1) := by
  unfold hex_solver_after_B
  repeat' (first | with_reducible exact Le.refl _ | with_reducible exact h_rec_hex_solver_after _ _ _ _ _ _ | with_reducible exact hex_solver_winner_m_le_hex_solver_after h_rec_hex_solver_after _ _ _ _ _ | with_reducible refine Le.asrt ?_ | with_reducible refine Le.ite ?_ ?_ | refine Le.bind ?_ (fun _ => ?_) | refine Le.loop2 (fun _ => ?_) | refine Le.elim2 (fun _ => ?_) (fun _ => ?_))

set_option maxRecDepth 100000 in
theorem hex_solver_after_mF_le : ∀ (n : Nat) (s_Grid_W1 : Int) (s_Grid_H1 : Int) (s_Grid_Cells1 : List Int) (s_known1 : List ((Int × Int × Int) × Int)) (at1 : Int) (who1 : Int), Le (hex_solver_after_mF n s_Grid_W1 s_Grid_H1 s_Grid_Cells1 s_known1 at1 who1) (hex_solver_after_mF (n + 1) s_Grid_W1 s_Grid_H1 s_Grid_Cells1 s_known1 at1 who1)
  | 0, _, _, _, _, _, _ => fun _ h => by cases h
  | n + 1, _, _, _, _, _, _ => hex_solver_after_B_le (fun a0 a1 a2 a3 a4 a5 => hex_solver_after_mF_le n a0 a1 a2 a3 a4 a5) _ _ _ _ _ _

set_option maxRecDepth 100000 in
theorem hex_solver_after_m_of (N : Nat) (s_Grid_W1 : Int) (s_Grid_H1 : Int) (s_Grid_Cells1 : List Int) (s_known1 : List ((Int × Int × Int) × Int)) (at1 : Int) (who1 : Int) {r : (Int × List Int × List ((Int × Int × Int) × Int))} (h : hex_solver_after_mF N s_Grid_W1 s_Grid_H1 s_Grid_Cells1 s_known1 at1 who1 = some r) : hex_solver_after_m s_Grid_W1 s_Grid_H1 s_Grid_Cells1 s_known1 at1 who1 = some r :=
  recM_mono (fun n => hex_solver_after_mF_le n _ _ _ _ _ _) h

noncomputable def hex_Solve_J4  (z1 : Int) (open3 : Int) : Option (St (Int × Int) Int) :=
  some (.next (open3, (w64 (z1 + 1))))

noncomputable def hex_Solve_J3  (g3 : List Int) (open1 : Int) (z1 : Int) : Option (St (Int × Int) Int) :=
  asrt (0 ≤ z1 ∧ z1 < (g3.length : Int)) <| if ((geti g3 z1) == 0) then ((hex_Solve_J4 z1) (w64 (open1 + 1))) else ((hex_Solve_J4 z1) open1)

noncomputable def hex_Solve_J10  (z2 : Int) (s6 : List Int) (s7 : List ((Int × Int × Int) × Int)) (l3 : List Int) : Option (St (List Int × List ((Int × Int × Int) × Int) × List Int × Int) (List Int)) :=
  some (.next (s6, s7, l3, (w64 (z2 + 1))))

noncomputable def hex_Solve_J11  (l1 : List Int) (z2 : Int) (s4 : List Int) (s5 : List ((Int × Int × Int) × Int)) (z3 : Bool) : Option (St (List Int × List ((Int × Int × Int) × Int) × List Int × Int) (List Int)) :=
  if z3 then (asrt ((l1.length : Int) + 1 ≤ bigN) <| (hex_Solve_J10 z2) s4 s5 (l1 ++ ([z2] : List Int))) else ((hex_Solve_J10 z2) s4 s5 l1)

noncomputable def hex_Solve_J9  (g1 : Int) (g2 : Int) (g3 : List Int) (who1 : Int) (s2 : List Int) (s3 : List ((Int × Int × Int) × Int)) (l1 : List Int) (z2 : Int) : Option (St (List Int × List ((Int × Int × Int) × Int) × List Int × Int) (List Int)) :=
  asrt (0 ≤ z2 ∧ z2 < (g3.length : Int)) <| if ((geti g3 z2) == 0) then ((hex_solver_after_m g1 g2 s2 s3 z2 who1).bind fun r4 => (hex_Solve_J11 l1 z2) r4.2.1 r4.2.2 (((geti g3 z2) == 0) && (r4.1 == who1))) else ((hex_Solve_J11 l1 z2) s2 s3 (((geti g3 z2) == 0) && ((0 : Int) == who1)))

noncomputable def hex_Solve_L2  (g1 : Int) (g2 : Int) (g3 : List Int) (who1 : Int) : (List Int × List ((Int × Int × Int) × Int) × List Int × Int) → Option (St (List Int × List ((Int × Int × Int) × Int) × List Int × Int) (List Int)) :=
  fun (x : (List Int × List ((Int × Int × Int) × Int) × List Int × Int)) => match x with | (s2, s3, l1, z2) => if (decide (z2 < (g3.length : Int))) then ((hex_Solve_J9 g1 g2 g3 who1 s2 s3 l1 z2)) else (some (.done l1))

noncomputable def hex_Solve_J12  (who1 : Int) : Option (Int × List Int × Int) :=
  some ((w64 (3 - who1)), ([] : List Int), 0)

noncomputable def hex_Solve_J8  (who1 : Int) (l2 : List Int) : Option (Int × List Int × Int) :=
  if (decide ((0 : Int) < (l2.length : Int))) then (some (who1, l2, 0)) else ((hex_Solve_J12 who1))

noncomputable def hex_Solve_K2  (who1 : Int) : (List Int) → Option (Int × List Int × Int) :=
  fun (x : (List Int)) => match x with | l2 => (hex_Solve_J8 who1) l2

noncomputable def hex_Solve_J7  (g1 : Int) (g2 : Int) (g3 : List Int) (who1 : Int) (s1 : List Int) : Option (Int × List Int × Int) :=
  (loop (hex_Solve_L2 g1 g2 g3 who1) (s1, ([] : List ((Int × Int × Int) × Int)), ([] : List Int), 0)).bind (hex_Solve_K2 who1)

noncomputable def hex_Solve_J6  (g1 : Int) (g2 : Int) (g3 : List Int) (who1 : Int) (s1 : List Int) : Option (Int × List Int × Int) :=
  (hex_joined_m g1 g2 g3).bind fun r3 => if (decide ((0 : Int) < r3.1)) then (some (r3.1, ([] : List Int), 0)) else ((hex_Solve_J7 g1 g2 g3 who1 s1))

noncomputable def hex_Solve_J5  (g1 : Int) (g2 : Int) (g3 : List Int) (who1 : Int) : Option (Int × List Int × Int) :=
  (slices_Clone_m g3).bind fun r2 => (hex_Solve_J6 g1 g2 g3 who1) r2

noncomputable def hex_Solve_J2  (g1 : Int) (g2 : Int) (g3 : List Int) (who1 : Int) (open2 : Int) : Option (Int × List Int × Int) :=
  if (decide ((9 : Int) < open2)) then (some (0, ([] : List Int), 2)) else ((hex_Solve_J5 g1 g2 g3 who1))

noncomputable def hex_Solve_K1  (g1 : Int) (g2 : Int) (g3 : List Int) (who1 : Int) : Int → Option (Int × List Int × Int) :=
  fun (x : Int) => match x with | open2 => (hex_Solve_J2 g1 g2 g3 who1) open2

noncomputable def hex_Solve_L1  (g3 : List Int) : (Int × Int) → Option (St (Int × Int) Int) :=
  fun (x : (Int × Int)) => match x with | (open1, z1) => if (decide (z1 < (g3.length : Int))) then ((hex_Solve_J3 g3 open1 z1)) else (some (.done open1))

noncomputable def hex_Solve_J1  (g1 : Int) (g2 : Int) (g3 : List Int) (who1 : Int) : Option (Int × List Int × Int) :=
  (loop (hex_Solve_L1 g3) (0, 0)).bind (hex_Solve_K1 g1 g2 g3 who1)

noncomputable def hex_Solve_m  (g1 : Int) (g2 : Int) (g3 : List Int) (who1 : Int) : Option (Int × List Int × Int) :=
  (hex_player_m g1 g2 g3 who1).bind fun r1 => if (r1 != 0) then (some (0, ([] : List Int), r1)) else ((hex_Solve_J1 g1 g2 g3 who1))

set_option maxRecDepth 100000 in
set_option maxHeartbeats 4000000 in
theorem hex_Solve_w {g1 : Int} {g2 : Int} {A1 : Option Addr} {c1 : Nat} {n1 : Nat} {g3 : List Int} {who1 : Int} {r : (Int × List Int × Int)} {w0 w : World} {B : Nat} {fs : List HP} (hm : hex_Solve_m g1 g2 g3 who1 = some r) (hS : Sep w0 B w (fs)) (hr_g3 : RdF w0 B fs A1 (vI g3)) (_hc_g3 : g3.length ≤ c1) (_hn_g3 : n1 = g3.length) :
    Calls Try.prog 39 #[.agg #[.int .i64 g1, .int .i64 g2, .slice A1 n1 c1], .int .i64 who1] w fun e w' => ∃ v, e = .returned v ∧ ∃ (A11 : Option Addr) (c11 : Nat), v = .tuple #[.int .i64 r.1, .slice A11 r.2.1.length c11, .int .i64 r.2.2] ∧ Sep w0 B w' (own 3 (.slice A11 r.2.1.length c11) (vI r.2.1) :: fs) := by
  obtain ⟨i3, hi3, hz3, hs3, hb3⟩ := info_parts Info3
  obtain rfl := _hn_g3
  unfold hex_Solve_m at hm
  replace hm := start_b hm
  refine enter (l := [.agg #[.int .i64 g1, .int .i64 g2, .slice A1 g3.length c1], .int .i64 who1]) (n := 86) Try.func39 rfl rfl (by simp) (fun a hF => ?_)
  refine seqR ?_
  refine at_do (d := 2) (s := vS (Instr.box 64 (.agg #[.int .i64 g1, .int .i64 g2, .slice A1 g3.length c1]))) (v := .pointer (some ⟨w.heap.size, 0, none⟩)) (w' := w.alloc (.cells #[.int .i64 g1, .int .i64 g2, .slice A1 g3.length c1] 64)) hF (by kernel_rfl) (by kernel_rfl) (by kernel_rfl) (fun a hF => ?_)
  have hS : Sep w0 B (w.alloc (.cells #[.int .i64 g1, .int .i64 g2, .slice A1 g3.length c1] 64)) (blk w.heap.size 64 #[.int .i64 g1, .int .i64 g2, .slice A1 g3.length c1] :: (fs)) := hS.box 64 #[.int .i64 g1, .int .i64 g2, .slice A1 g3.length c1]
  generalize w.heap.size = g4 at hF hS
  generalize w.alloc (.cells #[.int .i64 g1, .int .i64 g2, .slice A1 g3.length c1] 64) = w at hS ⊢
  refine at_run 3 [] [] [1, 2] [pl 1 (.int .i64 who1), pl 2 (.pointer (some ⟨g4, 0, none⟩))] hF hS (by kernel_rfl) (by kernel_rfl) ?_ (fun a w hF hS => ?_)
  · exact obs_nil
  refine at_end [1, 2] [pl 1 (.int .i64 who1), pl 2 (.pointer (some ⟨g4, 0, none⟩))] hF rfl (by kernel_rfl) (fun hF => ?_)
  refine then_n ?_
  refine seq_cut (fun a w => Fr 86 [pl 1 (.int .i64 who1), pl 2 (.pointer (some ⟨g4, 0, none⟩))] a ∧ Sep w0 B w (blk g4 64 #[.int .i64 g1, .int .i64 g2, .slice A1 g3.length c1] :: fs) ∧ ((hex_Solve_J1 g1 g2 g3 who1)).bind some = some r) ?_ ?_
  · rintro a w ⟨hF, hS, hm⟩
    unfold hex_Solve_J1 at hm
    refine reg [] [] [1, 2, 8] [pl 1 (.int .i64 who1), pl 2 (.pointer (some ⟨g4, 0, none⟩)), pl 8 (.int .i64 0)] hF hS Fol (by kernel_rfl) (by kernel_rfl) (by kernel_rfl) ?_ (fun a w hF hS => ?_)
    · exact obs_nil
    refine seq_cut (fun a w => ∃ (open2 : Int), Fr 86 [pl 1 (.int .i64 who1), pl 2 (.pointer (some ⟨g4, 0, none⟩)), pl 8 (.int .i64 open2)] a ∧ Sep w0 B w (blk g4 64 #[.int .i64 g1, .int .i64 g2, .slice A1 g3.length c1] :: fs) ∧ ((hex_Solve_J2 g1 g2 g3 who1) open2).bind some = some r) ?_ ?_
    · rintro a w ⟨open2, hF, hS, hm⟩
      unfold hex_Solve_J2 at hm
      refine seq_cut (fun a w => Fr 86 [pl 1 (.int .i64 who1), pl 2 (.pointer (some ⟨g4, 0, none⟩))] a ∧ Sep w0 B w (blk g4 64 #[.int .i64 g1, .int .i64 g2, .slice A1 g3.length c1] :: fs) ∧ ((hex_Solve_J5 g1 g2 g3 who1)).bind some = some r) ?_ ?_
      · rintro a w ⟨hF, hS, hm⟩
        unfold hex_Solve_J5 at hm
        refine seq_cut (fun a w => ∃ (s1 : List Int) (g7 : Nat) (A4 : Option Addr) (c4 : Nat) (g8 : Nat), Fr 86 [pl 1 (.int .i64 who1), pl 2 (.pointer (some ⟨g4, 0, none⟩)), pl 11 (.pointer (some ⟨g7, 0, none⟩))] a ∧ Sep w0 B w (blk g4 64 #[.int .i64 g1, .int .i64 g2, .slice A1 g3.length c1] :: blk g7 158 #[.int .i64 g1, .int .i64 g2, .slice A4 s1.length c4, .map (some g8)] :: own 3 (.slice A4 s1.length c4) (vI s1) :: mapH kf240 (Value.int .i64) g8 ([] : List ((Int × Int × Int) × Int)) :: fs) ∧ ((hex_Solve_J6 g1 g2 g3 who1) s1).bind some = some r) ?_ ?_
        · rintro a w ⟨s1, g7, A4, c4, g8, hF, hS, hm⟩
          unfold hex_Solve_J6 at hm
          refine seq_cut (fun a w => Fr 86 [pl 1 (.int .i64 who1), pl 2 (.pointer (some ⟨g4, 0, none⟩)), pl 11 (.pointer (some ⟨g7, 0, none⟩))] a ∧ Sep w0 B w (blk g4 64 #[.int .i64 g1, .int .i64 g2, .slice A1 g3.length c1] :: blk g7 158 #[.int .i64 g1, .int .i64 g2, .slice A4 s1.length c4, .map (some g8)] :: own 3 (.slice A4 s1.length c4) (vI s1) :: mapH kf240 (Value.int .i64) g8 ([] : List ((Int × Int × Int) × Int)) :: fs) ∧ ((hex_Solve_J7 g1 g2 g3 who1 s1)).bind some = some r) ?_ ?_
          · rintro a w ⟨hF, hS, hm⟩
            unfold hex_Solve_J7 at hm
            refine reg [] [] [1, 2, 11, 14] [pl 1 (.int .i64 who1), pl 2 (.pointer (some ⟨g4, 0, none⟩)), pl 11 (.pointer (some ⟨g7, 0, none⟩)), pl 14 (.slice none 0 0)] hF hS Fol (by kernel_rfl) (by kernel_rfl) (by kernel_rfl) ?_ (fun a w hF hS => ?_)
            · exact obs_nil
            refine seq_cut (fun a w => ∃ (l2 : List Int) (A8 : Option Addr) (c8 : Nat), Fr 86 [pl 1 (.int .i64 who1), pl 14 (.slice A8 l2.length c8)] a ∧ Sep w0 B w (own 3 (.slice A8 l2.length c8) (vI l2) :: fs) ∧ ((hex_Solve_J8 who1) l2).bind some = some r) ?_ ?_
            · rintro a w ⟨l2, A8, c8, hF, hS, hm⟩
              unfold hex_Solve_J8 at hm
              refine seq_cut (fun a w => Fr 86 [pl 1 (.int .i64 who1)] a ∧ Sep w0 B w (fs) ∧ ((hex_Solve_J12 who1)).bind some = some r) ?_ ?_
              · rintro a w ⟨hF, hS, hm⟩
                unfold hex_Solve_J12 at hm
                refine reg [] [] [4, 5, 6] [pl 4 (.int .i64 (w64 (3 - who1))), pl 5 (.slice none 0 0), pl 6 (.int .i64 0)] hF hS Fol (by kernel_rfl) (by kernel_rfl) (by kernel_rfl) ?_ (fun a w hF hS => ?_)
                · exact obs_nil
                refine wpIn_ret ?_
                have hS : Sep w0 B w (own 3 (.slice none 0 0) (vI ([] : List Int)) :: fs) := hS.nil 3
                have hl5 := (hS.at_ 0 rfl).len1
                have hS := (hS.at_ 0 rfl).reN hl5
                have hS : Sep w0 B w (own 3 (.slice none (([] : List Int).length) 0) (vI ([] : List Int)) :: fs) := hS
                have hm : some ((w64 (3 - who1)), ([] : List Int), 0) = some r := hm
                obtain rfl := Option.some.inj hm
                exact retV (rs := [.tmp 4, .tmp 5, .tmp 6]) (vs := [.int .i64 (w64 (3 - who1)), .slice none (([] : List Int).length) 0, .int .i64 0]) hF rfl (rv_t (by kernel_rfl) <| rv_t (by kernel_rfl) <| rv_t (by kernel_rfl) <| rv_nil) rfl ⟨_, rfl, none, 0, rfl, hS⟩
              · refine reg [] [] [1, 14, 81] [pl 1 (.int .i64 who1), pl 14 (.slice A8 l2.length c8), pl 81 (.bool (decide ((0 : Int) < (l2.length : Int))))] hF hS Fol (by kernel_rfl) (by kernel_rfl) (by kernel_rfl) ?_ (fun a w hF hS => ?_)
                · exact obs_nil
                refine cond_ev (t := 81) (b := decide ((0 : Int) < (l2.length : Int))) hF (by kernel_rfl) (fun hb => ?_) (fun hb => ?_)
                · replace hm := if_t hm hb
                  refine reg [] [] [4, 5, 6] [pl 4 (.int .i64 who1), pl 5 (.slice A8 l2.length c8), pl 6 (.int .i64 0)] hF hS Fol (by kernel_rfl) (by kernel_rfl) (by kernel_rfl) ?_ (fun a w hF hS => ?_)
                  · exact obs_nil
                  refine wpIn_ret ?_
                  refine then_r ?_
                  have hm : some (who1, l2, 0) = some r := hm
                  obtain rfl := Option.some.inj hm
                  exact retV (rs := [.tmp 4, .tmp 5, .tmp 6]) (vs := [.int .i64 who1, .slice A8 l2.length c8, .int .i64 0]) hF rfl (rv_t (by kernel_rfl) <| rv_t (by kernel_rfl) <| rv_t (by kernel_rfl) <| rv_nil) rfl ⟨_, rfl, A8, c8, rfl, hS⟩
                · replace hm := if_f hm hb
                  refine wpIn_skip ?_
                  refine then_n ?_
                  have hS := hS.pickN 1 [] (by decide)
                  exact ⟨hF.weak [1] (by kernel_rfl), hS, hm⟩
            · refine reg [⟨false, [], vS (Instr.loadAt 27 (.pointer (some ⟨g4, 2, none⟩))), .slice A1 g3.length c1⟩] [none, some (.slice A1 g3.length c1), none, none] [1, 11, 14, 57, 58, 59] [pl 1 (.int .i64 who1), pl 11 (.pointer (some ⟨g7, 0, none⟩)), pl 14 (.slice none 0 0), pl 57 (.slice A1 g3.length c1), pl 58 (.int .i64 (g3.length : Int)), pl 59 (.int .i64 0)] hF hS Fol (by kernel_rfl) (by kernel_rfl) (by kernel_rfl) ?_ (fun a w hF hS => ?_)
              · exact obs_cons (ob_load Agg27 (fun _ _ hS => (hS.at_ 0 rfl).cell rfl)) <| obs_nil
              refine wpIn_block ?_
              have hS : Sep w0 B w (own 3 (.slice none 0 0) (vI ([] : List Int)) :: blk g4 64 #[.int .i64 g1, .int .i64 g2, .slice A1 g3.length c1] :: blk g7 158 #[.int .i64 g1, .int .i64 g2, .slice A4 s1.length c4, .map (some g8)] :: own 3 (.slice A4 s1.length c4) (vI s1) :: mapH kf240 (Value.int .i64) g8 ([] : List ((Int × Int × Int) × Int)) :: fs) := hS.nil 3
              have hl4 := (hS.at_ 0 rfl).len1
              have hS := (hS.at_ 0 rfl).reN hl4
              have hS : Sep w0 B w (own 3 (.slice none (([] : List Int).length) 0) (vI ([] : List Int)) :: blk g4 64 #[.int .i64 g1, .int .i64 g2, .slice A1 g3.length c1] :: blk g7 158 #[.int .i64 g1, .int .i64 g2, .slice A4 s1.length c4, .map (some g8)] :: own 3 (.slice A4 s1.length c4) (vI s1) :: mapH kf240 (Value.int .i64) g8 ([] : List ((Int × Int × Int) × Int)) :: fs) := hS
              have hF := hF.cast (t := 14) (v := .slice none 0 0) (v' := .slice none (([] : List Int).length) 0) rfl rfl (congrArg (fun k => Value.slice none k 0) hl4)
              have hS := hS.pickN 5 [2, 3, 4, 0] (by decide)
              refine wp_loop_model (S := (List Int × List ((Int × Int × Int) × Int) × List Int × Int)) (R := (List Int)) (hex_Solve_L2 g1 g2 g3 who1) (fun x => ((hex_Solve_K2 who1) x).bind some) r (fun (x : (List Int × List ((Int × Int × Int) × Int) × List Int × Int)) a w => ∃ (A7 : Option Addr) (c7 : Nat), Fr 86 [pl 1 (.int .i64 who1), pl 11 (.pointer (some ⟨g7, 0, none⟩)), pl 14 (.slice A7 x.2.2.1.length c7), pl 57 (.slice A1 g3.length c1), pl 58 (.int .i64 (g3.length : Int)), pl 59 (.int .i64 x.2.2.2)] a ∧ Sep w0 B w (blk g7 158 #[.int .i64 g1, .int .i64 g2, .slice A4 s1.length c4, .map (some g8)] :: own 3 (.slice A4 s1.length c4) (vI x.1) :: mapH kf240 (Value.int .i64) g8 x.2.1 :: own 3 (.slice A7 x.2.2.1.length c7) (vI x.2.2.1) :: fs)) (assoc_b hm) ⟨none, 0, hF.weak [1, 11, 14, 57, 58, 59] (by kernel_rfl), hS⟩ ?_
              clear hF hS hm
              rintro nn2 ⟨s2, s3, l1, z2⟩ a w ⟨A7, c7, hF, hS⟩ hm
              generalize hφ2 : stK (hex_Solve_L2 g1 g2 g3 who1) nn2 (fun x => ((hex_Solve_K2 who1) x).bind some) = φ2 at hm
              unfold hex_Solve_L2 at hm
              dsimp only at hF hS hm
              refine reg [] [] [1, 11, 14, 57, 58, 59, 60] [pl 1 (.int .i64 who1), pl 11 (.pointer (some ⟨g7, 0, none⟩)), pl 14 (.slice A7 l1.length c7), pl 57 (.slice A1 g3.length c1), pl 58 (.int .i64 (g3.length : Int)), pl 59 (.int .i64 z2), pl 60 (.bool (decide (z2 < (g3.length : Int))))] hF hS Fol (by kernel_rfl) (by kernel_rfl) (by kernel_rfl) ?_ (fun a w hF hS => ?_)
              · exact obs_nil
              refine seq_cut (fun a w => Fr 86 [pl 1 (.int .i64 who1), pl 11 (.pointer (some ⟨g7, 0, none⟩)), pl 14 (.slice A7 l1.length c7), pl 57 (.slice A1 g3.length c1), pl 58 (.int .i64 (g3.length : Int)), pl 59 (.int .i64 z2)] a ∧ Sep w0 B w (blk g7 158 #[.int .i64 g1, .int .i64 g2, .slice A4 s1.length c4, .map (some g8)] :: own 3 (.slice A4 s1.length c4) (vI s2) :: mapH kf240 (Value.int .i64) g8 s3 :: own 3 (.slice A7 l1.length c7) (vI l1) :: fs) ∧ ((hex_Solve_J9 g1 g2 g3 who1 s2 s3 l1 z2)).bind φ2 = some r) ?_ ?_
              · rintro a w ⟨hF, hS, hm⟩
                unfold hex_Solve_J9 at hm
                refine seq_cut (fun a w => ∃ (s6 : List Int) (s7 : List ((Int × Int × Int) × Int)) (l3 : List Int) (A10 : Option Addr) (c10 : Nat), Fr 86 [pl 1 (.int .i64 who1), pl 11 (.pointer (some ⟨g7, 0, none⟩)), pl 14 (.slice A10 l3.length c10), pl 57 (.slice A1 g3.length c1), pl 58 (.int .i64 (g3.length : Int)), pl 59 (.int .i64 z2)] a ∧ Sep w0 B w (blk g7 158 #[.int .i64 g1, .int .i64 g2, .slice A4 s1.length c4, .map (some g8)] :: own 3 (.slice A4 s1.length c4) (vI s6) :: mapH kf240 (Value.int .i64) g8 s7 :: own 3 (.slice A10 l3.length c10) (vI l3) :: fs) ∧ ((hex_Solve_J10 z2) s6 s7 l3).bind φ2 = some r) ?_ ?_
                · rintro a w ⟨s6, s7, l3, A10, c10, hF, hS, hm⟩
                  unfold hex_Solve_J10 at hm
                  refine reg1 [] [] [1, 11, 14, 57, 58, 59] [pl 1 (.int .i64 who1), pl 11 (.pointer (some ⟨g7, 0, none⟩)), pl 14 (.slice A10 l3.length c10), pl 57 (.slice A1 g3.length c1), pl 58 (.int .i64 (g3.length : Int)), pl 59 (.int .i64 (w64 (z2 + 1)))] hF hS Fol (by kernel_rfl) (by kernel_rfl) (by kernel_rfl) ?_ (fun a w hF hS => ?_)
                  · exact obs_nil
                  refine then_n ?_
                  rw [← hφ2] at hm
                  exact ⟨(s6, s7, l3, (w64 (z2 + 1))), ⟨A10, c10, hF.weak [1, 11, 14, 57, 58, 59] (by kernel_rfl), hS⟩, hm⟩
                · refine wpIn_block ?_
                  obtain ⟨hp2, hm⟩ := asrt_b hm
                  refine reg [⟨true, [], vS (Instr.indexAt 27 (.slice A1 g3.length c1) (.int .i64 z2)), .pointer (some (sAddr A1 z2))⟩, ⟨false, [], vS (Instr.loadAt 3 (.pointer (some (sAddr A1 z2)))), .int .i64 (geti g3 z2)⟩] [none, some (.pointer (some (sAddr A1 z2))), some (.int .i64 (geti g3 z2)), none, none] [1, 11, 14, 15, 16, 57, 58, 59] [pl 1 (.int .i64 who1), pl 11 (.pointer (some ⟨g7, 0, none⟩)), pl 14 (.slice A7 l1.length c7), pl 15 (.int .i64 z2), pl 16 (.int .i64 (geti g3 z2)), pl 57 (.slice A1 g3.length c1), pl 58 (.int .i64 (g3.length : Int)), pl 59 (.int .i64 z2)] hF hS Fol (by kernel_rfl) (by kernel_rfl) (by kernel_rfl) ?_ (fun a w hF hS => ?_)
                  · exact obs_cons (ob_ix1 (f := (Value.int .i64)) (m := g3) Und27 hi3 hs3 (hr_g3 _ (hS.dropN 4)) rfl (fun _ => hp2)) <| obs_cons (ob_get1 (n := g3.length) (m := g3) (Value.int .i64) (0 : Int) Agg3 (fun _ hS => ⟨_, (hr_g3 _ (hS.dropN 4))⟩) (fun _ hS => rfl) (fun _ => hp2)) <| obs_nil
                  refine seq_cut (fun a w => ∃ (s4 : List Int) (s5 : List ((Int × Int × Int) × Int)) (z3 : Bool), Fr 86 [pl 1 (.int .i64 who1), pl 11 (.pointer (some ⟨g7, 0, none⟩)), pl 14 (.slice A7 l1.length c7), pl 15 (.int .i64 z2), pl 57 (.slice A1 g3.length c1), pl 58 (.int .i64 (g3.length : Int)), pl 59 (.int .i64 z2), pl 73 (.bool z3)] a ∧ Sep w0 B w (blk g7 158 #[.int .i64 g1, .int .i64 g2, .slice A4 s1.length c4, .map (some g8)] :: own 3 (.slice A4 s1.length c4) (vI s4) :: mapH kf240 (Value.int .i64) g8 s5 :: own 3 (.slice A7 l1.length c7) (vI l1) :: fs) ∧ ((hex_Solve_J11 l1 z2) s4 s5 z3).bind φ2 = some r) ?_ ?_
                  · rintro a w ⟨s4, s5, z3, hF, hS, hm⟩
                    unfold hex_Solve_J11 at hm
                    refine cond_ev (t := 73) (b := z3) hF (by kernel_rfl) (fun hb => ?_) (fun hb => ?_)
                    · replace hm := if_t hm hb
                      refine oneR ?_
                      obtain ⟨hp3, hm⟩ := asrt_b hm
                      refine at_run 2 [] [] [1, 11, 57, 58, 59, 74, 75] [pl 1 (.int .i64 who1), pl 11 (.pointer (some ⟨g7, 0, none⟩)), pl 57 (.slice A1 g3.length c1), pl 58 (.int .i64 (g3.length : Int)), pl 59 (.int .i64 z2), pl 74 (.slice A7 l1.length c7), pl 75 (.int .i64 z2)] hF hS (by kernel_rfl) (by kernel_rfl) ?_ (fun a w hF hS => ?_)
                      · exact obs_nil
                      refine at_do (d := 76) (s := vS (Instr.buildSlice 27 1 #[(0, .int .i64 z2)])) (v := .slice (some ⟨w.heap.size, 0, none⟩) 1 1) (w' := w.alloc (.cells #[.int .i64 z2] 3)) hF (by kernel_rfl) (by kernel_rfl) (by kernel_rfl) (fun a hF => ?_)
                      have hS : Sep w0 B (w.alloc (.cells #[.int .i64 z2] 3)) (own 3 (.slice (some (⟨w.heap.size, 0, none⟩ : Addr)) 1 1) (vI ([z2] : List Int)) :: (blk g7 158 #[.int .i64 g1, .int .i64 g2, .slice A4 s1.length c4, .map (some g8)] :: own 3 (.slice A4 s1.length c4) (vI s4) :: mapH kf240 (Value.int .i64) g8 s5 :: own 3 (.slice A7 l1.length c7) (vI l1) :: fs)) := hS.lit 3 #[.int .i64 z2] 1 rfl (by omega)
                      generalize (some (⟨w.heap.size, 0, none⟩ : Addr)) = g9 at hF hS
                      generalize w.alloc (.cells #[.int .i64 z2] 3) = w at hS ⊢
                      obtain ⟨A9, c9, w, hrun, hS⟩ := run_app1 (P := Try.prog) (t := 27) (m := l1) (ys := ([z2] : List Int)) (A2 := g9) (m2 := 1) (c2 := 1) (Value.int .i64) (0 : Int) (hS.at_ 4 rfl) (hS.at_ 0 rfl).rd ((hS.at_ 0 rfl).len1) 27 Und27 hi3 hz3 hs3 (by omega) rfl (fun _ => rfl) hp3
                      have hS : Sep w0 B w (own 3 (.slice g9 1 1) (vI ([z2] : List Int)) :: blk g7 158 #[.int .i64 g1, .int .i64 g2, .slice A4 s1.length c4, .map (some g8)] :: own 3 (.slice A4 s1.length c4) (vI s4) :: mapH kf240 (Value.int .i64) g8 s5 :: own 3 (.slice A9 ((l1 ++ ([z2] : List Int)).length) c9) (vI (l1 ++ ([z2] : List Int))) :: fs) := hS
                      refine at_do (d := 77) hF (by kernel_rfl) (by kernel_rfl) hrun (fun a hF => ?_)
                      refine at_run 1 [] [] [1, 11, 14, 57, 58, 59] [pl 1 (.int .i64 who1), pl 11 (.pointer (some ⟨g7, 0, none⟩)), pl 14 (.slice A9 ((l1 ++ ([z2] : List Int)).length) c9), pl 57 (.slice A1 g3.length c1), pl 58 (.int .i64 (g3.length : Int)), pl 59 (.int .i64 z2)] hF hS (by kernel_rfl) (by kernel_rfl) ?_ (fun a w hF hS => ?_)
                      · exact obs_nil
                      refine at_end [1, 11, 14, 57, 58, 59] [pl 1 (.int .i64 who1), pl 11 (.pointer (some ⟨g7, 0, none⟩)), pl 14 (.slice A9 ((l1 ++ ([z2] : List Int)).length) c9), pl 57 (.slice A1 g3.length c1), pl 58 (.int .i64 (g3.length : Int)), pl 59 (.int .i64 z2)] hF rfl (by kernel_rfl) (fun hF => ?_)
                      refine block_n ?_
                      refine then_n ?_
                      have hS := hS.pickN 5 [1, 2, 3, 4] (by decide)
                      exact ⟨s4, s5, (l1 ++ ([z2] : List Int)), A9, c9, hF.weak [1, 11, 14, 57, 58, 59] (by kernel_rfl), hS, hm⟩
                    · replace hm := if_f hm hb
                      refine wpIn_skip ?_
                      refine block_n ?_
                      refine then_n ?_
                      exact ⟨s4, s5, l1, A7, c7, hF.weak [1, 11, 14, 57, 58, 59] (by kernel_rfl), hS, hm⟩
                  · refine oneR ?_
                    refine at_run 6 [] [] [1, 11, 14, 15, 57, 58, 59, 66, 67, 68, 69] [pl 1 (.int .i64 who1), pl 11 (.pointer (some ⟨g7, 0, none⟩)), pl 14 (.slice A7 l1.length c7), pl 15 (.int .i64 z2), pl 57 (.slice A1 g3.length c1), pl 58 (.int .i64 (g3.length : Int)), pl 59 (.int .i64 z2), pl 66 (.bool ((geti g3 z2) == 0)), ⟨67, [(66, true)], .pointer (some ⟨g7, 0, none⟩)⟩, ⟨68, [(66, true)], .int .i64 z2⟩, ⟨69, [(66, true)], .int .i64 who1⟩] hF hS (by kernel_rfl) (by kernel_rfl) ?_ (fun a w hF hS => ?_)
                    · exact obs_nil
                    rcases Bool.eq_false_or_eq_true ((geti g3 z2) == 0) with hg1 | hg1
                    · replace hm := if_t hm hg1
                      obtain ⟨r4, hr4, hm⟩ := call_b hm
                      refine at_gcall (hs := [(((geti g3 z2) == 0), true)]) (fun y hy => by simp only [List.mem_cons, List.not_mem_nil, or_false] at hy; subst hy; first | exact hg1) (f := 117) (args := #[.pointer (some ⟨g7, 0, none⟩), .int .i64 z2, .int .i64 who1]) (d := 70) hF (by kernel_rfl) (by kernel_rfl) Try.func117 (by kernel_rfl) rfl (hex_solver_after_w hr4 hS ) (fun v a w hR hF => ?_)
                      clear hS
                      obtain ⟨rfl, hS⟩ := hR
                      have hS : Sep w0 B w (blk g7 158 #[.int .i64 g1, .int .i64 g2, .slice A4 s1.length c4, .map (some g8)] :: own 3 (.slice A4 s1.length c4) (vI r4.2.1) :: mapH kf240 (Value.int .i64) g8 r4.2.2 :: own 3 (.slice A7 l1.length c7) (vI l1) :: fs) := hS
                      refine at_run 3 [] [] [1, 11, 14, 15, 57, 58, 59, 73] [pl 1 (.int .i64 who1), pl 11 (.pointer (some ⟨g7, 0, none⟩)), pl 14 (.slice A7 l1.length c7), pl 15 (.int .i64 z2), pl 57 (.slice A1 g3.length c1), pl 58 (.int .i64 (g3.length : Int)), pl 59 (.int .i64 z2), pl 73 (.bool (((geti g3 z2) == 0) && (r4.1 == who1)))] hF hS (by kernel_rfl) (by kernel_rfl) ?_ (fun a w hF hS => ?_)
                      · exact obs_nil
                      refine at_end [1, 11, 14, 15, 57, 58, 59, 73] [pl 1 (.int .i64 who1), pl 11 (.pointer (some ⟨g7, 0, none⟩)), pl 14 (.slice A7 l1.length c7), pl 15 (.int .i64 z2), pl 57 (.slice A1 g3.length c1), pl 58 (.int .i64 (g3.length : Int)), pl 59 (.int .i64 z2), pl 73 (.bool (((geti g3 z2) == 0) && (r4.1 == who1)))] hF rfl (by kernel_rfl) (fun hF => ?_)
                      refine then_n ?_
                      exact ⟨r4.2.1, r4.2.2, (((geti g3 z2) == 0) && (r4.1 == who1)), hF.weak [1, 11, 14, 15, 57, 58, 59, 73] (by kernel_rfl), hS, hm⟩
                    · replace hm := if_f hm hg1
                      refine at_gskip (d := 70) (v := .int .i64 0) (hs := [(((geti g3 z2) == 0), true)]) (ctx := [(66, true)]) hF (by kernel_rfl) (by kernel_rfl) (fun h => absurd (h (((geti g3 z2) == 0), true) (by simp)) (by simp [hg1])) (fun a hF => ?_)
                      refine at_run 3 [] [] [1, 11, 14, 15, 57, 58, 59, 73] [pl 1 (.int .i64 who1), pl 11 (.pointer (some ⟨g7, 0, none⟩)), pl 14 (.slice A7 l1.length c7), pl 15 (.int .i64 z2), pl 57 (.slice A1 g3.length c1), pl 58 (.int .i64 (g3.length : Int)), pl 59 (.int .i64 z2), pl 73 (.bool (((geti g3 z2) == 0) && ((0 : Int) == who1)))] hF hS (by kernel_rfl) (by kernel_rfl) ?_ (fun a w hF hS => ?_)
                      · exact obs_nil
                      refine at_end [1, 11, 14, 15, 57, 58, 59, 73] [pl 1 (.int .i64 who1), pl 11 (.pointer (some ⟨g7, 0, none⟩)), pl 14 (.slice A7 l1.length c7), pl 15 (.int .i64 z2), pl 57 (.slice A1 g3.length c1), pl 58 (.int .i64 (g3.length : Int)), pl 59 (.int .i64 z2), pl 73 (.bool (((geti g3 z2) == 0) && ((0 : Int) == who1)))] hF rfl (by kernel_rfl) (fun hF => ?_)
                      refine then_n ?_
                      exact ⟨s2, s3, (((geti g3 z2) == 0) && ((0 : Int) == who1)), hF.weak [1, 11, 14, 15, 57, 58, 59, 73] (by kernel_rfl), hS, hm⟩
              · refine cond_ev (t := 60) (b := decide (z2 < (g3.length : Int))) hF (by kernel_rfl) (fun hb => ?_) (fun hb => ?_)
                · replace hm := if_t hm hb
                  refine wpIn_skip ?_
                  refine then_n ?_
                  exact ⟨hF.weak [1, 11, 14, 57, 58, 59] (by kernel_rfl), hS, hm⟩
                · replace hm := if_f hm hb
                  refine wpIn_exit ?_
                  refine then_e (then_e (block_e (then_n ?_)))
                  have hS := hS.pickN 4 [3] (by decide)
                  rw [← hφ2] at hm
                  replace hm := done_b hm
                  unfold hex_Solve_K2 at hm
                  try dsimp only at hm
                  have hm : ((hex_Solve_J8 who1) l1).bind some = some r := hm
                  exact ⟨l1, A7, c7, hF.weak [1, 14] (by kernel_rfl), hS, hm⟩
          · refine seqR ?_
            obtain ⟨r3, hr3, hm⟩ := call_b hm
            refine at_run 1 [⟨false, [], vS (Instr.loadAt 64 (.pointer (some ⟨g4, 0, none⟩))), .agg #[.int .i64 g1, .int .i64 g2, .slice A1 g3.length c1]⟩] [some (.agg #[.int .i64 g1, .int .i64 g2, .slice A1 g3.length c1])] [1, 2, 11, 49] [pl 1 (.int .i64 who1), pl 2 (.pointer (some ⟨g4, 0, none⟩)), pl 11 (.pointer (some ⟨g7, 0, none⟩)), pl 49 (.agg #[.int .i64 g1, .int .i64 g2, .slice A1 g3.length c1])] hF hS (by kernel_rfl) (by kernel_rfl) ?_ (fun a w hF hS => ?_)
            · exact obs_cons (ob_loadA (cs := #[.int .i64 g1, .int .i64 g2, .slice A1 g3.length c1]) (by kernel_rfl) (by kernel_rfl) (fun _ _ hS => (hS.at_ 0 rfl).cellsAt 0 (by rfl))) <| obs_nil
            refine at_call (f := 116) (args := #[.agg #[.int .i64 g1, .int .i64 g2, .slice A1 g3.length c1]]) (d := 50) hF (by kernel_rfl) (by kernel_rfl) Try.func116 (by kernel_rfl) rfl (hex_joined_w hr3 hS (fun _ hS => (hr_g3 _ (hS.dropN 4))) _hc_g3 rfl) (fun v a w hR hF => ?_)
            clear hS
            obtain ⟨A6, c6, rfl, hS⟩ := hR
            have hS : Sep w0 B w (own 3 (.slice A6 r3.2.length c6) (vI r3.2) :: blk g4 64 #[.int .i64 g1, .int .i64 g2, .slice A1 g3.length c1] :: blk g7 158 #[.int .i64 g1, .int .i64 g2, .slice A4 s1.length c4, .map (some g8)] :: own 3 (.slice A4 s1.length c4) (vI s1) :: mapH kf240 (Value.int .i64) g8 ([] : List ((Int × Int × Int) × Int)) :: fs) := hS
            refine at_run 5 [] [] [1, 2, 11, 12] [pl 1 (.int .i64 who1), pl 2 (.pointer (some ⟨g4, 0, none⟩)), pl 11 (.pointer (some ⟨g7, 0, none⟩)), pl 12 (.int .i64 r3.1)] hF hS (by kernel_rfl) (by kernel_rfl) ?_ (fun a w hF hS => ?_)
            · exact obs_nil
            refine at_end [1, 2, 11, 12] [pl 1 (.int .i64 who1), pl 2 (.pointer (some ⟨g4, 0, none⟩)), pl 11 (.pointer (some ⟨g7, 0, none⟩)), pl 12 (.int .i64 r3.1)] hF rfl (by kernel_rfl) (fun hF => ?_)
            refine then_n ?_
            refine reg [] [] [1, 2, 11, 12, 54] [pl 1 (.int .i64 who1), pl 2 (.pointer (some ⟨g4, 0, none⟩)), pl 11 (.pointer (some ⟨g7, 0, none⟩)), pl 12 (.int .i64 r3.1), pl 54 (.bool (decide ((0 : Int) < r3.1)))] hF hS Fol (by kernel_rfl) (by kernel_rfl) (by kernel_rfl) ?_ (fun a w hF hS => ?_)
            · exact obs_nil
            refine cond_ev (t := 54) (b := decide ((0 : Int) < r3.1)) hF (by kernel_rfl) (fun hb => ?_) (fun hb => ?_)
            · replace hm := if_t hm hb
              refine reg [] [] [4, 5, 6] [pl 4 (.int .i64 r3.1), pl 5 (.slice none 0 0), pl 6 (.int .i64 0)] hF hS Fol (by kernel_rfl) (by kernel_rfl) (by kernel_rfl) ?_ (fun a w hF hS => ?_)
              · exact obs_nil
              refine wpIn_ret ?_
              refine then_r ?_
              have hS : Sep w0 B w (own 3 (.slice none 0 0) (vI ([] : List Int)) :: own 3 (.slice A6 r3.2.length c6) (vI r3.2) :: blk g4 64 #[.int .i64 g1, .int .i64 g2, .slice A1 g3.length c1] :: blk g7 158 #[.int .i64 g1, .int .i64 g2, .slice A4 s1.length c4, .map (some g8)] :: own 3 (.slice A4 s1.length c4) (vI s1) :: mapH kf240 (Value.int .i64) g8 ([] : List ((Int × Int × Int) × Int)) :: fs) := hS.nil 3
              have hl3 := (hS.at_ 0 rfl).len1
              have hS := (hS.at_ 0 rfl).reN hl3
              have hS : Sep w0 B w (own 3 (.slice none (([] : List Int).length) 0) (vI ([] : List Int)) :: own 3 (.slice A6 r3.2.length c6) (vI r3.2) :: blk g4 64 #[.int .i64 g1, .int .i64 g2, .slice A1 g3.length c1] :: blk g7 158 #[.int .i64 g1, .int .i64 g2, .slice A4 s1.length c4, .map (some g8)] :: own 3 (.slice A4 s1.length c4) (vI s1) :: mapH kf240 (Value.int .i64) g8 ([] : List ((Int × Int × Int) × Int)) :: fs) := hS
              have hS := hS.pickN 6 [0] (by decide)
              have hm : some (r3.1, ([] : List Int), 0) = some r := hm
              obtain rfl := Option.some.inj hm
              exact retV (rs := [.tmp 4, .tmp 5, .tmp 6]) (vs := [.int .i64 r3.1, .slice none (([] : List Int).length) 0, .int .i64 0]) hF rfl (rv_t (by kernel_rfl) <| rv_t (by kernel_rfl) <| rv_t (by kernel_rfl) <| rv_nil) rfl ⟨_, rfl, none, 0, rfl, hS⟩
            · replace hm := if_f hm hb
              refine wpIn_skip ?_
              refine then_n ?_
              have hS := hS.pickN 5 [1, 2, 3, 4] (by decide)
              exact ⟨hF.weak [1, 2, 11] (by kernel_rfl), hS, hm⟩
        · obtain ⟨r2, hr2, hm⟩ := call_b hm
          refine regMix5 [0, 1, 2, 3, 4, 5] [] 6 #[true, true, true, true, true, true, false, false, false, false, false, false] [⟨false, [], vS (Instr.loadAt 3 (.pointer (some ⟨g4, 0, none⟩))), .int .i64 g1⟩, ⟨false, [], vS (Instr.loadAt 3 (.pointer (some ⟨g4, 1, none⟩))), .int .i64 g2⟩, ⟨false, [], vS (Instr.loadAt 27 (.pointer (some ⟨g4, 2, none⟩))), .slice A1 g3.length c1⟩] [none, some (.int .i64 g1), none, some (.int .i64 g2), none, some (.slice A1 g3.length c1)] [1, 2, 38, 40, 42] [pl 1 (.int .i64 who1), pl 2 (.pointer (some ⟨g4, 0, none⟩)), pl 38 (.int .i64 g1), pl 40 (.int .i64 g2), pl 42 (.slice A1 g3.length c1)] hF hS Fol (by kernel_rfl) (by kernel_rfl) (by kernel_rfl) (by kernel_rfl) ?_ (fun a w hF hS => ?_)
          · exact obs_cons (ob_load Agg3 (fun _ _ hS => (hS.at_ 0 rfl).cell rfl)) <| obs_cons (ob_load Agg3 (fun _ _ hS => (hS.at_ 0 rfl).cell rfl)) <| obs_cons (ob_load Agg27 (fun _ _ hS => (hS.at_ 0 rfl).cell rfl)) <| obs_nil
          refine any_step [6, 8] (by kernel_rfl) rfl ?_
          refine (all_cons ?_ (all_cons ?_ all_nil))
          · refine any_op (listed' := #[true, true, true, true, true, true, true, false, false, false, false, false]) (by kernel_rfl) (by kernel_rfl) ?_
            refine at_call (f := 83) (args := #[.slice A1 g3.length c1]) (d := 43) hF (by kernel_rfl) (by kernel_rfl) Try.func83 (by kernel_rfl) rfl (slices_Clone_w hr2 hS (fun _ hS => (hr_g3 _ (hS.dropN 1))) _hc_g3 rfl) (fun v a w hR hF => ?_)
            clear hS
            obtain ⟨A3, c3, rfl, hS⟩ := hR
            have hS : Sep w0 B w (own 3 (.slice A3 r2.length c3) (vI r2) :: blk g4 64 #[.int .i64 g1, .int .i64 g2, .slice A1 g3.length c1] :: fs) := hS
            refine any_fin rfl (hS.pickN 2 [1] (by decide)) ?_
            refine any_step [7, 8] (by kernel_rfl) rfl ?_
            refine (all_cons ?_ (all_cons ?_ all_nil))
            · refine any_op (listed' := #[true, true, true, true, true, true, true, true, false, false, false, false]) (by kernel_rfl) (by kernel_rfl) ?_
              refine at_runW 1 [] [] [1, 2, 44] [pl 1 (.int .i64 who1), pl 2 (.pointer (some ⟨g4, 0, none⟩)), pl 44 (.agg #[.int .i64 g1, .int .i64 g2, .slice A3 r2.length c3])] hF hS (by kernel_rfl) (by kernel_rfl) ?_ (fun a hF => ?_)
              · exact obs_nil
              refine any_finI rfl (fun h => h) ?_
              refine any_step [8] (by kernel_rfl) rfl ?_
              refine (all_cons ?_ all_nil)
              · refine any_op (listed' := #[true, true, true, true, true, true, true, true, true, false, false, false]) (by kernel_rfl) (by kernel_rfl) ?_
                refine at_do (d := 45) (s := vS (Instr.makeMap 156 none)) (v := .map (some w.heap.size)) (w' := w.alloc (.map #[] 0)) hF (by kernel_rfl) (by kernel_rfl) (by kernel_rfl) (fun a hF => ?_)
                have hS : Sep w0 B (w.alloc (.map #[] 0)) (mapH kf240 (Value.int .i64) w.heap.size ([] : List ((Int × Int × Int) × Int)) :: (own 3 (.slice A3 r2.length c3) (vI r2) :: blk g4 64 #[.int .i64 g1, .int .i64 g2, .slice A1 g3.length c1] :: fs)) := hS.mapNew _ _
                generalize w.heap.size = g5 at hF hS
                generalize w.alloc (.map #[] 0) = w at hS ⊢
                refine any_fin rfl (hS.pickN 3 [2] (by decide)) ?_
                refine any_step [9] (by kernel_rfl) rfl ?_
                refine (all_cons ?_ all_nil)
                · refine any_op (listed' := #[true, true, true, true, true, true, true, true, true, true, false, false]) (by kernel_rfl) (by kernel_rfl) ?_
                  refine at_runW 1 [] [] [1, 2, 46] [pl 1 (.int .i64 who1), pl 2 (.pointer (some ⟨g4, 0, none⟩)), pl 46 (.agg #[.int .i64 g1, .int .i64 g2, .slice A3 r2.length c3, .map (some g5)])] hF hS (by kernel_rfl) (by kernel_rfl) ?_ (fun a hF => ?_)
                  · exact obs_nil
                  refine any_finI rfl (fun h => h) ?_
                  refine any_step [10] (by kernel_rfl) rfl ?_
                  refine (all_cons ?_ all_nil)
                  · refine any_op (listed' := #[true, true, true, true, true, true, true, true, true, true, true, false]) (by kernel_rfl) (by kernel_rfl) ?_
                    refine at_do (d := 47) (s := vS (Instr.box 158 (.agg #[.int .i64 g1, .int .i64 g2, .slice A3 r2.length c3, .map (some g5)]))) (v := .pointer (some ⟨w.heap.size, 0, none⟩)) (w' := w.alloc (.cells #[.int .i64 g1, .int .i64 g2, .slice A3 r2.length c3, .map (some g5)] 158)) hF (by kernel_rfl) (by kernel_rfl) (by kernel_rfl) (fun a hF => ?_)
                    have hS : Sep w0 B (w.alloc (.cells #[.int .i64 g1, .int .i64 g2, .slice A3 r2.length c3, .map (some g5)] 158)) (blk w.heap.size 158 #[.int .i64 g1, .int .i64 g2, .slice A3 r2.length c3, .map (some g5)] :: (mapH kf240 (Value.int .i64) g5 ([] : List ((Int × Int × Int) × Int)) :: own 3 (.slice A3 r2.length c3) (vI r2) :: blk g4 64 #[.int .i64 g1, .int .i64 g2, .slice A1 g3.length c1] :: fs)) := hS.box 158 #[.int .i64 g1, .int .i64 g2, .slice A3 r2.length c3, .map (some g5)]
                    generalize w.heap.size = g6 at hF hS
                    generalize w.alloc (.cells #[.int .i64 g1, .int .i64 g2, .slice A3 r2.length c3, .map (some g5)] 158) = w at hS ⊢
                    refine any_fin rfl (hS.pickN 4 [3] (by decide)) ?_
                    refine any_step [11] (by kernel_rfl) rfl ?_
                    refine (all_cons ?_ all_nil)
                    · refine any_op (listed' := #[true, true, true, true, true, true, true, true, true, true, true, true]) (by kernel_rfl) (by kernel_rfl) ?_
                      refine at_runW 1 [] [] [1, 2, 11] [pl 1 (.int .i64 who1), pl 2 (.pointer (some ⟨g4, 0, none⟩)), pl 11 (.pointer (some ⟨g6, 0, none⟩))] hF hS (by kernel_rfl) (by kernel_rfl) ?_ (fun a hF => ?_)
                      · exact obs_nil
                      refine any_finI rfl (fun h => h) ?_
                      refine any_end (by kernel_rfl) ?_
                      refine np_n ?_
                      refine then_n ?_
                      have hS := hS.pickN 4 [3, 0, 2, 1] (by decide)
                      exact ⟨r2, g6, A3, c3, g5, hF.weak [1, 2, 11] (by kernel_rfl), hS, hm⟩
            · refine any_op (listed' := #[true, true, true, true, true, true, true, false, true, false, false, false]) (by kernel_rfl) (by kernel_rfl) ?_
              refine at_do (d := 45) (s := vS (Instr.makeMap 156 none)) (v := .map (some w.heap.size)) (w' := w.alloc (.map #[] 0)) hF (by kernel_rfl) (by kernel_rfl) (by kernel_rfl) (fun a hF => ?_)
              have hS : Sep w0 B (w.alloc (.map #[] 0)) (mapH kf240 (Value.int .i64) w.heap.size ([] : List ((Int × Int × Int) × Int)) :: (own 3 (.slice A3 r2.length c3) (vI r2) :: blk g4 64 #[.int .i64 g1, .int .i64 g2, .slice A1 g3.length c1] :: fs)) := hS.mapNew _ _
              generalize w.heap.size = g5 at hF hS
              generalize w.alloc (.map #[] 0) = w at hS ⊢
              refine any_fin rfl (hS.pickN 3 [2] (by decide)) ?_
              refine any_step [7] (by kernel_rfl) rfl ?_
              refine (all_cons ?_ all_nil)
              · refine any_op (listed' := #[true, true, true, true, true, true, true, true, true, false, false, false]) (by kernel_rfl) (by kernel_rfl) ?_
                refine at_runW 1 [] [] [1, 2, 44, 45] [pl 1 (.int .i64 who1), pl 2 (.pointer (some ⟨g4, 0, none⟩)), pl 44 (.agg #[.int .i64 g1, .int .i64 g2, .slice A3 r2.length c3]), pl 45 (.map (some g5))] hF hS (by kernel_rfl) (by kernel_rfl) ?_ (fun a hF => ?_)
                · exact obs_nil
                refine any_finI rfl (fun h => h) ?_
                refine any_step [9] (by kernel_rfl) rfl ?_
                refine (all_cons ?_ all_nil)
                · refine any_op (listed' := #[true, true, true, true, true, true, true, true, true, true, false, false]) (by kernel_rfl) (by kernel_rfl) ?_
                  refine at_runW 1 [] [] [1, 2, 46] [pl 1 (.int .i64 who1), pl 2 (.pointer (some ⟨g4, 0, none⟩)), pl 46 (.agg #[.int .i64 g1, .int .i64 g2, .slice A3 r2.length c3, .map (some g5)])] hF hS (by kernel_rfl) (by kernel_rfl) ?_ (fun a hF => ?_)
                  · exact obs_nil
                  refine any_finI rfl (fun h => h) ?_
                  refine any_step [10] (by kernel_rfl) rfl ?_
                  refine (all_cons ?_ all_nil)
                  · refine any_op (listed' := #[true, true, true, true, true, true, true, true, true, true, true, false]) (by kernel_rfl) (by kernel_rfl) ?_
                    refine at_do (d := 47) (s := vS (Instr.box 158 (.agg #[.int .i64 g1, .int .i64 g2, .slice A3 r2.length c3, .map (some g5)]))) (v := .pointer (some ⟨w.heap.size, 0, none⟩)) (w' := w.alloc (.cells #[.int .i64 g1, .int .i64 g2, .slice A3 r2.length c3, .map (some g5)] 158)) hF (by kernel_rfl) (by kernel_rfl) (by kernel_rfl) (fun a hF => ?_)
                    have hS : Sep w0 B (w.alloc (.cells #[.int .i64 g1, .int .i64 g2, .slice A3 r2.length c3, .map (some g5)] 158)) (blk w.heap.size 158 #[.int .i64 g1, .int .i64 g2, .slice A3 r2.length c3, .map (some g5)] :: (mapH kf240 (Value.int .i64) g5 ([] : List ((Int × Int × Int) × Int)) :: own 3 (.slice A3 r2.length c3) (vI r2) :: blk g4 64 #[.int .i64 g1, .int .i64 g2, .slice A1 g3.length c1] :: fs)) := hS.box 158 #[.int .i64 g1, .int .i64 g2, .slice A3 r2.length c3, .map (some g5)]
                    generalize w.heap.size = g6 at hF hS
                    generalize w.alloc (.cells #[.int .i64 g1, .int .i64 g2, .slice A3 r2.length c3, .map (some g5)] 158) = w at hS ⊢
                    refine any_fin rfl (hS.pickN 4 [3] (by decide)) ?_
                    refine any_step [11] (by kernel_rfl) rfl ?_
                    refine (all_cons ?_ all_nil)
                    · refine any_op (listed' := #[true, true, true, true, true, true, true, true, true, true, true, true]) (by kernel_rfl) (by kernel_rfl) ?_
                      refine at_runW 1 [] [] [1, 2, 11] [pl 1 (.int .i64 who1), pl 2 (.pointer (some ⟨g4, 0, none⟩)), pl 11 (.pointer (some ⟨g6, 0, none⟩))] hF hS (by kernel_rfl) (by kernel_rfl) ?_ (fun a hF => ?_)
                      · exact obs_nil
                      refine any_finI rfl (fun h => h) ?_
                      refine any_end (by kernel_rfl) ?_
                      refine np_n ?_
                      refine then_n ?_
                      have hS := hS.pickN 4 [3, 0, 2, 1] (by decide)
                      exact ⟨r2, g6, A3, c3, g5, hF.weak [1, 2, 11] (by kernel_rfl), hS, hm⟩
          · refine any_op (listed' := #[true, true, true, true, true, true, false, false, true, false, false, false]) (by kernel_rfl) (by kernel_rfl) ?_
            refine at_do (d := 45) (s := vS (Instr.makeMap 156 none)) (v := .map (some w.heap.size)) (w' := w.alloc (.map #[] 0)) hF (by kernel_rfl) (by kernel_rfl) (by kernel_rfl) (fun a hF => ?_)
            have hS : Sep w0 B (w.alloc (.map #[] 0)) (mapH kf240 (Value.int .i64) w.heap.size ([] : List ((Int × Int × Int) × Int)) :: (blk g4 64 #[.int .i64 g1, .int .i64 g2, .slice A1 g3.length c1] :: fs)) := hS.mapNew _ _
            generalize w.heap.size = g5 at hF hS
            generalize w.alloc (.map #[] 0) = w at hS ⊢
            refine any_fin rfl (hS.pickN 2 [1] (by decide)) ?_
            refine any_step [6] (by kernel_rfl) rfl ?_
            refine (all_cons ?_ all_nil)
            · refine any_op (listed' := #[true, true, true, true, true, true, true, false, true, false, false, false]) (by kernel_rfl) (by kernel_rfl) ?_
              refine at_call (f := 83) (args := #[.slice A1 g3.length c1]) (d := 43) hF (by kernel_rfl) (by kernel_rfl) Try.func83 (by kernel_rfl) rfl (slices_Clone_w hr2 hS (fun _ hS => (hr_g3 _ (hS.dropN 2))) _hc_g3 rfl) (fun v a w hR hF => ?_)
              clear hS
              obtain ⟨A5, c5, rfl, hS⟩ := hR
              have hS : Sep w0 B w (own 3 (.slice A5 r2.length c5) (vI r2) :: mapH kf240 (Value.int .i64) g5 ([] : List ((Int × Int × Int) × Int)) :: blk g4 64 #[.int .i64 g1, .int .i64 g2, .slice A1 g3.length c1] :: fs) := hS
              refine any_fin rfl (hS.pickN 3 [2] (by decide)) ?_
              refine any_step [7] (by kernel_rfl) rfl ?_
              refine (all_cons ?_ all_nil)
              · refine any_op (listed' := #[true, true, true, true, true, true, true, true, true, false, false, false]) (by kernel_rfl) (by kernel_rfl) ?_
                refine at_runW 1 [] [] [1, 2, 44, 45] [pl 1 (.int .i64 who1), pl 2 (.pointer (some ⟨g4, 0, none⟩)), pl 44 (.agg #[.int .i64 g1, .int .i64 g2, .slice A5 r2.length c5]), pl 45 (.map (some g5))] hF hS (by kernel_rfl) (by kernel_rfl) ?_ (fun a hF => ?_)
                · exact obs_nil
                refine any_finI rfl (fun h => h) ?_
                refine any_step [9] (by kernel_rfl) rfl ?_
                refine (all_cons ?_ all_nil)
                · refine any_op (listed' := #[true, true, true, true, true, true, true, true, true, true, false, false]) (by kernel_rfl) (by kernel_rfl) ?_
                  refine at_runW 1 [] [] [1, 2, 46] [pl 1 (.int .i64 who1), pl 2 (.pointer (some ⟨g4, 0, none⟩)), pl 46 (.agg #[.int .i64 g1, .int .i64 g2, .slice A5 r2.length c5, .map (some g5)])] hF hS (by kernel_rfl) (by kernel_rfl) ?_ (fun a hF => ?_)
                  · exact obs_nil
                  refine any_finI rfl (fun h => h) ?_
                  refine any_step [10] (by kernel_rfl) rfl ?_
                  refine (all_cons ?_ all_nil)
                  · refine any_op (listed' := #[true, true, true, true, true, true, true, true, true, true, true, false]) (by kernel_rfl) (by kernel_rfl) ?_
                    refine at_do (d := 47) (s := vS (Instr.box 158 (.agg #[.int .i64 g1, .int .i64 g2, .slice A5 r2.length c5, .map (some g5)]))) (v := .pointer (some ⟨w.heap.size, 0, none⟩)) (w' := w.alloc (.cells #[.int .i64 g1, .int .i64 g2, .slice A5 r2.length c5, .map (some g5)] 158)) hF (by kernel_rfl) (by kernel_rfl) (by kernel_rfl) (fun a hF => ?_)
                    have hS : Sep w0 B (w.alloc (.cells #[.int .i64 g1, .int .i64 g2, .slice A5 r2.length c5, .map (some g5)] 158)) (blk w.heap.size 158 #[.int .i64 g1, .int .i64 g2, .slice A5 r2.length c5, .map (some g5)] :: (own 3 (.slice A5 r2.length c5) (vI r2) :: mapH kf240 (Value.int .i64) g5 ([] : List ((Int × Int × Int) × Int)) :: blk g4 64 #[.int .i64 g1, .int .i64 g2, .slice A1 g3.length c1] :: fs)) := hS.box 158 #[.int .i64 g1, .int .i64 g2, .slice A5 r2.length c5, .map (some g5)]
                    generalize w.heap.size = g6 at hF hS
                    generalize w.alloc (.cells #[.int .i64 g1, .int .i64 g2, .slice A5 r2.length c5, .map (some g5)] 158) = w at hS ⊢
                    refine any_fin rfl (hS.pickN 4 [3] (by decide)) ?_
                    refine any_step [11] (by kernel_rfl) rfl ?_
                    refine (all_cons ?_ all_nil)
                    · refine any_op (listed' := #[true, true, true, true, true, true, true, true, true, true, true, true]) (by kernel_rfl) (by kernel_rfl) ?_
                      refine at_runW 1 [] [] [1, 2, 11] [pl 1 (.int .i64 who1), pl 2 (.pointer (some ⟨g4, 0, none⟩)), pl 11 (.pointer (some ⟨g6, 0, none⟩))] hF hS (by kernel_rfl) (by kernel_rfl) ?_ (fun a hF => ?_)
                      · exact obs_nil
                      refine any_finI rfl (fun h => h) ?_
                      refine any_end (by kernel_rfl) ?_
                      refine np_n ?_
                      refine then_n ?_
                      have hS := hS.pickN 4 [3, 0, 1, 2] (by decide)
                      exact ⟨r2, g6, A5, c5, g5, hF.weak [1, 2, 11] (by kernel_rfl), hS, hm⟩
      · refine reg [] [] [1, 2, 36] [pl 1 (.int .i64 who1), pl 2 (.pointer (some ⟨g4, 0, none⟩)), pl 36 (.bool (decide ((9 : Int) < open2)))] hF hS Fol (by kernel_rfl) (by kernel_rfl) (by kernel_rfl) ?_ (fun a w hF hS => ?_)
        · exact obs_nil
        refine cond_ev (t := 36) (b := decide ((9 : Int) < open2)) hF (by kernel_rfl) (fun hb => ?_) (fun hb => ?_)
        · replace hm := if_t hm hb
          refine reg [] [] [4, 5, 6] [pl 4 (.int .i64 0), pl 5 (.slice none 0 0), pl 6 (.int .i64 2)] hF hS Fol (by kernel_rfl) (by kernel_rfl) (by kernel_rfl) ?_ (fun a w hF hS => ?_)
          · exact obs_nil
          refine wpIn_ret ?_
          refine then_r ?_
          have hS : Sep w0 B w (own 3 (.slice none 0 0) (vI ([] : List Int)) :: blk g4 64 #[.int .i64 g1, .int .i64 g2, .slice A1 g3.length c1] :: fs) := hS.nil 3
          have hl2 := (hS.at_ 0 rfl).len1
          have hS := (hS.at_ 0 rfl).reN hl2
          have hS : Sep w0 B w (own 3 (.slice none (([] : List Int).length) 0) (vI ([] : List Int)) :: blk g4 64 #[.int .i64 g1, .int .i64 g2, .slice A1 g3.length c1] :: fs) := hS
          have hS := hS.pickN 2 [0] (by decide)
          have hm : some (0, ([] : List Int), 2) = some r := hm
          obtain rfl := Option.some.inj hm
          exact retV (rs := [.tmp 4, .tmp 5, .tmp 6]) (vs := [.int .i64 0, .slice none (([] : List Int).length) 0, .int .i64 2]) hF rfl (rv_t (by kernel_rfl) <| rv_t (by kernel_rfl) <| rv_t (by kernel_rfl) <| rv_nil) rfl ⟨_, rfl, none, 0, rfl, hS⟩
        · replace hm := if_f hm hb
          refine wpIn_skip ?_
          refine then_n ?_
          exact ⟨hF.weak [1, 2] (by kernel_rfl), hS, hm⟩
    · refine reg [⟨false, [], vS (Instr.loadAt 27 (.pointer (some ⟨g4, 2, none⟩))), .slice A1 g3.length c1⟩] [none, some (.slice A1 g3.length c1), none, none] [1, 2, 8, 24, 25, 26] [pl 1 (.int .i64 who1), pl 2 (.pointer (some ⟨g4, 0, none⟩)), pl 8 (.int .i64 0), pl 24 (.slice A1 g3.length c1), pl 25 (.int .i64 (g3.length : Int)), pl 26 (.int .i64 0)] hF hS Fol (by kernel_rfl) (by kernel_rfl) (by kernel_rfl) ?_ (fun a w hF hS => ?_)
      · exact obs_cons (ob_load Agg27 (fun _ _ hS => (hS.at_ 0 rfl).cell rfl)) <| obs_nil
      refine wpIn_block ?_
      refine wp_loop_model (S := (Int × Int)) (R := Int) (hex_Solve_L1 g3) (fun x => ((hex_Solve_K1 g1 g2 g3 who1) x).bind some) r (fun (x : (Int × Int)) a w => Fr 86 [pl 1 (.int .i64 who1), pl 2 (.pointer (some ⟨g4, 0, none⟩)), pl 8 (.int .i64 x.1), pl 24 (.slice A1 g3.length c1), pl 25 (.int .i64 (g3.length : Int)), pl 26 (.int .i64 x.2)] a ∧ Sep w0 B w (blk g4 64 #[.int .i64 g1, .int .i64 g2, .slice A1 g3.length c1] :: fs)) (assoc_b hm) ⟨hF.weak [1, 2, 8, 24, 25, 26] (by kernel_rfl), hS⟩ ?_
      clear hF hS hm
      rintro nn1 ⟨open1, z1⟩ a w ⟨hF, hS⟩ hm
      generalize hφ1 : stK (hex_Solve_L1 g3) nn1 (fun x => ((hex_Solve_K1 g1 g2 g3 who1) x).bind some) = φ1 at hm
      unfold hex_Solve_L1 at hm
      dsimp only at hF hS hm
      refine reg [] [] [1, 2, 8, 24, 25, 26, 27] [pl 1 (.int .i64 who1), pl 2 (.pointer (some ⟨g4, 0, none⟩)), pl 8 (.int .i64 open1), pl 24 (.slice A1 g3.length c1), pl 25 (.int .i64 (g3.length : Int)), pl 26 (.int .i64 z1), pl 27 (.bool (decide (z1 < (g3.length : Int))))] hF hS Fol (by kernel_rfl) (by kernel_rfl) (by kernel_rfl) ?_ (fun a w hF hS => ?_)
      · exact obs_nil
      refine seq_cut (fun a w => Fr 86 [pl 1 (.int .i64 who1), pl 2 (.pointer (some ⟨g4, 0, none⟩)), pl 8 (.int .i64 open1), pl 24 (.slice A1 g3.length c1), pl 25 (.int .i64 (g3.length : Int)), pl 26 (.int .i64 z1)] a ∧ Sep w0 B w (blk g4 64 #[.int .i64 g1, .int .i64 g2, .slice A1 g3.length c1] :: fs) ∧ ((hex_Solve_J3 g3 open1 z1)).bind φ1 = some r) ?_ ?_
      · rintro a w ⟨hF, hS, hm⟩
        unfold hex_Solve_J3 at hm
        refine seq_cut (fun a w => ∃ (open3 : Int), Fr 86 [pl 1 (.int .i64 who1), pl 2 (.pointer (some ⟨g4, 0, none⟩)), pl 8 (.int .i64 open3), pl 24 (.slice A1 g3.length c1), pl 25 (.int .i64 (g3.length : Int)), pl 26 (.int .i64 z1)] a ∧ Sep w0 B w (blk g4 64 #[.int .i64 g1, .int .i64 g2, .slice A1 g3.length c1] :: fs) ∧ ((hex_Solve_J4 z1) open3).bind φ1 = some r) ?_ ?_
        · rintro a w ⟨open3, hF, hS, hm⟩
          unfold hex_Solve_J4 at hm
          refine reg1 [] [] [1, 2, 8, 24, 25, 26] [pl 1 (.int .i64 who1), pl 2 (.pointer (some ⟨g4, 0, none⟩)), pl 8 (.int .i64 open3), pl 24 (.slice A1 g3.length c1), pl 25 (.int .i64 (g3.length : Int)), pl 26 (.int .i64 (w64 (z1 + 1)))] hF hS Fol (by kernel_rfl) (by kernel_rfl) (by kernel_rfl) ?_ (fun a w hF hS => ?_)
          · exact obs_nil
          refine then_n ?_
          rw [← hφ1] at hm
          exact ⟨(open3, (w64 (z1 + 1))), ⟨hF.weak [1, 2, 8, 24, 25, 26] (by kernel_rfl), hS⟩, hm⟩
        · refine wpIn_block ?_
          obtain ⟨hp1, hm⟩ := asrt_b hm
          refine reg [⟨true, [], vS (Instr.indexAt 27 (.slice A1 g3.length c1) (.int .i64 z1)), .pointer (some (sAddr A1 z1))⟩, ⟨false, [], vS (Instr.loadAt 3 (.pointer (some (sAddr A1 z1)))), .int .i64 (geti g3 z1)⟩] [some (.pointer (some (sAddr A1 z1))), some (.int .i64 (geti g3 z1)), none] [1, 2, 8, 10, 24, 25, 26] [pl 1 (.int .i64 who1), pl 2 (.pointer (some ⟨g4, 0, none⟩)), pl 8 (.int .i64 open1), pl 10 (.int .i64 (geti g3 z1)), pl 24 (.slice A1 g3.length c1), pl 25 (.int .i64 (g3.length : Int)), pl 26 (.int .i64 z1)] hF hS Fol (by kernel_rfl) (by kernel_rfl) (by kernel_rfl) ?_ (fun a w hF hS => ?_)
          · exact obs_cons (ob_ix1 (f := (Value.int .i64)) (m := g3) Und27 hi3 hs3 (hr_g3 _ (hS.dropN 1)) rfl (fun _ => hp1)) <| obs_cons (ob_get1 (n := g3.length) (m := g3) (Value.int .i64) (0 : Int) Agg3 (fun _ hS => ⟨_, (hr_g3 _ (hS.dropN 1))⟩) (fun _ hS => rfl) (fun _ => hp1)) <| obs_nil
          refine reg [] [] [1, 2, 8, 24, 25, 26, 31] [pl 1 (.int .i64 who1), pl 2 (.pointer (some ⟨g4, 0, none⟩)), pl 8 (.int .i64 open1), pl 24 (.slice A1 g3.length c1), pl 25 (.int .i64 (g3.length : Int)), pl 26 (.int .i64 z1), pl 31 (.bool ((geti g3 z1) == 0))] hF hS Fol (by kernel_rfl) (by kernel_rfl) (by kernel_rfl) ?_ (fun a w hF hS => ?_)
          · exact obs_nil
          refine cond_ev (t := 31) (b := ((geti g3 z1) == 0)) hF (by kernel_rfl) (fun hb => ?_) (fun hb => ?_)
          · replace hm := if_t hm hb
            refine reg1 [] [] [1, 2, 8, 24, 25, 26] [pl 1 (.int .i64 who1), pl 2 (.pointer (some ⟨g4, 0, none⟩)), pl 8 (.int .i64 (w64 (open1 + 1))), pl 24 (.slice A1 g3.length c1), pl 25 (.int .i64 (g3.length : Int)), pl 26 (.int .i64 z1)] hF hS Fol (by kernel_rfl) (by kernel_rfl) (by kernel_rfl) ?_ (fun a w hF hS => ?_)
            · exact obs_nil
            refine block_n ?_
            refine then_n ?_
            exact ⟨(w64 (open1 + 1)), hF.weak [1, 2, 8, 24, 25, 26] (by kernel_rfl), hS, hm⟩
          · replace hm := if_f hm hb
            refine wpIn_skip ?_
            refine block_n ?_
            refine then_n ?_
            exact ⟨open1, hF.weak [1, 2, 8, 24, 25, 26] (by kernel_rfl), hS, hm⟩
      · refine cond_ev (t := 27) (b := decide (z1 < (g3.length : Int))) hF (by kernel_rfl) (fun hb => ?_) (fun hb => ?_)
        · replace hm := if_t hm hb
          refine wpIn_skip ?_
          refine then_n ?_
          exact ⟨hF.weak [1, 2, 8, 24, 25, 26] (by kernel_rfl), hS, hm⟩
        · replace hm := if_f hm hb
          refine wpIn_exit ?_
          refine then_e (then_e (block_e (then_n ?_)))
          rw [← hφ1] at hm
          replace hm := done_b hm
          unfold hex_Solve_K1 at hm
          try dsimp only at hm
          have hm : ((hex_Solve_J2 g1 g2 g3 who1) open1).bind some = some r := hm
          exact ⟨open1, hF.weak [1, 2, 8] (by kernel_rfl), hS, hm⟩
  · obtain ⟨r1, hr1, hm⟩ := call_b hm
    refine reg [⟨false, [], vS (Instr.loadAt 64 (.pointer (some ⟨g4, 0, none⟩))), .agg #[.int .i64 g1, .int .i64 g2, .slice A1 g3.length c1]⟩, ⟨false, [], callFunc 115 #[.agg #[.int .i64 g1, .int .i64 g2, .slice A1 g3.length c1], .int .i64 who1], .int .i64 r1⟩] [some (.agg #[.int .i64 g1, .int .i64 g2, .slice A1 g3.length c1]), none, some (.int .i64 r1), none] [1, 2, 7] [pl 1 (.int .i64 who1), pl 2 (.pointer (some ⟨g4, 0, none⟩)), pl 7 (.int .i64 r1)] hF hS Fol (by kernel_rfl) (by kernel_rfl) (by kernel_rfl) ?_ (fun a w hF hS => ?_)
    · exact obs_cons (ob_loadA (cs := #[.int .i64 g1, .int .i64 g2, .slice A1 g3.length c1]) (by kernel_rfl) (by kernel_rfl) (fun _ _ hS => (hS.at_ 0 rfl).cellsAt 0 (by rfl))) <| obs_cons (ob_call Try.func115 (by kernel_rfl) rfl (fun _ _ hS => hex_player_w hr1 hS (fun _ hS => (hr_g3 _ (hS.dropN 1))) _hc_g3 rfl)) <| obs_nil
    refine reg [] [] [1, 2, 7, 21] [pl 1 (.int .i64 who1), pl 2 (.pointer (some ⟨g4, 0, none⟩)), pl 7 (.int .i64 r1), pl 21 (.bool (r1 != 0))] hF hS Fol (by kernel_rfl) (by kernel_rfl) (by kernel_rfl) ?_ (fun a w hF hS => ?_)
    · exact obs_nil
    refine cond_ev (t := 21) (b := (r1 != 0)) hF (by kernel_rfl) (fun hb => ?_) (fun hb => ?_)
    · replace hm := if_t hm hb
      refine reg [] [] [4, 5, 6] [pl 4 (.int .i64 0), pl 5 (.slice none 0 0), pl 6 (.int .i64 r1)] hF hS Fol (by kernel_rfl) (by kernel_rfl) (by kernel_rfl) ?_ (fun a w hF hS => ?_)
      · exact obs_nil
      refine wpIn_ret ?_
      refine then_r ?_
      have hS : Sep w0 B w (own 3 (.slice none 0 0) (vI ([] : List Int)) :: blk g4 64 #[.int .i64 g1, .int .i64 g2, .slice A1 g3.length c1] :: fs) := hS.nil 3
      have hl1 := (hS.at_ 0 rfl).len1
      have hS := (hS.at_ 0 rfl).reN hl1
      have hS : Sep w0 B w (own 3 (.slice none (([] : List Int).length) 0) (vI ([] : List Int)) :: blk g4 64 #[.int .i64 g1, .int .i64 g2, .slice A1 g3.length c1] :: fs) := hS
      have hS := hS.pickN 2 [0] (by decide)
      have hm : some (0, ([] : List Int), r1) = some r := hm
      obtain rfl := Option.some.inj hm
      exact retV (rs := [.tmp 4, .tmp 5, .tmp 6]) (vs := [.int .i64 0, .slice none (([] : List Int).length) 0, .int .i64 r1]) hF rfl (rv_t (by kernel_rfl) <| rv_t (by kernel_rfl) <| rv_t (by kernel_rfl) <| rv_nil) rfl ⟨_, rfl, none, 0, rfl, hS⟩
    · replace hm := if_f hm hb
      refine wpIn_skip ?_
      refine then_n ?_
      exact ⟨hF.weak [1, 2] (by kernel_rfl), hS, hm⟩

noncomputable def bits_Mul64_m  (x1 : Int) (y1 : Int) : Option (Int × Int) :=
  some ((IntKind.wrap .u64 ((IntKind.wrap .u64 ((IntKind.wrap .u64 ((shrK .u64 x1 32) * (shrK .u64 y1 32))) + (shrK .u64 (IntKind.wrap .u64 ((IntKind.wrap .u64 ((shrK .u64 x1 32) * (andK .u64 y1 4294967295))) + (shrK .u64 (IntKind.wrap .u64 ((andK .u64 x1 4294967295) * (andK .u64 y1 4294967295))) 32))) 32))) + (shrK .u64 (IntKind.wrap .u64 ((andK .u64 (IntKind.wrap .u64 ((IntKind.wrap .u64 ((shrK .u64 x1 32) * (andK .u64 y1 4294967295))) + (shrK .u64 (IntKind.wrap .u64 ((andK .u64 x1 4294967295) * (andK .u64 y1 4294967295))) 32))) 4294967295) + (IntKind.wrap .u64 ((andK .u64 x1 4294967295) * (shrK .u64 y1 32))))) 32))), (IntKind.wrap .u64 (x1 * y1)))

set_option maxRecDepth 100000 in
set_option maxHeartbeats 4000000 in
theorem bits_Mul64_w {x1 : Int} {y1 : Int} {r : (Int × Int)} {w0 w : World} {B : Nat} {fs : List HP} (hm : bits_Mul64_m x1 y1 = some r) (hS : Sep w0 B w (fs)) :
    Calls Try.prog 243 #[.int .u64 x1, .int .u64 y1] w fun e w' => e = .returned (.tuple #[.int .u64 r.1, .int .u64 r.2]) ∧ Sep w0 B w' (fs) := by
  unfold bits_Mul64_m at hm
  replace hm := start_b hm
  refine enter (l := [.int .u64 x1, .int .u64 y1]) (n := 51) Try.func243 rfl rfl (by simp) (fun a hF => ?_)
  refine reg [] [] [0, 1] [pl 0 (.int .u64 x1), pl 1 (.int .u64 y1)] hF hS Fol (by kernel_rfl) (by kernel_rfl) (by kernel_rfl) ?_ (fun a w hF hS => ?_)
  · exact obs_nil
  refine reg [] [] [0, 1, 6] [pl 0 (.int .u64 x1), pl 1 (.int .u64 y1), pl 6 (.int .u64 (andK .u64 x1 4294967295))] hF hS Fol (by kernel_rfl) (by kernel_rfl) (by kernel_rfl) ?_ (fun a w hF hS => ?_)
  · exact obs_nil
  refine reg [⟨true, [], vS (Op.shift .shr .u64 x1 .u64 32), .int .u64 (shrK .u64 x1 32)⟩] [none, some (.int .u64 (shrK .u64 x1 32)), none] [0, 1, 6, 7] [pl 0 (.int .u64 x1), pl 1 (.int .u64 y1), pl 6 (.int .u64 (andK .u64 x1 4294967295)), pl 7 (.int .u64 (shrK .u64 x1 32))] hF hS Fol (by kernel_rfl) (by kernel_rfl) (by kernel_rfl) ?_ (fun a w hF hS => ?_)
  · exact obs_cons (ob_shr (fun _ => by decide)) <| obs_nil
  refine reg [] [] [0, 1, 6, 7, 8] [pl 0 (.int .u64 x1), pl 1 (.int .u64 y1), pl 6 (.int .u64 (andK .u64 x1 4294967295)), pl 7 (.int .u64 (shrK .u64 x1 32)), pl 8 (.int .u64 (andK .u64 y1 4294967295))] hF hS Fol (by kernel_rfl) (by kernel_rfl) (by kernel_rfl) ?_ (fun a w hF hS => ?_)
  · exact obs_nil
  refine reg [⟨true, [], vS (Op.shift .shr .u64 y1 .u64 32), .int .u64 (shrK .u64 y1 32)⟩] [none, some (.int .u64 (shrK .u64 y1 32)), none] [0, 1, 6, 7, 8, 9] [pl 0 (.int .u64 x1), pl 1 (.int .u64 y1), pl 6 (.int .u64 (andK .u64 x1 4294967295)), pl 7 (.int .u64 (shrK .u64 x1 32)), pl 8 (.int .u64 (andK .u64 y1 4294967295)), pl 9 (.int .u64 (shrK .u64 y1 32))] hF hS Fol (by kernel_rfl) (by kernel_rfl) (by kernel_rfl) ?_ (fun a w hF hS => ?_)
  · exact obs_cons (ob_shr (fun _ => by decide)) <| obs_nil
  refine reg [] [] [0, 1, 6, 7, 8, 9, 10] [pl 0 (.int .u64 x1), pl 1 (.int .u64 y1), pl 6 (.int .u64 (andK .u64 x1 4294967295)), pl 7 (.int .u64 (shrK .u64 x1 32)), pl 8 (.int .u64 (andK .u64 y1 4294967295)), pl 9 (.int .u64 (shrK .u64 y1 32)), pl 10 (.int .u64 (IntKind.wrap .u64 ((andK .u64 x1 4294967295) * (andK .u64 y1 4294967295))))] hF hS Fol (by kernel_rfl) (by kernel_rfl) (by kernel_rfl) ?_ (fun a w hF hS => ?_)
  · exact obs_nil
  refine reg [⟨true, [], vS (Op.shift .shr .u64 (IntKind.wrap .u64 ((andK .u64 x1 4294967295) * (andK .u64 y1 4294967295))) .u64 32), .int .u64 (shrK .u64 (IntKind.wrap .u64 ((andK .u64 x1 4294967295) * (andK .u64 y1 4294967295))) 32)⟩] [none, none, none, none, some (.int .u64 (shrK .u64 (IntKind.wrap .u64 ((andK .u64 x1 4294967295) * (andK .u64 y1 4294967295))) 32)), none, none] [0, 1, 6, 7, 9, 11] [pl 0 (.int .u64 x1), pl 1 (.int .u64 y1), pl 6 (.int .u64 (andK .u64 x1 4294967295)), pl 7 (.int .u64 (shrK .u64 x1 32)), pl 9 (.int .u64 (shrK .u64 y1 32)), pl 11 (.int .u64 (IntKind.wrap .u64 ((IntKind.wrap .u64 ((shrK .u64 x1 32) * (andK .u64 y1 4294967295))) + (shrK .u64 (IntKind.wrap .u64 ((andK .u64 x1 4294967295) * (andK .u64 y1 4294967295))) 32))))] hF hS Fol (by kernel_rfl) (by kernel_rfl) (by kernel_rfl) ?_ (fun a w hF hS => ?_)
  · exact obs_cons (ob_shr (fun _ => by decide)) <| obs_nil
  refine reg [] [] [0, 1, 6, 7, 9, 11, 12] [pl 0 (.int .u64 x1), pl 1 (.int .u64 y1), pl 6 (.int .u64 (andK .u64 x1 4294967295)), pl 7 (.int .u64 (shrK .u64 x1 32)), pl 9 (.int .u64 (shrK .u64 y1 32)), pl 11 (.int .u64 (IntKind.wrap .u64 ((IntKind.wrap .u64 ((shrK .u64 x1 32) * (andK .u64 y1 4294967295))) + (shrK .u64 (IntKind.wrap .u64 ((andK .u64 x1 4294967295) * (andK .u64 y1 4294967295))) 32)))), pl 12 (.int .u64 (andK .u64 (IntKind.wrap .u64 ((IntKind.wrap .u64 ((shrK .u64 x1 32) * (andK .u64 y1 4294967295))) + (shrK .u64 (IntKind.wrap .u64 ((andK .u64 x1 4294967295) * (andK .u64 y1 4294967295))) 32))) 4294967295))] hF hS Fol (by kernel_rfl) (by kernel_rfl) (by kernel_rfl) ?_ (fun a w hF hS => ?_)
  · exact obs_nil
  refine reg [⟨true, [], vS (Op.shift .shr .u64 (IntKind.wrap .u64 ((IntKind.wrap .u64 ((shrK .u64 x1 32) * (andK .u64 y1 4294967295))) + (shrK .u64 (IntKind.wrap .u64 ((andK .u64 x1 4294967295) * (andK .u64 y1 4294967295))) 32))) .u64 32), .int .u64 (shrK .u64 (IntKind.wrap .u64 ((IntKind.wrap .u64 ((shrK .u64 x1 32) * (andK .u64 y1 4294967295))) + (shrK .u64 (IntKind.wrap .u64 ((andK .u64 x1 4294967295) * (andK .u64 y1 4294967295))) 32))) 32)⟩] [none, some (.int .u64 (shrK .u64 (IntKind.wrap .u64 ((IntKind.wrap .u64 ((shrK .u64 x1 32) * (andK .u64 y1 4294967295))) + (shrK .u64 (IntKind.wrap .u64 ((andK .u64 x1 4294967295) * (andK .u64 y1 4294967295))) 32))) 32)), none] [0, 1, 6, 7, 9, 12, 13] [pl 0 (.int .u64 x1), pl 1 (.int .u64 y1), pl 6 (.int .u64 (andK .u64 x1 4294967295)), pl 7 (.int .u64 (shrK .u64 x1 32)), pl 9 (.int .u64 (shrK .u64 y1 32)), pl 12 (.int .u64 (andK .u64 (IntKind.wrap .u64 ((IntKind.wrap .u64 ((shrK .u64 x1 32) * (andK .u64 y1 4294967295))) + (shrK .u64 (IntKind.wrap .u64 ((andK .u64 x1 4294967295) * (andK .u64 y1 4294967295))) 32))) 4294967295)), pl 13 (.int .u64 (shrK .u64 (IntKind.wrap .u64 ((IntKind.wrap .u64 ((shrK .u64 x1 32) * (andK .u64 y1 4294967295))) + (shrK .u64 (IntKind.wrap .u64 ((andK .u64 x1 4294967295) * (andK .u64 y1 4294967295))) 32))) 32))] hF hS Fol (by kernel_rfl) (by kernel_rfl) (by kernel_rfl) ?_ (fun a w hF hS => ?_)
  · exact obs_cons (ob_shr (fun _ => by decide)) <| obs_nil
  refine reg [] [] [0, 1, 7, 9, 12, 13] [pl 0 (.int .u64 x1), pl 1 (.int .u64 y1), pl 7 (.int .u64 (shrK .u64 x1 32)), pl 9 (.int .u64 (shrK .u64 y1 32)), pl 12 (.int .u64 (IntKind.wrap .u64 ((andK .u64 (IntKind.wrap .u64 ((IntKind.wrap .u64 ((shrK .u64 x1 32) * (andK .u64 y1 4294967295))) + (shrK .u64 (IntKind.wrap .u64 ((andK .u64 x1 4294967295) * (andK .u64 y1 4294967295))) 32))) 4294967295) + (IntKind.wrap .u64 ((andK .u64 x1 4294967295) * (shrK .u64 y1 32)))))), pl 13 (.int .u64 (shrK .u64 (IntKind.wrap .u64 ((IntKind.wrap .u64 ((shrK .u64 x1 32) * (andK .u64 y1 4294967295))) + (shrK .u64 (IntKind.wrap .u64 ((andK .u64 x1 4294967295) * (andK .u64 y1 4294967295))) 32))) 32))] hF hS Fol (by kernel_rfl) (by kernel_rfl) (by kernel_rfl) ?_ (fun a w hF hS => ?_)
  · exact obs_nil
  refine reg [⟨true, [], vS (Op.shift .shr .u64 (IntKind.wrap .u64 ((andK .u64 (IntKind.wrap .u64 ((IntKind.wrap .u64 ((shrK .u64 x1 32) * (andK .u64 y1 4294967295))) + (shrK .u64 (IntKind.wrap .u64 ((andK .u64 x1 4294967295) * (andK .u64 y1 4294967295))) 32))) 4294967295) + (IntKind.wrap .u64 ((andK .u64 x1 4294967295) * (shrK .u64 y1 32))))) .u64 32), .int .u64 (shrK .u64 (IntKind.wrap .u64 ((andK .u64 (IntKind.wrap .u64 ((IntKind.wrap .u64 ((shrK .u64 x1 32) * (andK .u64 y1 4294967295))) + (shrK .u64 (IntKind.wrap .u64 ((andK .u64 x1 4294967295) * (andK .u64 y1 4294967295))) 32))) 4294967295) + (IntKind.wrap .u64 ((andK .u64 x1 4294967295) * (shrK .u64 y1 32))))) 32)⟩] [none, none, none, none, none, none, some (.int .u64 (shrK .u64 (IntKind.wrap .u64 ((andK .u64 (IntKind.wrap .u64 ((IntKind.wrap .u64 ((shrK .u64 x1 32) * (andK .u64 y1 4294967295))) + (shrK .u64 (IntKind.wrap .u64 ((andK .u64 x1 4294967295) * (andK .u64 y1 4294967295))) 32))) 4294967295) + (IntKind.wrap .u64 ((andK .u64 x1 4294967295) * (shrK .u64 y1 32))))) 32)), none, none] [0, 1, 4] [pl 0 (.int .u64 x1), pl 1 (.int .u64 y1), pl 4 (.int .u64 (IntKind.wrap .u64 ((IntKind.wrap .u64 ((IntKind.wrap .u64 ((shrK .u64 x1 32) * (shrK .u64 y1 32))) + (shrK .u64 (IntKind.wrap .u64 ((IntKind.wrap .u64 ((shrK .u64 x1 32) * (andK .u64 y1 4294967295))) + (shrK .u64 (IntKind.wrap .u64 ((andK .u64 x1 4294967295) * (andK .u64 y1 4294967295))) 32))) 32))) + (shrK .u64 (IntKind.wrap .u64 ((andK .u64 (IntKind.wrap .u64 ((IntKind.wrap .u64 ((shrK .u64 x1 32) * (andK .u64 y1 4294967295))) + (shrK .u64 (IntKind.wrap .u64 ((andK .u64 x1 4294967295) * (andK .u64 y1 4294967295))) 32))) 4294967295) + (IntKind.wrap .u64 ((andK .u64 x1 4294967295) * (shrK .u64 y1 32))))) 32))))] hF hS Fol (by kernel_rfl) (by kernel_rfl) (by kernel_rfl) ?_ (fun a w hF hS => ?_)
  · exact obs_cons (ob_shr (fun _ => by decide)) <| obs_nil
  refine reg [] [] [4, 5] [pl 4 (.int .u64 (IntKind.wrap .u64 ((IntKind.wrap .u64 ((IntKind.wrap .u64 ((shrK .u64 x1 32) * (shrK .u64 y1 32))) + (shrK .u64 (IntKind.wrap .u64 ((IntKind.wrap .u64 ((shrK .u64 x1 32) * (andK .u64 y1 4294967295))) + (shrK .u64 (IntKind.wrap .u64 ((andK .u64 x1 4294967295) * (andK .u64 y1 4294967295))) 32))) 32))) + (shrK .u64 (IntKind.wrap .u64 ((andK .u64 (IntKind.wrap .u64 ((IntKind.wrap .u64 ((shrK .u64 x1 32) * (andK .u64 y1 4294967295))) + (shrK .u64 (IntKind.wrap .u64 ((andK .u64 x1 4294967295) * (andK .u64 y1 4294967295))) 32))) 4294967295) + (IntKind.wrap .u64 ((andK .u64 x1 4294967295) * (shrK .u64 y1 32))))) 32)))), pl 5 (.int .u64 (IntKind.wrap .u64 (x1 * y1)))] hF hS Fol (by kernel_rfl) (by kernel_rfl) (by kernel_rfl) ?_ (fun a w hF hS => ?_)
  · exact obs_nil
  refine wpIn_ret ?_
  have hm : some ((IntKind.wrap .u64 ((IntKind.wrap .u64 ((IntKind.wrap .u64 ((shrK .u64 x1 32) * (shrK .u64 y1 32))) + (shrK .u64 (IntKind.wrap .u64 ((IntKind.wrap .u64 ((shrK .u64 x1 32) * (andK .u64 y1 4294967295))) + (shrK .u64 (IntKind.wrap .u64 ((andK .u64 x1 4294967295) * (andK .u64 y1 4294967295))) 32))) 32))) + (shrK .u64 (IntKind.wrap .u64 ((andK .u64 (IntKind.wrap .u64 ((IntKind.wrap .u64 ((shrK .u64 x1 32) * (andK .u64 y1 4294967295))) + (shrK .u64 (IntKind.wrap .u64 ((andK .u64 x1 4294967295) * (andK .u64 y1 4294967295))) 32))) 4294967295) + (IntKind.wrap .u64 ((andK .u64 x1 4294967295) * (shrK .u64 y1 32))))) 32))), (IntKind.wrap .u64 (x1 * y1))) = some r := hm
  obtain rfl := Option.some.inj hm
  exact retV (rs := [.tmp 4, .tmp 5]) (vs := [.int .u64 (IntKind.wrap .u64 ((IntKind.wrap .u64 ((IntKind.wrap .u64 ((shrK .u64 x1 32) * (shrK .u64 y1 32))) + (shrK .u64 (IntKind.wrap .u64 ((IntKind.wrap .u64 ((shrK .u64 x1 32) * (andK .u64 y1 4294967295))) + (shrK .u64 (IntKind.wrap .u64 ((andK .u64 x1 4294967295) * (andK .u64 y1 4294967295))) 32))) 32))) + (shrK .u64 (IntKind.wrap .u64 ((andK .u64 (IntKind.wrap .u64 ((IntKind.wrap .u64 ((shrK .u64 x1 32) * (andK .u64 y1 4294967295))) + (shrK .u64 (IntKind.wrap .u64 ((andK .u64 x1 4294967295) * (andK .u64 y1 4294967295))) 32))) 4294967295) + (IntKind.wrap .u64 ((andK .u64 x1 4294967295) * (shrK .u64 y1 32))))) 32))), .int .u64 (IntKind.wrap .u64 (x1 * y1))]) hF rfl (rv_t (by kernel_rfl) <| rv_t (by kernel_rfl) <| rv_nil) rfl ⟨rfl, hS⟩

noncomputable def bits_Mul_J1  (x1 : Int) (y1 : Int) : Option (Int × Int) :=
  (bits_Mul64_m x1 y1).bind fun r1 => some (r1.1, r1.2)

noncomputable def bits_Mul_m  (x1 : Int) (y1 : Int) : Option (Int × Int) :=
  (bits_Mul_J1 x1 y1)

set_option maxRecDepth 100000 in
set_option maxHeartbeats 4000000 in
theorem bits_Mul_w {x1 : Int} {y1 : Int} {r : (Int × Int)} {w0 w : World} {B : Nat} {fs : List HP} (hm : bits_Mul_m x1 y1 = some r) (hS : Sep w0 B w (fs)) :
    Calls Try.prog 187 #[.int .u64 x1, .int .u64 y1] w fun e w' => e = .returned (.tuple #[.int .u64 r.1, .int .u64 r.2]) ∧ Sep w0 B w' (fs) := by
  unfold bits_Mul_m at hm
  replace hm := start_b hm
  refine enter (l := [.int .u64 x1, .int .u64 y1]) (n := 30) Try.func187 rfl rfl (by simp) (fun a hF => ?_)
  refine reg [] [] [0, 1] [pl 0 (.int .u64 x1), pl 1 (.int .u64 y1)] hF hS Fol (by kernel_rfl) (by kernel_rfl) (by kernel_rfl) ?_ (fun a w hF hS => ?_)
  · exact obs_nil
  refine seq_cut (fun a w => Fr 30 [pl 0 (.int .u64 x1), pl 1 (.int .u64 y1)] a ∧ Sep w0 B w (fs) ∧ ((bits_Mul_J1 x1 y1)).bind some = some r) ?_ ?_
  · rintro a w ⟨hF, hS, hm⟩
    unfold bits_Mul_J1 at hm
    obtain ⟨r1, hr1, hm⟩ := call_b hm
    refine reg [⟨false, [], callFunc 243 #[.int .u64 x1, .int .u64 y1], .tuple #[.int .u64 r1.1, .int .u64 r1.2]⟩] [none, none, some (.tuple #[.int .u64 r1.1, .int .u64 r1.2]), none, none, none, none, none] [8, 9] [pl 8 (.int .u64 r1.1), pl 9 (.int .u64 r1.2)] hF hS Fol (by kernel_rfl) (by kernel_rfl) (by kernel_rfl) ?_ (fun a w hF hS => ?_)
    · exact obs_cons (ob_call Try.func243 (by kernel_rfl) rfl (fun _ _ hS => bits_Mul64_w hr1 hS )) <| obs_nil
    refine reg [] [] [4, 5] [pl 4 (.int .u64 r1.1), pl 5 (.int .u64 r1.2)] hF hS Fol (by kernel_rfl) (by kernel_rfl) (by kernel_rfl) ?_ (fun a w hF hS => ?_)
    · exact obs_nil
    refine wpIn_ret ?_
    have hm : some (r1.1, r1.2) = some r := hm
    obtain rfl := Option.some.inj hm
    exact retV (rs := [.tmp 4, .tmp 5]) (vs := [.int .u64 r1.1, .int .u64 r1.2]) hF rfl (rv_t (by kernel_rfl) <| rv_t (by kernel_rfl) <| rv_nil) rfl ⟨rfl, hS⟩
  · refine cond_f ?_
    refine wpIn_skip ?_
    refine then_n ?_
    exact ⟨hF.weak [0, 1] (by kernel_rfl), hS, hm⟩

noncomputable def slices_Repeat_J4  (r1 : (Int × Int)) (newslice1 : List Int) (n2 : Int) : Option (St (List Int × Int) (List Int)) :=
  asrt (0 ≤ n2 ∧ n2 ≤ (((Int.toNat (w64 r1.2)) : Nat) : Int) ∧ (((Int.toNat (w64 r1.2)) : Nat) : Int) ≤ (((Int.toNat (w64 r1.2)) : Nat) : Int)) <| asrt (0 ≤ (0 : Int) ∧ (0 : Int) ≤ n2 ∧ n2 ≤ (((Int.toNat (w64 r1.2)) : Nat) : Int)) <| some (.next ((putL newslice1 (Int.toNat n2) (List.take ((cut newslice1 n2 (((Int.toNat (w64 r1.2)) : Nat) : Int)).length) (cut newslice1 (0 : Int) n2))), (w64 (n2 + (minI (((cut newslice1 n2 (((Int.toNat (w64 r1.2)) : Nat) : Int)).length : Nat) : Int) (((cut newslice1 (0 : Int) n2).length : Nat) : Int))))))

noncomputable def slices_Repeat_J3  (newslice2 : List Int) : Option (List Int) :=
  some newslice2

noncomputable def slices_Repeat_K1  : (List Int) → Option (List Int) :=
  fun (x : (List Int)) => match x with | newslice2 => slices_Repeat_J3 newslice2

noncomputable def slices_Repeat_L1  (r1 : (Int × Int)) : (List Int × Int) → Option (St (List Int × Int) (List Int)) :=
  fun (x : (List Int × Int)) => match x with | (newslice1, n2) => if (decide (n2 < (((Int.toNat (w64 r1.2)) : Nat) : Int))) then ((slices_Repeat_J4 r1 newslice1 n2)) else (some (.done newslice1))

noncomputable def slices_Repeat_J2  (x1 : List Int) (r1 : (Int × Int)) : Option (List Int) :=
  asrt ((0 : Int) ≤ (w64 r1.2) ∧ (w64 r1.2) ≤ bigN) <| (loop (slices_Repeat_L1 r1) ((putL (List.replicate (Int.toNat (w64 r1.2)) (0 : Int)) 0 (List.take (Int.toNat (w64 r1.2)) x1)), (minI (((Int.toNat (w64 r1.2)) : Nat) : Int) (x1.length : Int)))).bind slices_Repeat_K1

noncomputable def slices_Repeat_J1  (x1 : List Int) (count1 : Int) : Option (List Int) :=
  (bits_Mul_m (IntKind.wrap .u64 (x1.length : Int)) (IntKind.wrap .u64 count1)).bind fun r1 => if ((decide ((0 : Int) < r1.1)) || (decide ((9223372036854775807 : Int) < r1.2))) then none else ((slices_Repeat_J2 x1 r1))

noncomputable def slices_Repeat_m  (x1 : List Int) (count1 : Int) : Option (List Int) :=
  if (decide (count1 < 0)) then none else ((slices_Repeat_J1 x1 count1))

set_option maxRecDepth 100000 in
set_option maxHeartbeats 4000000 in
theorem slices_Repeat_w {A1 : Option Addr} {c1 : Nat} {n1 : Nat} {x1 : List Int} {count1 : Int} {r : (List Int)} {w0 w : World} {B : Nat} {fs : List HP} (hm : slices_Repeat_m x1 count1 = some r) (hS : Sep w0 B w (fs)) (hr_x1 : RdF w0 B fs A1 (vI x1)) (_hc_x1 : x1.length ≤ c1) (_hn_x1 : n1 = x1.length) :
    Calls Try.prog 118 #[.slice A1 n1 c1, .int .i64 count1] w fun e w' => ∃ v, e = .returned v ∧ ∃ (A3 : Option Addr) (c3 : Nat), v = .slice A3 r.length c3 ∧ Sep w0 B w' (own 3 (.slice A3 r.length c3) (vI r) :: fs) := by
  obtain ⟨i3, hi3, hz3, hs3, hb3⟩ := info_parts Info3
  obtain rfl := _hn_x1
  unfold slices_Repeat_m at hm
  replace hm := start_b hm
  refine enter (l := [.slice A1 x1.length c1, .int .i64 count1]) (n := 48) Try.func118 rfl rfl (by simp) (fun a hF => ?_)
  refine reg [] [] [0, 1] [pl 0 (.slice A1 x1.length c1), pl 1 (.int .i64 count1)] hF hS Fol (by kernel_rfl) (by kernel_rfl) (by kernel_rfl) ?_ (fun a w hF hS => ?_)
  · exact obs_nil
  refine seq_cut (fun a w => Fr 48 [pl 0 (.slice A1 x1.length c1), pl 1 (.int .i64 count1)] a ∧ Sep w0 B w (fs) ∧ ((slices_Repeat_J1 x1 count1)).bind some = some r) ?_ ?_
  · rintro a w ⟨hF, hS, hm⟩
    unfold slices_Repeat_J1 at hm
    obtain ⟨r1, hr1, hm⟩ := call_b hm
    refine reg [⟨false, [], callFunc 187 #[.int .u64 (IntKind.wrap .u64 (x1.length : Int)), .int .u64 (IntKind.wrap .u64 count1)], .tuple #[.int .u64 r1.1, .int .u64 r1.2]⟩] [none, none, none, none, none, some (.tuple #[.int .u64 r1.1, .int .u64 r1.2]), none, none, none, none, none] [0, 5, 6] [pl 0 (.slice A1 x1.length c1), pl 5 (.int .u64 r1.1), pl 6 (.int .u64 r1.2)] hF hS Fol (by kernel_rfl) (by kernel_rfl) (by kernel_rfl) ?_ (fun a w hF hS => ?_)
    · exact obs_cons (ob_call Try.func187 (by kernel_rfl) rfl (fun _ _ hS => bits_Mul_w hr1 hS )) <| obs_nil
    refine seq_cut (fun a w => Fr 48 [pl 0 (.slice A1 x1.length c1), pl 6 (.int .u64 r1.2)] a ∧ Sep w0 B w (fs) ∧ ((slices_Repeat_J2 x1 r1)).bind some = some r) ?_ ?_
    · rintro a w ⟨hF, hS, hm⟩
      unfold slices_Repeat_J2 at hm
      refine seqR ?_
      obtain ⟨hp1, hm⟩ := asrt_b hm
      refine at_run 2 [] [] [0, 29] [pl 0 (.slice A1 x1.length c1), pl 29 (.int .i64 (w64 r1.2))] hF hS (by kernel_rfl) (by kernel_rfl) ?_ (fun a w hF hS => ?_)
      · exact obs_nil
      obtain ⟨A2, c2, w, hrun, hS⟩ := run_mk1 (P := Try.prog) (t := 27) (Value.int .i64) (0 : Int) hS .i64 .i64 Und27 hi3 hz3 hs3 (by omega) rfl hp1
      have hS : Sep w0 B w (own 3 (.slice A2 (Int.toNat (w64 r1.2)) c2) (vI (List.replicate (Int.toNat (w64 r1.2)) (0 : Int))) :: fs) := hS
      refine at_do (d := 30) hF (by kernel_rfl) (by kernel_rfl) hrun (fun a hF => ?_)
      refine at_run 1 [] [] [0, 7] [pl 0 (.slice A1 x1.length c1), pl 7 (.slice A2 (Int.toNat (w64 r1.2)) c2)] hF hS (by kernel_rfl) (by kernel_rfl) ?_ (fun a w hF hS => ?_)
      · exact obs_nil
      refine at_end [0, 7] [pl 0 (.slice A1 x1.length c1), pl 7 (.slice A2 (Int.toNat (w64 r1.2)) c2)] hF rfl (by kernel_rfl) (fun hF => ?_)
      refine then_n ?_
      refine seqR ?_
      refine at_run 2 [] [] [7, 31, 32] [pl 7 (.slice A2 (Int.toNat (w64 r1.2)) c2), pl 31 (.slice A2 (Int.toNat (w64 r1.2)) c2), pl 32 (.slice A1 x1.length c1)] hF hS (by kernel_rfl) (by kernel_rfl) ?_ (fun a w hF hS => ?_)
      · exact obs_nil
      obtain ⟨w, hrun, hS⟩ := run_copy0 (P := Try.prog) (t := 27) (t2 := 27) (ty := 3) (ys := x1) (A2 := A1) (n2 := x1.length) (c2 := c1) (hS.at_ 0 rfl) (hr_x1 _ (hS.dropN 1)) rfl Und27 hi3 hs3
      refine at_do (d := 33) hF (by kernel_rfl) (by kernel_rfl) hrun (fun a hF => ?_)
      have hS : Sep w0 B w (own 3 (.slice A2 (Int.toNat (w64 r1.2)) c2) (vI (putL (List.replicate (Int.toNat (w64 r1.2)) (0 : Int)) 0 (List.take (Int.toNat (w64 r1.2)) x1))) :: fs) := hS
      refine at_run 1 [] [] [7, 8] [pl 7 (.slice A2 (Int.toNat (w64 r1.2)) c2), pl 8 (.int .i64 (minI (((Int.toNat (w64 r1.2)) : Nat) : Int) (x1.length : Int)))] hF hS (by kernel_rfl) (by kernel_rfl) ?_ (fun a w hF hS => ?_)
      · exact obs_nil
      refine at_end [7, 8] [pl 7 (.slice A2 (Int.toNat (w64 r1.2)) c2), pl 8 (.int .i64 (minI (((Int.toNat (w64 r1.2)) : Nat) : Int) (x1.length : Int)))] hF rfl (by kernel_rfl) (fun hF => ?_)
      refine then_n ?_
      refine seq_cut (fun a w => ∃ (newslice2 : List Int), Fr 48 [pl 7 (.slice A2 (Int.toNat (w64 r1.2)) c2)] a ∧ Sep w0 B w (own 3 (.slice A2 (Int.toNat (w64 r1.2)) c2) (vI newslice2) :: fs) ∧ (slices_Repeat_J3 newslice2).bind some = some r) ?_ ?_
      · rintro a w ⟨newslice2, hF, hS, hm⟩
        unfold slices_Repeat_J3 at hm
        refine reg [] [] [4] [pl 4 (.slice A2 (Int.toNat (w64 r1.2)) c2)] hF hS Fol (by kernel_rfl) (by kernel_rfl) (by kernel_rfl) ?_ (fun a w hF hS => ?_)
        · exact obs_nil
        refine wpIn_ret ?_
        have hl1 := (hS.at_ 0 rfl).len1
        have hS := (hS.at_ 0 rfl).reN hl1
        have hS : Sep w0 B w (own 3 (.slice A2 newslice2.length c2) (vI newslice2) :: fs) := hS
        have hF := hF.cast (t := 4) (v := .slice A2 (Int.toNat (w64 r1.2)) c2) (v' := .slice A2 newslice2.length c2) rfl rfl (congrArg (fun k => Value.slice A2 k c2) hl1)
        have hm : some newslice2 = some r := hm
        obtain rfl := Option.some.inj hm
        exact retV (rs := [.tmp 4]) (vs := [.slice A2 newslice2.length c2]) hF rfl (rv_t (by kernel_rfl) <| rv_nil) rfl ⟨_, rfl, A2, c2, rfl, hS⟩
      · refine wpIn_block ?_
        refine wp_loop_model (S := (List Int × Int)) (R := (List Int)) (slices_Repeat_L1 r1) (fun x => (slices_Repeat_K1 x).bind some) r (fun (x : (List Int × Int)) a w => Fr 48 [pl 7 (.slice A2 (Int.toNat (w64 r1.2)) c2), pl 8 (.int .i64 x.2)] a ∧ Sep w0 B w (own 3 (.slice A2 (Int.toNat (w64 r1.2)) c2) (vI x.1) :: fs)) (assoc_b hm) ⟨hF.weak [7, 8] (by kernel_rfl), hS⟩ ?_
        clear hF hS hm
        rintro nn1 ⟨newslice1, n2⟩ a w ⟨hF, hS⟩ hm
        generalize hφ1 : stK (slices_Repeat_L1 r1) nn1 (fun x => (slices_Repeat_K1 x).bind some) = φ1 at hm
        unfold slices_Repeat_L1 at hm
        dsimp only at hF hS hm
        refine seq_cut (fun a w => Fr 48 [pl 7 (.slice A2 (Int.toNat (w64 r1.2)) c2), pl 8 (.int .i64 n2)] a ∧ Sep w0 B w (own 3 (.slice A2 (Int.toNat (w64 r1.2)) c2) (vI newslice1) :: fs) ∧ ((slices_Repeat_J4 r1 newslice1 n2)).bind φ1 = some r) ?_ ?_
        · rintro a w ⟨hF, hS, hm⟩
          unfold slices_Repeat_J4 at hm
          refine wpIn_block ?_
          obtain ⟨hp2, hm⟩ := asrt_b hm
          obtain ⟨hp3, hm⟩ := asrt_b hm
          have hb1 := cutb (n := (Int.toNat (w64 r1.2))) ((hS.at_ 0 rfl).len1) hp2
          have hb2 := cutb (n := (Int.toNat (w64 r1.2))) ((hS.at_ 0 rfl).len1) hp3
          refine regMix4 [0, 1, 2, 3, 4, 5, 6] [7, 8, 9] [⟨true, [], vS (Instr.sliceAt 27 (.slice A2 (Int.toNat (w64 r1.2)) c2) (some (.int .i64 n2)) none none), .slice (cutAddr A2 c2 n2) ((cut newslice1 n2 (((Int.toNat (w64 r1.2)) : Nat) : Int)).length) (c2 - Int.toNat n2)⟩, ⟨true, [], vS (Instr.sliceAt 27 (.slice A2 (Int.toNat (w64 r1.2)) c2) none (some (.int .i64 n2)) none), .slice (cutAddr A2 c2 (0 : Int)) ((cut newslice1 (0 : Int) n2).length) (c2 - Int.toNat (0 : Int))⟩] [none, none, none, some (.slice (cutAddr A2 c2 n2) ((cut newslice1 n2 (((Int.toNat (w64 r1.2)) : Nat) : Int)).length) (c2 - Int.toNat n2)), none, none, some (.slice (cutAddr A2 c2 (0 : Int)) ((cut newslice1 (0 : Int) n2).length) (c2 - Int.toNat (0 : Int)))] [7, 38, 41, 44] [pl 7 (.slice A2 (Int.toNat (w64 r1.2)) c2), pl 38 (.int .i64 n2), pl 41 (.slice (cutAddr A2 c2 n2) ((cut newslice1 n2 (((Int.toNat (w64 r1.2)) : Nat) : Int)).length) (c2 - Int.toNat n2)), pl 44 (.slice (cutAddr A2 c2 (0 : Int)) ((cut newslice1 (0 : Int) n2).length) (c2 - Int.toNat (0 : Int)))] hF hS Fol (by kernel_rfl) (by kernel_rfl) (by kernel_rfl) (by kernel_rfl) (by kernel_rfl) ?_ (fun a w hF hS => ?_)
          · exact obs_cons (ob_cutn (l := newslice1) (k := .i64) (k' := .i64) Und27 hi3 hs3 ((hS.at_ 0 rfl).len1) (.inl rfl) (.inr ⟨rfl, rfl⟩) (fun _ => hb1) ((hS.at_ 0 rfl).cap1)) <| obs_cons (ob_cutn (l := newslice1) (k := .i64) (k' := .i64) Und27 hi3 hs3 ((hS.at_ 0 rfl).len1) (.inr ⟨rfl, rfl⟩) (.inl rfl) (fun _ => hb2) ((hS.at_ 0 rfl).cap1)) <| obs_nil
          obtain ⟨w, hrun, hS⟩ := run_copyC (P := Try.prog) (t := 27) (t2 := 27) (ty := 3) (ys := (cut newslice1 (0 : Int) n2)) (A2 := (cutAddr A2 c2 (0 : Int))) (n2 := (cut newslice1 (0 : Int) n2).length) (c2 := (c2 - Int.toNat (0 : Int))) (dc := (c2 - Int.toNat n2)) (hS.at_ 0 rfl) (Rd.cutF (hS.at_ 0 rfl).rd hb2 ((hS.at_ 0 rfl).cap1)) rfl Und27 hi3 hs3 hb1
          refine at_do (d := 45) hF (by kernel_rfl) (by kernel_rfl) hrun (fun a hF => ?_)
          have hS : Sep w0 B w (own 3 (.slice A2 (Int.toNat (w64 r1.2)) c2) (vI (putL newslice1 (Int.toNat n2) (List.take ((cut newslice1 n2 (((Int.toNat (w64 r1.2)) : Nat) : Int)).length) (cut newslice1 (0 : Int) n2)))) :: fs) := hS
          refine at_run 2 [] [] [7, 8] [pl 7 (.slice A2 (Int.toNat (w64 r1.2)) c2), pl 8 (.int .i64 (w64 (n2 + (minI (((cut newslice1 n2 (((Int.toNat (w64 r1.2)) : Nat) : Int)).length : Nat) : Int) (((cut newslice1 (0 : Int) n2).length : Nat) : Int)))))] hF hS (by kernel_rfl) (by kernel_rfl) ?_ (fun a w hF hS => ?_)
          · exact obs_nil
          refine at_end [7, 8] [pl 7 (.slice A2 (Int.toNat (w64 r1.2)) c2), pl 8 (.int .i64 (w64 (n2 + (minI (((cut newslice1 n2 (((Int.toNat (w64 r1.2)) : Nat) : Int)).length : Nat) : Int) (((cut newslice1 (0 : Int) n2).length : Nat) : Int)))))] hF rfl (by kernel_rfl) (fun hF => ?_)
          refine np_n ?_
          refine block_n ?_
          refine then_n ?_
          rw [← hφ1] at hm
          exact ⟨((putL newslice1 (Int.toNat n2) (List.take ((cut newslice1 n2 (((Int.toNat (w64 r1.2)) : Nat) : Int)).length) (cut newslice1 (0 : Int) n2))), (w64 (n2 + (minI (((cut newslice1 n2 (((Int.toNat (w64 r1.2)) : Nat) : Int)).length : Nat) : Int) (((cut newslice1 (0 : Int) n2).length : Nat) : Int))))), ⟨hF.weak [7, 8] (by kernel_rfl), hS⟩, hm⟩
        · refine reg [] [] [7, 8, 37] [pl 7 (.slice A2 (Int.toNat (w64 r1.2)) c2), pl 8 (.int .i64 n2), pl 37 (.bool (decide (n2 < (((Int.toNat (w64 r1.2)) : Nat) : Int))))] hF hS Fol (by kernel_rfl) (by kernel_rfl) (by kernel_rfl) ?_ (fun a w hF hS => ?_)
          · exact obs_nil
          refine cond_ev (t := 37) (b := decide (n2 < (((Int.toNat (w64 r1.2)) : Nat) : Int))) hF (by kernel_rfl) (fun hb => ?_) (fun hb => ?_)
          · replace hm := if_t hm hb
            refine wpIn_skip ?_
            refine then_n ?_
            exact ⟨hF.weak [7, 8] (by kernel_rfl), hS, hm⟩
          · replace hm := if_f hm hb
            refine wpIn_exit ?_
            refine then_e (then_e (block_e (then_n ?_)))
            rw [← hφ1] at hm
            replace hm := done_b hm
            unfold slices_Repeat_K1 at hm
            try dsimp only at hm
            have hm : (slices_Repeat_J3 newslice1).bind some = some r := hm
            exact ⟨newslice1, hF.weak [7] (by kernel_rfl), hS, hm⟩
    · refine reg [] [] [0, 6, 26] [pl 0 (.slice A1 x1.length c1), pl 6 (.int .u64 r1.2), pl 26 (.bool ((decide ((0 : Int) < r1.1)) || (decide ((9223372036854775807 : Int) < r1.2))))] hF hS Fol (by kernel_rfl) (by kernel_rfl) (by kernel_rfl) ?_ (fun a w hF hS => ?_)
      · exact obs_nil
      refine cond_ev (t := 26) (b := (decide ((0 : Int) < r1.1)) || (decide ((9223372036854775807 : Int) < r1.2))) hF (by kernel_rfl) (fun hb => ?_) (fun hb => ?_)
      · replace hm := if_t hm hb
        simp at hm
      · replace hm := if_f hm hb
        refine wpIn_skip ?_
        refine then_n ?_
        exact ⟨hF.weak [0, 6] (by kernel_rfl), hS, hm⟩
  · refine reg [] [] [0, 1, 10] [pl 0 (.slice A1 x1.length c1), pl 1 (.int .i64 count1), pl 10 (.bool (decide (count1 < 0)))] hF hS Fol (by kernel_rfl) (by kernel_rfl) (by kernel_rfl) ?_ (fun a w hF hS => ?_)
    · exact obs_nil
    refine cond_ev (t := 10) (b := decide (count1 < 0)) hF (by kernel_rfl) (fun hb => ?_) (fun hb => ?_)
    · replace hm := if_t hm hb
      simp at hm
    · replace hm := if_f hm hb
      refine wpIn_skip ?_
      refine then_n ?_
      exact ⟨hF.weak [0, 1] (by kernel_rfl), hS, hm⟩

noncomputable def hex_Shortest_1_m  (at1 : Int) (p1_W1 : Int) (p1_H1 : Int) (p1_Cells1 : List Int) : Option Int :=
  asrt (0 ≤ at1 ∧ at1 < (p1_Cells1.length : Int)) <| some (w64 (1 - (minI (geti p1_Cells1 at1) 1)))

set_option maxRecDepth 100000 in
set_option maxHeartbeats 4000000 in
theorem hex_Shortest_1_w {at1 : Int} {g1 : Nat} {p1_W1 : Int} {p1_H1 : Int} {A1 : Option Addr} {c1 : Nat} {n1 : Nat} {p1_Cells1 : List Int} {r : Int} {w0 w : World} {B : Nat} {fs : List HP} (hm : hex_Shortest_1_m at1 p1_W1 p1_H1 p1_Cells1 = some r) (hS : Sep w0 B w (blk g1 64 #[.int .i64 p1_W1, .int .i64 p1_H1, .slice A1 n1 c1] :: fs)) (hr_p1_Cells1 : RdF w0 B fs A1 (vI p1_Cells1)) (_hc_p1_Cells1 : p1_Cells1.length ≤ c1) (_hn_p1_Cells1 : n1 = p1_Cells1.length) :
    Calls Try.prog 119 #[.int .i64 at1, .pointer (some ⟨g1, 0, none⟩)] w fun e w' => e = .returned (.int .i64 r) ∧ Sep w0 B w' (blk g1 64 #[.int .i64 p1_W1, .int .i64 p1_H1, .slice A1 n1 c1] :: fs) := by
  obtain ⟨i3, hi3, hz3, hs3, hb3⟩ := info_parts Info3
  obtain rfl := _hn_p1_Cells1
  unfold hex_Shortest_1_m at hm
  replace hm := start_b hm
  refine enter (l := [.int .i64 at1, .pointer (some ⟨g1, 0, none⟩)]) (n := 11) Try.func119 rfl rfl (by simp) (fun a hF => ?_)
  refine reg [] [] [0, 1] [pl 0 (.int .i64 at1), pl 1 (.pointer (some ⟨g1, 0, none⟩))] hF hS Fol (by kernel_rfl) (by kernel_rfl) (by kernel_rfl) ?_ (fun a w hF hS => ?_)
  · exact obs_nil
  obtain ⟨hp1, hm⟩ := asrt_b hm
  refine reg [⟨false, [], vS (Instr.loadAt 27 (.pointer (some ⟨g1, 2, none⟩))), .slice A1 p1_Cells1.length c1⟩, ⟨true, [], vS (Instr.indexAt 27 (.slice A1 p1_Cells1.length c1) (.int .i64 at1)), .pointer (some (sAddr A1 at1))⟩, ⟨false, [], vS (Instr.loadAt 3 (.pointer (some (sAddr A1 at1)))), .int .i64 (geti p1_Cells1 at1)⟩, ⟨true, [], vS (Builtin.min_ #[3, 3] 3 #[.int .i64 (geti p1_Cells1 at1), .int .i64 1]), .int .i64 (minI (geti p1_Cells1 at1) 1)⟩] [none, some (.slice A1 p1_Cells1.length c1), none, some (.pointer (some (sAddr A1 at1))), some (.int .i64 (geti p1_Cells1 at1)), some (.int .i64 (minI (geti p1_Cells1 at1) 1)), none, none] [3] [pl 3 (.int .i64 (w64 (1 - (minI (geti p1_Cells1 at1) 1))))] hF hS Fol (by kernel_rfl) (by kernel_rfl) (by kernel_rfl) ?_ (fun a w hF hS => ?_)
  · exact obs_cons (ob_load Agg27 (fun _ _ hS => (hS.at_ 0 rfl).cell rfl)) <| obs_cons (ob_ix1 (f := (Value.int .i64)) (m := p1_Cells1) Und27 hi3 hs3 (hr_p1_Cells1 _ (hS.dropN 1)) rfl (fun _ => hp1)) <| obs_cons (ob_get1 (n := p1_Cells1.length) (m := p1_Cells1) (Value.int .i64) (0 : Int) Agg3 (fun _ hS => ⟨_, (hr_p1_Cells1 _ (hS.dropN 1))⟩) (fun _ hS => rfl) (fun _ => hp1)) <| obs_cons (ob_min rfl) <| obs_nil
  refine wpIn_ret ?_
  have hm : some (w64 (1 - (minI (geti p1_Cells1 at1) 1))) = some r := hm
  obtain rfl := Option.some.inj hm
  exact retV (rs := [.tmp 3]) (vs := [.int .i64 (w64 (1 - (minI (geti p1_Cells1 at1) 1)))]) hF rfl (rv_t (by kernel_rfl) <| rv_nil) rfl ⟨rfl, hS⟩

noncomputable def hex_Shortest_2_J4  (z1 : List (List Int)) : Option (St (List (List Int)) (List (List Int))) :=
  asrt (((z1.length : Int) : Int) + 1 ≤ bigR) <| some (.next (z1 ++ [([] : List Int)]))

noncomputable def hex_Shortest_2_J1  (at1 : Int) (n1 : Int) (p41 : List Int) (p53 : List (List Int)) : Option (List Int × List (List Int)) :=
  some ((p41.set (Int.toNat at1) n1), p53)

noncomputable def hex_Shortest_2_J3  (at1 : Int) (n1 : Int) (p41 : List Int) (z2 : List (List Int)) : Option (List Int × List (List Int)) :=
  asrt (0 ≤ n1 ∧ n1 < (z2.length : Int)) <| asrt ((((geti2 z2 n1).length : Nat) : Int) + 1 ≤ bigN) <| asrt (0 ≤ n1 ∧ n1 < (z2.length : Int)) <| (hex_Shortest_2_J1 at1 n1 p41) (z2.set (Int.toNat n1) ((geti2 z2 n1) ++ ([at1] : List Int)))

noncomputable def hex_Shortest_2_K1  (at1 : Int) (n1 : Int) (p41 : List Int) : (List (List Int)) → Option (List Int × List (List Int)) :=
  fun (x : (List (List Int))) => match x with | z2 => (hex_Shortest_2_J3 at1 n1 p41) z2

noncomputable def hex_Shortest_2_L1  (n1 : Int) : (List (List Int)) → Option (St (List (List Int)) (List (List Int))) :=
  fun (x : (List (List Int))) => match x with | z1 => if (decide ((z1.length : Int) ≤ n1)) then ((hex_Shortest_2_J4 z1)) else (some (.done z1))

noncomputable def hex_Shortest_2_J2  (at1 : Int) (n1 : Int) (p41 : List Int) (p51 : List (List Int)) : Option (List Int × List (List Int)) :=
  asrt (0 ≤ at1 ∧ at1 < (p41.length : Int)) <| (loop (hex_Shortest_2_L1 n1) p51).bind (hex_Shortest_2_K1 at1 n1 p41)

noncomputable def hex_Shortest_2_m  (at1 : Int) (n1 : Int) (p2_W1 : Int) (p2_H1 : Int) (p2_Cells1 : List Int) (p31 : Int) (p41 : List Int) (p51 : List (List Int)) : Option (List Int × List (List Int)) :=
  asrt (0 ≤ at1 ∧ at1 < (p2_Cells1.length : Int)) <| asrt (((geti p2_Cells1 at1) == (w64 (3 - p31))) = false → 0 ≤ at1 ∧ at1 < (p41.length : Int)) <| asrt ((decide ((0 : Int) ≤ (geti p41 at1))) = true → ((geti p2_Cells1 at1) == (w64 (3 - p31))) = false → 0 ≤ at1 ∧ at1 < (p41.length : Int)) <| if (((geti p2_Cells1 at1) == (w64 (3 - p31))) || ((decide ((0 : Int) ≤ (geti p41 at1))) && (decide ((geti p41 at1) ≤ n1)))) then (some (p41, p51)) else ((hex_Shortest_2_J2 at1 n1 p41 p51))

set_option maxRecDepth 100000 in
set_option maxHeartbeats 4000000 in
theorem hex_Shortest_2_w {at1 : Int} {n1 : Int} {g1 : Nat} {p2_W1 : Int} {p2_H1 : Int} {A1 : Option Addr} {c1 : Nat} {n2 : Nat} {p2_Cells1 : List Int} {g2 : Nat} {p31 : Int} {g3 : Nat} {A2 : Option Addr} {c2 : Nat} {n3 : Nat} {p41 : List Int} {g4 : Nat} {A3 : Option Addr} {c3 : Nat} {n4 : Nat} {hd1 : List Hd} {p51 : List (List Int)} {r : (List Int × List (List Int))} {w0 w : World} {B : Nat} {fs : List HP} (hm : hex_Shortest_2_m at1 n1 p2_W1 p2_H1 p2_Cells1 p31 p41 p51 = some r) (hS : Sep w0 B w (blk g1 64 #[.int .i64 p2_W1, .int .i64 p2_H1, .slice A1 n2 c1] :: blk g2 3 #[.int .i64 p31] :: blk g3 27 #[.slice A2 n3 c2] :: own 3 (.slice A2 n3 c2) (vI p41) :: blk g4 22 #[.slice A3 n4 c3] :: rows 27 3 (.slice A3 n4 c3) hd1 p51 :: fs)) (hr_p2_Cells1 : RdF w0 B fs A1 (vI p2_Cells1)) (_hc_p2_Cells1 : p2_Cells1.length ≤ c1) (_hn_p2_Cells1 : n2 = p2_Cells1.length) :
    Calls Try.prog 120 #[.int .i64 at1, .int .i64 n1, .pointer (some ⟨g1, 0, none⟩), .pointer (some ⟨g2, 0, none⟩), .pointer (some ⟨g3, 0, none⟩), .pointer (some ⟨g4, 0, none⟩)] w fun e w' => ∃ v, e = .returned v ∧ ∃ (A4 : Option Addr) (c4 : Nat) (hd2 : List Hd), v = .tuple #[] ∧ Sep w0 B w' (blk g1 64 #[.int .i64 p2_W1, .int .i64 p2_H1, .slice A1 n2 c1] :: blk g2 3 #[.int .i64 p31] :: blk g3 27 #[.slice A2 n3 c2] :: own 3 (.slice A2 n3 c2) (vI r.1) :: blk g4 22 #[.slice A4 r.2.length c4] :: rows 27 3 (.slice A4 r.2.length c4) hd2 r.2 :: fs) := by
  obtain ⟨i3, hi3, hz3, hs3, hb3⟩ := info_parts Info3
  obtain ⟨i22, hi22, hz22, hs22, hb22⟩ := info_parts Info22
  obtain ⟨i27, hi27, hz27, hs27, hb27⟩ := info_parts Info27
  obtain rfl := (hS.at_ 3 rfl).len1
  obtain rfl := (hS.at_ 5 rfl).lenR
  obtain rfl := _hn_p2_Cells1
  unfold hex_Shortest_2_m at hm
  replace hm := start_b hm
  refine enter (l := [.int .i64 at1, .int .i64 n1, .pointer (some ⟨g1, 0, none⟩), .pointer (some ⟨g2, 0, none⟩), .pointer (some ⟨g3, 0, none⟩), .pointer (some ⟨g4, 0, none⟩)]) (n := 52) Try.func120 rfl rfl (by simp) (fun a hF => ?_)
  refine end_cut (fun a w => ∃ (p53 : List (List Int)) (A10 : Option Addr) (c10 : Nat) (hd5 : List Hd), Fr 52 [] a ∧ Sep w0 B w (blk g1 64 #[.int .i64 p2_W1, .int .i64 p2_H1, .slice A1 p2_Cells1.length c1] :: blk g2 3 #[.int .i64 p31] :: blk g3 27 #[.slice A2 p41.length c2] :: own 3 (.slice A2 p41.length c2) (vI (p41.set (Int.toNat at1) n1)) :: blk g4 22 #[.slice A10 p53.length c10] :: rows 27 3 (.slice A10 p53.length c10) hd5 p53 :: fs) ∧ ((hex_Shortest_2_J1 at1 n1 p41) p53).bind some = some r) ?_ ?_
  · rintro a w ⟨p53, A10, c10, hd5, hF, hS, hm⟩
    unfold hex_Shortest_2_J1 at hm
    have hm : some ((p41.set (Int.toNat at1) n1), p53) = some r := hm
    obtain rfl := Option.some.inj hm
    exact endV (rs := []) (vs := []) hF rfl (rv_nil) rfl ⟨_, rfl, A10, c10, hd5, rfl, hS⟩ rfl
  · refine seq_cut (fun a w => Fr 52 [pl 0 (.int .i64 at1), pl 1 (.int .i64 n1), pl 4 (.pointer (some ⟨g3, 0, none⟩)), pl 5 (.pointer (some ⟨g4, 0, none⟩))] a ∧ Sep w0 B w (blk g3 27 #[.slice A2 p41.length c2] :: own 3 (.slice A2 p41.length c2) (vI p41) :: blk g4 22 #[.slice A3 p51.length c3] :: rows 27 3 (.slice A3 p51.length c3) hd1 p51 :: blk g1 64 #[.int .i64 p2_W1, .int .i64 p2_H1, .slice A1 p2_Cells1.length c1] :: blk g2 3 #[.int .i64 p31] :: fs) ∧ ((hex_Shortest_2_J2 at1 n1 p41 p51)).bind some = some r) ?_ ?_
    · rintro a w ⟨hF, hS, hm⟩
      unfold hex_Shortest_2_J2 at hm
      refine seqR ?_
      obtain ⟨hp4, hm⟩ := asrt_b hm
      refine at_run 4 [⟨false, [], vS (Instr.loadAt 27 (.pointer (some ⟨g3, 0, none⟩))), .slice A2 p41.length c2⟩, ⟨true, [], vS (Instr.indexAt 27 (.slice A2 p41.length c2) (.int .i64 at1)), .pointer (some (sAddr A2 at1))⟩] [some (.slice A2 p41.length c2), none, none, some (.pointer (some (sAddr A2 at1)))] [0, 1, 5, 33, 34] [pl 0 (.int .i64 at1), pl 1 (.int .i64 n1), pl 5 (.pointer (some ⟨g4, 0, none⟩)), pl 33 (.int .i64 n1), pl 34 (.pointer (some (sAddr A2 at1)))] hF hS (by kernel_rfl) (by kernel_rfl) ?_ (fun a w hF hS => ?_)
      · exact obs_cons (ob_load Agg27 (fun _ _ hS => (hS.at_ 0 rfl).cell rfl)) <| obs_cons (ob_ix1 (f := (Value.int .i64)) (m := p41) Und27 hi3 hs3 (hS.at_ 1 rfl).rd rfl (fun _ => hp4)) <| obs_nil
      obtain ⟨w, hrun, hS⟩ := run_set1 (P := Try.prog) (t := 3) (x := n1) (Value.int .i64) (hS.at_ 1 rfl) hi3 hs3 rfl rfl hp4
      refine at_skip hF (by kernel_rfl) hrun ?_
      have hS : Sep w0 B w (blk g3 27 #[.slice A2 p41.length c2] :: own 3 (.slice A2 p41.length c2) (vI (p41.set (Int.toNat at1) n1)) :: blk g4 22 #[.slice A3 p51.length c3] :: rows 27 3 (.slice A3 p51.length c3) hd1 p51 :: blk g1 64 #[.int .i64 p2_W1, .int .i64 p2_H1, .slice A1 p2_Cells1.length c1] :: blk g2 3 #[.int .i64 p31] :: fs) := hS
      refine at_end [0, 1, 5] [pl 0 (.int .i64 at1), pl 1 (.int .i64 n1), pl 5 (.pointer (some ⟨g4, 0, none⟩))] hF rfl (by kernel_rfl) (fun hF => ?_)
      refine then_n ?_
      refine seq_cut (fun a w => ∃ (z2 : List (List Int)) (A6 : Option Addr) (c6 : Nat) (hd4 : List Hd), Fr 52 [pl 0 (.int .i64 at1), pl 1 (.int .i64 n1), pl 5 (.pointer (some ⟨g4, 0, none⟩))] a ∧ Sep w0 B w (blk g4 22 #[.slice A6 z2.length c6] :: rows 27 3 (.slice A6 z2.length c6) hd4 z2 :: blk g1 64 #[.int .i64 p2_W1, .int .i64 p2_H1, .slice A1 p2_Cells1.length c1] :: blk g2 3 #[.int .i64 p31] :: blk g3 27 #[.slice A2 p41.length c2] :: own 3 (.slice A2 p41.length c2) (vI (p41.set (Int.toNat at1) n1)) :: fs) ∧ ((hex_Shortest_2_J3 at1 n1 p41) z2).bind some = some r) ?_ ?_
      · rintro a w ⟨z2, A6, c6, hd4, hF, hS, hm⟩
        unfold hex_Shortest_2_J3 at hm
        obtain ⟨hp9, hm⟩ := asrt_b hm
        obtain ⟨hp10, hm⟩ := asrt_b hm
        obtain ⟨hp11, hm⟩ := asrt_b hm
        have hb3 := rowb (n := z2.length) (hS.at_ 1 rfl).lenR hp9
        refine regMix5 [1, 2, 3, 4, 5, 6] [8, 10] 5 #[false, true, true, true, true, true, true, false, false, false, false] [⟨false, [], vS (Instr.loadAt 22 (.pointer (some ⟨g4, 0, none⟩))), .slice A6 z2.length c6⟩, ⟨true, [], vS (Instr.indexAt 22 (.slice A6 z2.length c6) (.int .i64 n1)), .pointer (some (sAddr A6 n1))⟩, ⟨false, [], vS (Instr.loadAt 27 (.pointer (some (sAddr A6 n1)))), .slice (hdA hd4 n1) ((geti2 z2 n1).length) (hdC hd4 n1)⟩] [none, some (.slice A6 z2.length c6), none, some (.pointer (some (sAddr A6 n1))), some (.slice (hdA hd4 n1) ((geti2 z2 n1).length) (hdC hd4 n1)), none] [5, 43, 47, 48] [pl 5 (.pointer (some ⟨g4, 0, none⟩)), pl 43 (.int .i64 n1), pl 47 (.slice (hdA hd4 n1) ((geti2 z2 n1).length) (hdC hd4 n1)), pl 48 (.int .i64 at1)] hF hS Fol (by kernel_rfl) (by kernel_rfl) (by kernel_rfl) (by kernel_rfl) ?_ (fun a w hF hS => ?_)
        · exact obs_cons (ob_load Agg22 (fun _ _ hS => (hS.at_ 0 rfl).cell rfl)) <| obs_cons (ob_ixRn Und22 hi27 hs27 (hS.at_ 1 rfl).rdRows (hS.at_ 1 rfl).lenR (fun _ => hp9)) <| obs_cons (ob_getR Agg27 (fun _ hS => ⟨_, (hS.at_ 1 rfl).rdRows⟩) (fun _ => hb3)) <| obs_nil
        refine any_step [0, 7] (by kernel_rfl) rfl ?_
        refine (all_cons ?_ (all_cons ?_ all_nil))
        · refine any_op (listed' := #[true, true, true, true, true, true, true, false, false, false, false]) (by kernel_rfl) (by kernel_rfl) ?_
          refine at_runW 1 [⟨false, [], vS (Instr.loadAt 22 (.pointer (some ⟨g4, 0, none⟩))), .slice A6 z2.length c6⟩] [some (.slice A6 z2.length c6)] [42, 43, 47, 48] [pl 42 (.slice A6 z2.length c6), pl 43 (.int .i64 n1), pl 47 (.slice (hdA hd4 n1) ((geti2 z2 n1).length) (hdC hd4 n1)), pl 48 (.int .i64 at1)] hF hS (by kernel_rfl) (by kernel_rfl) ?_ (fun a hF => ?_)
          · exact obs_cons (ob_load Agg22 (fun _ _ hS => (hS.at_ 0 rfl).cell rfl)) <| obs_nil
          refine any_finI rfl (fun h => h) ?_
          refine any_step [7] (by kernel_rfl) rfl ?_
          refine (all_cons ?_ all_nil)
          · refine any_op (listed' := #[true, true, true, true, true, true, true, true, false, false, false]) (by kernel_rfl) (by kernel_rfl) ?_
            refine at_do (d := 49) (s := vS (Instr.buildSlice 27 1 #[(0, .int .i64 at1)])) (v := .slice (some ⟨w.heap.size, 0, none⟩) 1 1) (w' := w.alloc (.cells #[.int .i64 at1] 3)) hF (by kernel_rfl) (by kernel_rfl) (by kernel_rfl) (fun a hF => ?_)
            have hS : Sep w0 B (w.alloc (.cells #[.int .i64 at1] 3)) (own 3 (.slice (some (⟨w.heap.size, 0, none⟩ : Addr)) 1 1) (vI ([at1] : List Int)) :: (blk g4 22 #[.slice A6 z2.length c6] :: rows 27 3 (.slice A6 z2.length c6) hd4 z2 :: blk g1 64 #[.int .i64 p2_W1, .int .i64 p2_H1, .slice A1 p2_Cells1.length c1] :: blk g2 3 #[.int .i64 p31] :: blk g3 27 #[.slice A2 p41.length c2] :: own 3 (.slice A2 p41.length c2) (vI (p41.set (Int.toNat at1) n1)) :: fs)) := hS.lit 3 #[.int .i64 at1] 1 rfl (by omega)
            generalize (some (⟨w.heap.size, 0, none⟩ : Addr)) = g7 at hF hS
            generalize w.alloc (.cells #[.int .i64 at1] 3) = w at hS ⊢
            refine any_fin rfl (hS.pickN 7 [1, 2, 3, 4, 5, 6] (by decide)) ?_
            refine any_step [8] (by kernel_rfl) rfl ?_
            refine (all_cons ?_ all_nil)
            · refine any_op (listed' := #[true, true, true, true, true, true, true, true, true, false, false]) (by kernel_rfl) (by kernel_rfl) ?_
              have hS : Sep w0 B w (own 3 (.slice (hdA hd4 n1) ((geti2 z2 n1).length) (hdC hd4 n1)) (vI (geti2 z2 n1)) :: own 3 (.slice g7 1 1) (vI ([at1] : List Int)) :: blk g4 22 #[.slice A6 z2.length c6] :: rowsBut 27 3 (.slice A6 z2.length c6) hd4 z2 (Int.toNat n1) :: blk g1 64 #[.int .i64 p2_W1, .int .i64 p2_H1, .slice A1 p2_Cells1.length c1] :: blk g2 3 #[.int .i64 p31] :: blk g3 27 #[.slice A2 p41.length c2] :: own 3 (.slice A2 p41.length c2) (vI (p41.set (Int.toNat at1) n1)) :: fs) := (hS.at_ 2 rfl).takeRow hb3
              obtain ⟨A9, c9, w, hrun, hS⟩ := run_app1 (P := Try.prog) (t := 27) (m := (geti2 z2 n1)) (ys := ([at1] : List Int)) (A2 := g7) (m2 := 1) (c2 := 1) (Value.int .i64) (0 : Int) (hS.at_ 0 rfl) (hS.at_ 1 rfl).rd ((hS.at_ 1 rfl).len1) 27 Und27 hi3 hz3 hs3 (by omega) rfl (fun _ => rfl) hp10
              have hS : Sep w0 B w (own 3 (.slice A9 (((geti2 z2 n1) ++ ([at1] : List Int)).length) c9) (vI ((geti2 z2 n1) ++ ([at1] : List Int))) :: own 3 (.slice g7 1 1) (vI ([at1] : List Int)) :: blk g4 22 #[.slice A6 z2.length c6] :: rowsBut 27 3 (.slice A6 z2.length c6) hd4 z2 (Int.toNat n1) :: blk g1 64 #[.int .i64 p2_W1, .int .i64 p2_H1, .slice A1 p2_Cells1.length c1] :: blk g2 3 #[.int .i64 p31] :: blk g3 27 #[.slice A2 p41.length c2] :: own 3 (.slice A2 p41.length c2) (vI (p41.set (Int.toNat at1) n1)) :: fs) := hS
              refine at_do (d := 50) hF (by kernel_rfl) (by kernel_rfl) hrun (fun a hF => ?_)
              refine any_finE rfl (by decide) ?_
              refine any_step [9] (by kernel_rfl) rfl ?_
              refine (all_cons ?_ all_nil)
              · refine any_op (listed' := #[true, true, true, true, true, true, true, true, true, true, false]) (by kernel_rfl) (by kernel_rfl) ?_
                refine at_runW 1 [⟨true, [], vS (Instr.indexAt 22 (.slice A6 z2.length c6) (.int .i64 n1)), .pointer (some (sAddr A6 n1))⟩] [some (.pointer (some (sAddr A6 n1)))] [50, 51] [pl 50 (.slice A9 (((geti2 z2 n1) ++ ([at1] : List Int)).length) c9), pl 51 (.pointer (some (sAddr A6 n1)))] hF hS (by kernel_rfl) (by kernel_rfl) ?_ (fun a hF => ?_)
                · exact obs_cons (ob_ixHn Und22 hi27 hs27 (hS.at_ 3 rfl).butRd (hS.at_ 3 rfl).butLen (fun _ => hp11)) <| obs_nil
                refine any_finI rfl (fun h => h) ?_
                refine any_step [10] (by kernel_rfl) rfl ?_
                refine (all_cons ?_ all_nil)
                · refine any_op (listed' := #[true, true, true, true, true, true, true, true, true, true, true]) (by kernel_rfl) (by kernel_rfl) ?_
                  have hb4 := (rowb (hS.at_ 3 rfl).butLen hp11)
                  have hS := hS.pickN 8 [0, 1, 2, 3, 4, 5, 6, 7] (by decide)
                  have hS : Sep w0 B w (own 3 (.slice A9 (((geti2 z2 n1) ++ ([at1] : List Int)).length) c9) (vI ((geti2 z2 n1) ++ ([at1] : List Int))) :: own 3 (.slice g7 1 1) (vI ([at1] : List Int)) :: blk g4 22 #[.slice A6 z2.length c6] :: rowsBut 27 3 (.slice A6 z2.length c6) hd4 z2 (Int.toNat n1) :: blk g1 64 #[.int .i64 p2_W1, .int .i64 p2_H1, .slice A1 p2_Cells1.length c1] :: blk g2 3 #[.int .i64 p31] :: blk g3 27 #[.slice A2 p41.length c2] :: own 3 (.slice A2 p41.length c2) (vI (p41.set (Int.toNat at1) n1)) :: fs) := hS
                  obtain ⟨w, hrun, hS⟩ := run_storeRow (P := Try.prog) (t := 27) (hS.at2 2 rfl) hi27 hs27 hb4
                  refine at_skip hF (by kernel_rfl) hrun ?_
                  try simp only [List.length_set] at hS
                  have hS : Sep w0 B w (own 3 (.slice g7 1 1) (vI ([at1] : List Int)) :: blk g4 22 #[.slice A6 z2.length c6] :: rows 27 3 (.slice A6 z2.length c6) (hd4.set (Int.toNat n1) (A9, c9)) (z2.set (Int.toNat n1) ((geti2 z2 n1) ++ ([at1] : List Int))) :: blk g1 64 #[.int .i64 p2_W1, .int .i64 p2_H1, .slice A1 p2_Cells1.length c1] :: blk g2 3 #[.int .i64 p31] :: blk g3 27 #[.slice A2 p41.length c2] :: own 3 (.slice A2 p41.length c2) (vI (p41.set (Int.toNat at1) n1)) :: fs) := hS
                  refine any_finE rfl (by decide) ?_
                  refine any_end (by kernel_rfl) ?_
                  refine np_n ?_
                  refine then_n ?_
                  have hl1 := (hS.at_ 2 rfl).lenR
                  have hS := (hS.at_ 2 rfl).reNR hl1
                  have hS := (hS.at_ 1 rfl).reBlk (congrArg (fun k9 => (#[.slice A6 k9 c6] : Array Value)) hl1)
                  have hS : Sep w0 B w (own 3 (.slice g7 1 1) (vI ([at1] : List Int)) :: blk g4 22 #[.slice A6 ((z2.set (Int.toNat n1) ((geti2 z2 n1) ++ ([at1] : List Int))).length) c6] :: rows 27 3 (.slice A6 ((z2.set (Int.toNat n1) ((geti2 z2 n1) ++ ([at1] : List Int))).length) c6) (hd4.set (Int.toNat n1) (A9, c9)) (z2.set (Int.toNat n1) ((geti2 z2 n1) ++ ([at1] : List Int))) :: blk g1 64 #[.int .i64 p2_W1, .int .i64 p2_H1, .slice A1 p2_Cells1.length c1] :: blk g2 3 #[.int .i64 p31] :: blk g3 27 #[.slice A2 p41.length c2] :: own 3 (.slice A2 p41.length c2) (vI (p41.set (Int.toNat at1) n1)) :: fs) := hS
                  have hS := hS.pickN 7 [3, 4, 5, 6, 1, 2] (by decide)
                  exact ⟨(z2.set (Int.toNat n1) ((geti2 z2 n1) ++ ([at1] : List Int))), A6, c6, (hd4.set (Int.toNat n1) (A9, c9)), hF.weak [] (by kernel_rfl), hS, hm⟩
        · refine any_op (listed' := #[false, true, true, true, true, true, true, true, false, false, false]) (by kernel_rfl) (by kernel_rfl) ?_
          refine at_do (d := 49) (s := vS (Instr.buildSlice 27 1 #[(0, .int .i64 at1)])) (v := .slice (some ⟨w.heap.size, 0, none⟩) 1 1) (w' := w.alloc (.cells #[.int .i64 at1] 3)) hF (by kernel_rfl) (by kernel_rfl) (by kernel_rfl) (fun a hF => ?_)
          have hS : Sep w0 B (w.alloc (.cells #[.int .i64 at1] 3)) (own 3 (.slice (some (⟨w.heap.size, 0, none⟩ : Addr)) 1 1) (vI ([at1] : List Int)) :: (blk g4 22 #[.slice A6 z2.length c6] :: rows 27 3 (.slice A6 z2.length c6) hd4 z2 :: blk g1 64 #[.int .i64 p2_W1, .int .i64 p2_H1, .slice A1 p2_Cells1.length c1] :: blk g2 3 #[.int .i64 p31] :: blk g3 27 #[.slice A2 p41.length c2] :: own 3 (.slice A2 p41.length c2) (vI (p41.set (Int.toNat at1) n1)) :: fs)) := hS.lit 3 #[.int .i64 at1] 1 rfl (by omega)
          generalize (some (⟨w.heap.size, 0, none⟩ : Addr)) = g7 at hF hS
          generalize w.alloc (.cells #[.int .i64 at1] 3) = w at hS ⊢
          refine any_fin rfl (hS.pickN 7 [1, 2, 3, 4, 5, 6] (by decide)) ?_
          refine any_step [0, 8] (by kernel_rfl) rfl ?_
          refine (all_cons ?_ (all_cons ?_ all_nil))
          · refine any_op (listed' := #[true, true, true, true, true, true, true, true, false, false, false]) (by kernel_rfl) (by kernel_rfl) ?_
            refine at_runW 1 [⟨false, [], vS (Instr.loadAt 22 (.pointer (some ⟨g4, 0, none⟩))), .slice A6 z2.length c6⟩] [some (.slice A6 z2.length c6)] [42, 43, 47, 49] [pl 42 (.slice A6 z2.length c6), pl 43 (.int .i64 n1), pl 47 (.slice (hdA hd4 n1) ((geti2 z2 n1).length) (hdC hd4 n1)), pl 49 (.slice g7 1 1)] hF hS (by kernel_rfl) (by kernel_rfl) ?_ (fun a hF => ?_)
            · exact obs_cons (ob_load Agg22 (fun _ _ hS => (hS.at_ 1 rfl).cell rfl)) <| obs_nil
            refine any_finI rfl (fun h => h) ?_
            refine any_step [8] (by kernel_rfl) rfl ?_
            refine (all_cons ?_ all_nil)
            · refine any_op (listed' := #[true, true, true, true, true, true, true, true, true, false, false]) (by kernel_rfl) (by kernel_rfl) ?_
              have hS : Sep w0 B w (own 3 (.slice (hdA hd4 n1) ((geti2 z2 n1).length) (hdC hd4 n1)) (vI (geti2 z2 n1)) :: own 3 (.slice g7 1 1) (vI ([at1] : List Int)) :: blk g4 22 #[.slice A6 z2.length c6] :: rowsBut 27 3 (.slice A6 z2.length c6) hd4 z2 (Int.toNat n1) :: blk g1 64 #[.int .i64 p2_W1, .int .i64 p2_H1, .slice A1 p2_Cells1.length c1] :: blk g2 3 #[.int .i64 p31] :: blk g3 27 #[.slice A2 p41.length c2] :: own 3 (.slice A2 p41.length c2) (vI (p41.set (Int.toNat at1) n1)) :: fs) := (hS.at_ 2 rfl).takeRow hb3
              obtain ⟨A9, c9, w, hrun, hS⟩ := run_app1 (P := Try.prog) (t := 27) (m := (geti2 z2 n1)) (ys := ([at1] : List Int)) (A2 := g7) (m2 := 1) (c2 := 1) (Value.int .i64) (0 : Int) (hS.at_ 0 rfl) (hS.at_ 1 rfl).rd ((hS.at_ 1 rfl).len1) 27 Und27 hi3 hz3 hs3 (by omega) rfl (fun _ => rfl) hp10
              have hS : Sep w0 B w (own 3 (.slice A9 (((geti2 z2 n1) ++ ([at1] : List Int)).length) c9) (vI ((geti2 z2 n1) ++ ([at1] : List Int))) :: own 3 (.slice g7 1 1) (vI ([at1] : List Int)) :: blk g4 22 #[.slice A6 z2.length c6] :: rowsBut 27 3 (.slice A6 z2.length c6) hd4 z2 (Int.toNat n1) :: blk g1 64 #[.int .i64 p2_W1, .int .i64 p2_H1, .slice A1 p2_Cells1.length c1] :: blk g2 3 #[.int .i64 p31] :: blk g3 27 #[.slice A2 p41.length c2] :: own 3 (.slice A2 p41.length c2) (vI (p41.set (Int.toNat at1) n1)) :: fs) := hS
              refine at_do (d := 50) hF (by kernel_rfl) (by kernel_rfl) hrun (fun a hF => ?_)
              refine any_finE rfl (by decide) ?_
              refine any_step [9] (by kernel_rfl) rfl ?_
              refine (all_cons ?_ all_nil)
              · refine any_op (listed' := #[true, true, true, true, true, true, true, true, true, true, false]) (by kernel_rfl) (by kernel_rfl) ?_
                refine at_runW 1 [⟨true, [], vS (Instr.indexAt 22 (.slice A6 z2.length c6) (.int .i64 n1)), .pointer (some (sAddr A6 n1))⟩] [some (.pointer (some (sAddr A6 n1)))] [50, 51] [pl 50 (.slice A9 (((geti2 z2 n1) ++ ([at1] : List Int)).length) c9), pl 51 (.pointer (some (sAddr A6 n1)))] hF hS (by kernel_rfl) (by kernel_rfl) ?_ (fun a hF => ?_)
                · exact obs_cons (ob_ixHn Und22 hi27 hs27 (hS.at_ 3 rfl).butRd (hS.at_ 3 rfl).butLen (fun _ => hp11)) <| obs_nil
                refine any_finI rfl (fun h => h) ?_
                refine any_step [10] (by kernel_rfl) rfl ?_
                refine (all_cons ?_ all_nil)
                · refine any_op (listed' := #[true, true, true, true, true, true, true, true, true, true, true]) (by kernel_rfl) (by kernel_rfl) ?_
                  have hb4 := (rowb (hS.at_ 3 rfl).butLen hp11)
                  have hS := hS.pickN 8 [0, 1, 2, 3, 4, 5, 6, 7] (by decide)
                  have hS : Sep w0 B w (own 3 (.slice A9 (((geti2 z2 n1) ++ ([at1] : List Int)).length) c9) (vI ((geti2 z2 n1) ++ ([at1] : List Int))) :: own 3 (.slice g7 1 1) (vI ([at1] : List Int)) :: blk g4 22 #[.slice A6 z2.length c6] :: rowsBut 27 3 (.slice A6 z2.length c6) hd4 z2 (Int.toNat n1) :: blk g1 64 #[.int .i64 p2_W1, .int .i64 p2_H1, .slice A1 p2_Cells1.length c1] :: blk g2 3 #[.int .i64 p31] :: blk g3 27 #[.slice A2 p41.length c2] :: own 3 (.slice A2 p41.length c2) (vI (p41.set (Int.toNat at1) n1)) :: fs) := hS
                  obtain ⟨w, hrun, hS⟩ := run_storeRow (P := Try.prog) (t := 27) (hS.at2 2 rfl) hi27 hs27 hb4
                  refine at_skip hF (by kernel_rfl) hrun ?_
                  try simp only [List.length_set] at hS
                  have hS : Sep w0 B w (own 3 (.slice g7 1 1) (vI ([at1] : List Int)) :: blk g4 22 #[.slice A6 z2.length c6] :: rows 27 3 (.slice A6 z2.length c6) (hd4.set (Int.toNat n1) (A9, c9)) (z2.set (Int.toNat n1) ((geti2 z2 n1) ++ ([at1] : List Int))) :: blk g1 64 #[.int .i64 p2_W1, .int .i64 p2_H1, .slice A1 p2_Cells1.length c1] :: blk g2 3 #[.int .i64 p31] :: blk g3 27 #[.slice A2 p41.length c2] :: own 3 (.slice A2 p41.length c2) (vI (p41.set (Int.toNat at1) n1)) :: fs) := hS
                  refine any_finE rfl (by decide) ?_
                  refine any_end (by kernel_rfl) ?_
                  refine np_n ?_
                  refine then_n ?_
                  have hl2 := (hS.at_ 2 rfl).lenR
                  have hS := (hS.at_ 2 rfl).reNR hl2
                  have hS := (hS.at_ 1 rfl).reBlk (congrArg (fun k9 => (#[.slice A6 k9 c6] : Array Value)) hl2)
                  have hS : Sep w0 B w (own 3 (.slice g7 1 1) (vI ([at1] : List Int)) :: blk g4 22 #[.slice A6 ((z2.set (Int.toNat n1) ((geti2 z2 n1) ++ ([at1] : List Int))).length) c6] :: rows 27 3 (.slice A6 ((z2.set (Int.toNat n1) ((geti2 z2 n1) ++ ([at1] : List Int))).length) c6) (hd4.set (Int.toNat n1) (A9, c9)) (z2.set (Int.toNat n1) ((geti2 z2 n1) ++ ([at1] : List Int))) :: blk g1 64 #[.int .i64 p2_W1, .int .i64 p2_H1, .slice A1 p2_Cells1.length c1] :: blk g2 3 #[.int .i64 p31] :: blk g3 27 #[.slice A2 p41.length c2] :: own 3 (.slice A2 p41.length c2) (vI (p41.set (Int.toNat at1) n1)) :: fs) := hS
                  have hS := hS.pickN 7 [3, 4, 5, 6, 1, 2] (by decide)
                  exact ⟨(z2.set (Int.toNat n1) ((geti2 z2 n1) ++ ([at1] : List Int))), A6, c6, (hd4.set (Int.toNat n1) (A9, c9)), hF.weak [] (by kernel_rfl), hS, hm⟩
          · refine any_op (listed' := #[false, true, true, true, true, true, true, true, true, false, false]) (by kernel_rfl) (by kernel_rfl) ?_
            have hS : Sep w0 B w (own 3 (.slice (hdA hd4 n1) ((geti2 z2 n1).length) (hdC hd4 n1)) (vI (geti2 z2 n1)) :: own 3 (.slice g7 1 1) (vI ([at1] : List Int)) :: blk g4 22 #[.slice A6 z2.length c6] :: rowsBut 27 3 (.slice A6 z2.length c6) hd4 z2 (Int.toNat n1) :: blk g1 64 #[.int .i64 p2_W1, .int .i64 p2_H1, .slice A1 p2_Cells1.length c1] :: blk g2 3 #[.int .i64 p31] :: blk g3 27 #[.slice A2 p41.length c2] :: own 3 (.slice A2 p41.length c2) (vI (p41.set (Int.toNat at1) n1)) :: fs) := (hS.at_ 2 rfl).takeRow hb3
            obtain ⟨A9, c9, w, hrun, hS⟩ := run_app1 (P := Try.prog) (t := 27) (m := (geti2 z2 n1)) (ys := ([at1] : List Int)) (A2 := g7) (m2 := 1) (c2 := 1) (Value.int .i64) (0 : Int) (hS.at_ 0 rfl) (hS.at_ 1 rfl).rd ((hS.at_ 1 rfl).len1) 27 Und27 hi3 hz3 hs3 (by omega) rfl (fun _ => rfl) hp10
            have hS : Sep w0 B w (own 3 (.slice A9 (((geti2 z2 n1) ++ ([at1] : List Int)).length) c9) (vI ((geti2 z2 n1) ++ ([at1] : List Int))) :: own 3 (.slice g7 1 1) (vI ([at1] : List Int)) :: blk g4 22 #[.slice A6 z2.length c6] :: rowsBut 27 3 (.slice A6 z2.length c6) hd4 z2 (Int.toNat n1) :: blk g1 64 #[.int .i64 p2_W1, .int .i64 p2_H1, .slice A1 p2_Cells1.length c1] :: blk g2 3 #[.int .i64 p31] :: blk g3 27 #[.slice A2 p41.length c2] :: own 3 (.slice A2 p41.length c2) (vI (p41.set (Int.toNat at1) n1)) :: fs) := hS
            refine at_do (d := 50) hF (by kernel_rfl) (by kernel_rfl) hrun (fun a hF => ?_)
            refine any_finE rfl (by decide) ?_
            refine any_step [0] (by kernel_rfl) rfl ?_
            refine (all_cons ?_ all_nil)
            · refine any_op (listed' := #[true, true, true, true, true, true, true, true, true, false, false]) (by kernel_rfl) (by kernel_rfl) ?_
              refine at_runW 1 [⟨false, [], vS (Instr.loadAt 22 (.pointer (some ⟨g4, 0, none⟩))), .slice A6 z2.length c6⟩] [some (.slice A6 z2.length c6)] [42, 43, 50] [pl 42 (.slice A6 z2.length c6), pl 43 (.int .i64 n1), pl 50 (.slice A9 (((geti2 z2 n1) ++ ([at1] : List Int)).length) c9)] hF hS (by kernel_rfl) (by kernel_rfl) ?_ (fun a hF => ?_)
              · exact obs_cons (ob_load Agg22 (fun _ _ hS => (hS.at_ 2 rfl).cell rfl)) <| obs_nil
              refine any_finI rfl (fun h => h) ?_
              refine any_step [9] (by kernel_rfl) rfl ?_
              refine (all_cons ?_ all_nil)
              · refine any_op (listed' := #[true, true, true, true, true, true, true, true, true, true, false]) (by kernel_rfl) (by kernel_rfl) ?_
                refine at_runW 1 [⟨true, [], vS (Instr.indexAt 22 (.slice A6 z2.length c6) (.int .i64 n1)), .pointer (some (sAddr A6 n1))⟩] [some (.pointer (some (sAddr A6 n1)))] [50, 51] [pl 50 (.slice A9 (((geti2 z2 n1) ++ ([at1] : List Int)).length) c9), pl 51 (.pointer (some (sAddr A6 n1)))] hF hS (by kernel_rfl) (by kernel_rfl) ?_ (fun a hF => ?_)
                · exact obs_cons (ob_ixHn Und22 hi27 hs27 (hS.at_ 3 rfl).butRd (hS.at_ 3 rfl).butLen (fun _ => hp11)) <| obs_nil
                refine any_finI rfl (fun h => h) ?_
                refine any_step [10] (by kernel_rfl) rfl ?_
                refine (all_cons ?_ all_nil)
                · refine any_op (listed' := #[true, true, true, true, true, true, true, true, true, true, true]) (by kernel_rfl) (by kernel_rfl) ?_
                  have hb4 := (rowb (hS.at_ 3 rfl).butLen hp11)
                  have hS := hS.pickN 8 [0, 1, 2, 3, 4, 5, 6, 7] (by decide)
                  have hS : Sep w0 B w (own 3 (.slice A9 (((geti2 z2 n1) ++ ([at1] : List Int)).length) c9) (vI ((geti2 z2 n1) ++ ([at1] : List Int))) :: own 3 (.slice g7 1 1) (vI ([at1] : List Int)) :: blk g4 22 #[.slice A6 z2.length c6] :: rowsBut 27 3 (.slice A6 z2.length c6) hd4 z2 (Int.toNat n1) :: blk g1 64 #[.int .i64 p2_W1, .int .i64 p2_H1, .slice A1 p2_Cells1.length c1] :: blk g2 3 #[.int .i64 p31] :: blk g3 27 #[.slice A2 p41.length c2] :: own 3 (.slice A2 p41.length c2) (vI (p41.set (Int.toNat at1) n1)) :: fs) := hS
                  obtain ⟨w, hrun, hS⟩ := run_storeRow (P := Try.prog) (t := 27) (hS.at2 2 rfl) hi27 hs27 hb4
                  refine at_skip hF (by kernel_rfl) hrun ?_
                  try simp only [List.length_set] at hS
                  have hS : Sep w0 B w (own 3 (.slice g7 1 1) (vI ([at1] : List Int)) :: blk g4 22 #[.slice A6 z2.length c6] :: rows 27 3 (.slice A6 z2.length c6) (hd4.set (Int.toNat n1) (A9, c9)) (z2.set (Int.toNat n1) ((geti2 z2 n1) ++ ([at1] : List Int))) :: blk g1 64 #[.int .i64 p2_W1, .int .i64 p2_H1, .slice A1 p2_Cells1.length c1] :: blk g2 3 #[.int .i64 p31] :: blk g3 27 #[.slice A2 p41.length c2] :: own 3 (.slice A2 p41.length c2) (vI (p41.set (Int.toNat at1) n1)) :: fs) := hS
                  refine any_finE rfl (by decide) ?_
                  refine any_end (by kernel_rfl) ?_
                  refine np_n ?_
                  refine then_n ?_
                  have hl3 := (hS.at_ 2 rfl).lenR
                  have hS := (hS.at_ 2 rfl).reNR hl3
                  have hS := (hS.at_ 1 rfl).reBlk (congrArg (fun k9 => (#[.slice A6 k9 c6] : Array Value)) hl3)
                  have hS : Sep w0 B w (own 3 (.slice g7 1 1) (vI ([at1] : List Int)) :: blk g4 22 #[.slice A6 ((z2.set (Int.toNat n1) ((geti2 z2 n1) ++ ([at1] : List Int))).length) c6] :: rows 27 3 (.slice A6 ((z2.set (Int.toNat n1) ((geti2 z2 n1) ++ ([at1] : List Int))).length) c6) (hd4.set (Int.toNat n1) (A9, c9)) (z2.set (Int.toNat n1) ((geti2 z2 n1) ++ ([at1] : List Int))) :: blk g1 64 #[.int .i64 p2_W1, .int .i64 p2_H1, .slice A1 p2_Cells1.length c1] :: blk g2 3 #[.int .i64 p31] :: blk g3 27 #[.slice A2 p41.length c2] :: own 3 (.slice A2 p41.length c2) (vI (p41.set (Int.toNat at1) n1)) :: fs) := hS
                  have hS := hS.pickN 7 [3, 4, 5, 6, 1, 2] (by decide)
                  exact ⟨(z2.set (Int.toNat n1) ((geti2 z2 n1) ++ ([at1] : List Int))), A6, c6, (hd4.set (Int.toNat n1) (A9, c9)), hF.weak [] (by kernel_rfl), hS, hm⟩
      · refine wpIn_block ?_
        have hS := hS.pickN 6 [2, 3, 4, 5, 0, 1] (by decide)
        refine wp_loop_model (S := (List (List Int))) (R := (List (List Int))) (hex_Shortest_2_L1 n1) (fun x => ((hex_Shortest_2_K1 at1 n1 p41) x).bind some) r (fun (x : (List (List Int))) a w => ∃ (A5 : Option Addr) (c5 : Nat) (hd3 : List Hd), Fr 52 [pl 0 (.int .i64 at1), pl 1 (.int .i64 n1), pl 5 (.pointer (some ⟨g4, 0, none⟩))] a ∧ Sep w0 B w (blk g4 22 #[.slice A5 x.length c5] :: rows 27 3 (.slice A5 x.length c5) hd3 x :: blk g1 64 #[.int .i64 p2_W1, .int .i64 p2_H1, .slice A1 p2_Cells1.length c1] :: blk g2 3 #[.int .i64 p31] :: blk g3 27 #[.slice A2 p41.length c2] :: own 3 (.slice A2 p41.length c2) (vI (p41.set (Int.toNat at1) n1)) :: fs)) (assoc_b hm) ⟨A3, c3, hd1, hF.weak [0, 1, 5] (by kernel_rfl), hS⟩ ?_
        clear hF hS hm
        rintro nn1 z1 a w ⟨A5, c5, hd3, hF, hS⟩ hm
        generalize hφ1 : stK (hex_Shortest_2_L1 n1) nn1 (fun x => ((hex_Shortest_2_K1 at1 n1 p41) x).bind some) = φ1 at hm
        unfold hex_Shortest_2_L1 at hm
        dsimp only at hm
        refine seq_cut (fun a w => Fr 52 [pl 0 (.int .i64 at1), pl 1 (.int .i64 n1), pl 5 (.pointer (some ⟨g4, 0, none⟩))] a ∧ Sep w0 B w (blk g4 22 #[.slice A5 z1.length c5] :: rows 27 3 (.slice A5 z1.length c5) hd3 z1 :: blk g1 64 #[.int .i64 p2_W1, .int .i64 p2_H1, .slice A1 p2_Cells1.length c1] :: blk g2 3 #[.int .i64 p31] :: blk g3 27 #[.slice A2 p41.length c2] :: own 3 (.slice A2 p41.length c2) (vI (p41.set (Int.toNat at1) n1)) :: fs) ∧ ((hex_Shortest_2_J4 z1)).bind φ1 = some r) ?_ ?_
        · rintro a w ⟨hF, hS, hm⟩
          unfold hex_Shortest_2_J4 at hm
          refine wpIn_block ?_
          refine oneR ?_
          obtain ⟨hp5, hm⟩ := asrt_b hm
          refine at_run 1 [⟨false, [], vS (Instr.loadAt 22 (.pointer (some ⟨g4, 0, none⟩))), .slice A5 z1.length c5⟩] [some (.slice A5 z1.length c5)] [0, 1, 5, 39] [pl 0 (.int .i64 at1), pl 1 (.int .i64 n1), pl 5 (.pointer (some ⟨g4, 0, none⟩)), pl 39 (.slice A5 z1.length c5)] hF hS (by kernel_rfl) (by kernel_rfl) ?_ (fun a w hF hS => ?_)
          · exact obs_cons (ob_load Agg22 (fun _ _ hS => (hS.at_ 0 rfl).cell rfl)) <| obs_nil
          refine at_do (d := 40) (s := vS (Instr.buildSlice 22 1 #[(0, .slice none 0 0)])) (v := .slice (some ⟨w.heap.size, 0, none⟩) 1 1) (w' := w.alloc (.cells #[.slice none 0 0] 27)) hF (by kernel_rfl) (by kernel_rfl) (by kernel_rfl) (fun a hF => ?_)
          have hS : Sep w0 B (w.alloc (.cells #[.slice none 0 0] 27)) (own 27 (.slice (some (⟨w.heap.size, 0, none⟩ : Addr)) 1 1) [.slice none 0 0] :: (blk g4 22 #[.slice A5 z1.length c5] :: rows 27 3 (.slice A5 z1.length c5) hd3 z1 :: blk g1 64 #[.int .i64 p2_W1, .int .i64 p2_H1, .slice A1 p2_Cells1.length c1] :: blk g2 3 #[.int .i64 p31] :: blk g3 27 #[.slice A2 p41.length c2] :: own 3 (.slice A2 p41.length c2) (vI (p41.set (Int.toNat at1) n1)) :: fs)) := hS.lit 27 #[.slice none 0 0] 1 rfl (by omega)
          generalize (some (⟨w.heap.size, 0, none⟩ : Addr)) = g5 at hF hS
          generalize w.alloc (.cells #[.slice none 0 0] 27) = w at hS ⊢
          have hS : Sep w0 B w (own 3 (.slice none (([] : List Int).length) 0) (vI ([] : List Int)) :: own 27 (.slice g5 1 1) [.slice none 0 0] :: blk g4 22 #[.slice A5 z1.length c5] :: rows 27 3 (.slice A5 z1.length c5) hd3 z1 :: blk g1 64 #[.int .i64 p2_W1, .int .i64 p2_H1, .slice A1 p2_Cells1.length c1] :: blk g2 3 #[.int .i64 p31] :: blk g3 27 #[.slice A2 p41.length c2] :: own 3 (.slice A2 p41.length c2) (vI (p41.set (Int.toNat at1) n1)) :: fs) := hS.nil 3
          have hS : Sep w0 B w (own 3 (.slice none (([] : List Int).length) 0) (vI ([] : List Int)) :: own 27 (.slice g5 1 1) [.slice none 0 0] :: blk g4 22 #[.slice A5 z1.length c5] :: rows 27 3 (.slice A5 z1.length c5) hd3 z1 :: blk g1 64 #[.int .i64 p2_W1, .int .i64 p2_H1, .slice A1 p2_Cells1.length c1] :: blk g2 3 #[.int .i64 p31] :: blk g3 27 #[.slice A2 p41.length c2] :: own 3 (.slice A2 p41.length c2) (vI (p41.set (Int.toNat at1) n1)) :: fs) := hS
          obtain ⟨A7, c7, w, hrun, hS⟩ := run_appRow (P := Try.prog) (t := 22) (A2 := g5) (c2 := 1) (hS.at2 2 rfl) (hS.at_ 1 rfl).rd 22 Und22 hi27 hz27 hs27 hb27 hp5
          have hS : Sep w0 B w (own 27 (.slice g5 1 1) [.slice none 0 0] :: blk g4 22 #[.slice A5 z1.length c5] :: rows 27 3 (.slice A7 ((z1 ++ [([] : List Int)]).length) c7) (hd3 ++ [((none : Option Addr), 0)]) (z1 ++ [([] : List Int)]) :: blk g1 64 #[.int .i64 p2_W1, .int .i64 p2_H1, .slice A1 p2_Cells1.length c1] :: blk g2 3 #[.int .i64 p31] :: blk g3 27 #[.slice A2 p41.length c2] :: own 3 (.slice A2 p41.length c2) (vI (p41.set (Int.toNat at1) n1)) :: fs) := hS
          refine at_do (d := 41) hF (by kernel_rfl) (by kernel_rfl) hrun (fun a hF => ?_)
          obtain ⟨w, hrun, hS⟩ := run_put (P := Try.prog) (t := 22) (u := .slice A7 ((z1 ++ [([] : List Int)]).length) c7) (i := 0) (hS.at_ 1 rfl) hi22 hs22 rfl (Nat.lt_of_lt_of_eq (Nat.lt_of_succ_le (Nat.le_of_ble_eq_true (by kernel_rfl))) rfl)
          refine at_skip hF (by kernel_rfl) hrun ?_
          have hS : Sep w0 B w (own 27 (.slice g5 1 1) [.slice none 0 0] :: blk g4 22 #[.slice A7 ((z1 ++ [([] : List Int)]).length) c7] :: rows 27 3 (.slice A7 ((z1 ++ [([] : List Int)]).length) c7) (hd3 ++ [((none : Option Addr), 0)]) (z1 ++ [([] : List Int)]) :: blk g1 64 #[.int .i64 p2_W1, .int .i64 p2_H1, .slice A1 p2_Cells1.length c1] :: blk g2 3 #[.int .i64 p31] :: blk g3 27 #[.slice A2 p41.length c2] :: own 3 (.slice A2 p41.length c2) (vI (p41.set (Int.toNat at1) n1)) :: fs) := hS
          refine at_end [0, 1, 5] [pl 0 (.int .i64 at1), pl 1 (.int .i64 n1), pl 5 (.pointer (some ⟨g4, 0, none⟩))] hF rfl (by kernel_rfl) (fun hF => ?_)
          refine block_n ?_
          refine then_n ?_
          have hS := hS.pickN 7 [1, 2, 3, 4, 5, 6] (by decide)
          rw [← hφ1] at hm
          exact ⟨(z1 ++ [([] : List Int)]), ⟨A7, c7, (hd3 ++ [((none : Option Addr), 0)]), hF.weak [0, 1, 5] (by kernel_rfl), hS⟩, hm⟩
        · refine reg [⟨false, [], vS (Instr.loadAt 22 (.pointer (some ⟨g4, 0, none⟩))), .slice A5 z1.length c5⟩] [some (.slice A5 z1.length c5), none, none, none] [0, 1, 5, 38] [pl 0 (.int .i64 at1), pl 1 (.int .i64 n1), pl 5 (.pointer (some ⟨g4, 0, none⟩)), pl 38 (.bool (decide ((z1.length : Int) ≤ n1)))] hF hS Fol (by kernel_rfl) (by kernel_rfl) (by kernel_rfl) ?_ (fun a w hF hS => ?_)
          · exact obs_cons (ob_load Agg22 (fun _ _ hS => (hS.at_ 0 rfl).cell rfl)) <| obs_nil
          refine cond_ev (t := 38) (b := decide ((z1.length : Int) ≤ n1)) hF (by kernel_rfl) (fun hb => ?_) (fun hb => ?_)
          · replace hm := if_t hm hb
            refine wpIn_skip ?_
            refine then_n ?_
            exact ⟨hF.weak [0, 1, 5] (by kernel_rfl), hS, hm⟩
          · replace hm := if_f hm hb
            refine wpIn_exit ?_
            refine then_e (then_e (block_e (then_n ?_)))
            rw [← hφ1] at hm
            replace hm := done_b hm
            unfold hex_Shortest_2_K1 at hm
            try dsimp only at hm
            have hm : ((hex_Shortest_2_J3 at1 n1 p41) z1).bind some = some r := hm
            exact ⟨z1, A5, c5, hd3, hF.weak [0, 1, 5] (by kernel_rfl), hS, hm⟩
    · obtain ⟨hp1, hm⟩ := asrt_b hm
      obtain ⟨hp2, hm⟩ := asrt_b hm
      obtain ⟨hp3, hm⟩ := asrt_b hm
      refine reg [⟨false, [], vS (Instr.loadAt 27 (.pointer (some ⟨g1, 2, none⟩))), .slice A1 p2_Cells1.length c1⟩, ⟨true, [], vS (Instr.indexAt 27 (.slice A1 p2_Cells1.length c1) (.int .i64 at1)), .pointer (some (sAddr A1 at1))⟩, ⟨false, [], vS (Instr.loadAt 3 (.pointer (some (sAddr A1 at1)))), .int .i64 (geti p2_Cells1 at1)⟩, ⟨false, [], vS (Instr.loadAt 3 (.pointer (some ⟨g2, 0, none⟩))), .int .i64 p31⟩, ⟨false, [(((geti p2_Cells1 at1) == (w64 (3 - p31))), false)], vS (Instr.loadAt 27 (.pointer (some ⟨g3, 0, none⟩))), .slice A2 p41.length c2⟩, ⟨true, [(((geti p2_Cells1 at1) == (w64 (3 - p31))), false)], vS (Instr.indexAt 27 (.slice A2 p41.length c2) (.int .i64 at1)), .pointer (some (sAddr A2 at1))⟩, ⟨false, [(((geti p2_Cells1 at1) == (w64 (3 - p31))), false)], vS (Instr.loadAt 3 (.pointer (some (sAddr A2 at1)))), .int .i64 (geti p41 at1)⟩, ⟨false, [(decide ((0 : Int) ≤ (geti p41 at1)), true), (((geti p2_Cells1 at1) == (w64 (3 - p31))), false)], vS (Instr.loadAt 27 (.pointer (some ⟨g3, 0, none⟩))), .slice A2 p41.length c2⟩, ⟨true, [(decide ((0 : Int) ≤ (geti p41 at1)), true), (((geti p2_Cells1 at1) == (w64 (3 - p31))), false)], vS (Instr.indexAt 27 (.slice A2 p41.length c2) (.int .i64 at1)), .pointer (some (sAddr A2 at1))⟩, ⟨false, [(decide ((0 : Int) ≤ (geti p41 at1)), true), (((geti p2_Cells1 at1) == (w64 (3 - p31))), false)], vS (Instr.loadAt 3 (.pointer (some (sAddr A2 at1)))), .int .i64 (geti p41 at1)⟩] [none, some (.slice A1 p2_Cells1.length c1), none, some (.pointer (some (sAddr A1 at1))), some (.int .i64 (geti p2_Cells1 at1)), some (.int .i64 p31), none, none, none, some (.slice A2 p41.length c2), none, some (.pointer (some (sAddr A2 at1))), some (.int .i64 (geti p41 at1)), none, none, some (.slice A2 p41.length c2), none, some (.pointer (some (sAddr A2 at1))), some (.int .i64 (geti p41 at1)), none, none, none, none] [0, 1, 4, 5, 30] [pl 0 (.int .i64 at1), pl 1 (.int .i64 n1), pl 4 (.pointer (some ⟨g3, 0, none⟩)), pl 5 (.pointer (some ⟨g4, 0, none⟩)), pl 30 (.bool (((geti p2_Cells1 at1) == (w64 (3 - p31))) || ((decide ((0 : Int) ≤ (geti p41 at1))) && (decide ((geti p41 at1) ≤ n1)))))] hF hS Fol (by kernel_rfl) (by kernel_rfl) (by kernel_rfl) ?_ (fun a w hF hS => ?_)
      · exact obs_cons (ob_load Agg27 (fun _ _ hS => (hS.at_ 0 rfl).cell rfl)) <| obs_cons (ob_ix1 (f := (Value.int .i64)) (m := p2_Cells1) Und27 hi3 hs3 (hr_p2_Cells1 _ (hS.dropN 6)) rfl (fun _ => hp1)) <| obs_cons (ob_get1 (n := p2_Cells1.length) (m := p2_Cells1) (Value.int .i64) (0 : Int) Agg3 (fun _ hS => ⟨_, (hr_p2_Cells1 _ (hS.dropN 6))⟩) (fun _ hS => rfl) (fun _ => hp1)) <| obs_cons (ob_load Agg3 (fun _ _ hS => (hS.at_ 1 rfl).cell rfl)) <| obs_cons (ob_load Agg27 (fun _ _ hS => (hS.at_ 2 rfl).cell rfl)) <| obs_cons (ob_ix1 (f := (Value.int .i64)) (m := p41) Und27 hi3 hs3 (hS.at_ 3 rfl).rd rfl (fun hy => hp2 (hy (((geti p2_Cells1 at1) == (w64 (3 - p31))), false) (by simp)))) <| obs_cons (ob_get1 (n := p41.length) (m := p41) (Value.int .i64) (0 : Int) Agg3 (fun _ hS => ⟨_, (hS.at_ 3 rfl).rd⟩) (fun _ hS => rfl) (fun hy => hp2 (hy (((geti p2_Cells1 at1) == (w64 (3 - p31))), false) (by simp)))) <| obs_cons (ob_load Agg27 (fun _ _ hS => (hS.at_ 2 rfl).cell rfl)) <| obs_cons (ob_ix1 (f := (Value.int .i64)) (m := p41) Und27 hi3 hs3 (hS.at_ 3 rfl).rd rfl (fun hy => hp3 (hy (decide ((0 : Int) ≤ (geti p41 at1)), true) (by simp)) (hy (((geti p2_Cells1 at1) == (w64 (3 - p31))), false) (by simp)))) <| obs_cons (ob_get1 (n := p41.length) (m := p41) (Value.int .i64) (0 : Int) Agg3 (fun _ hS => ⟨_, (hS.at_ 3 rfl).rd⟩) (fun _ hS => rfl) (fun hy => hp3 (hy (decide ((0 : Int) ≤ (geti p41 at1)), true) (by simp)) (hy (((geti p2_Cells1 at1) == (w64 (3 - p31))), false) (by simp)))) <| obs_nil
      refine cond_ev (t := 30) (b := ((geti p2_Cells1 at1) == (w64 (3 - p31))) || ((decide ((0 : Int) ≤ (geti p41 at1))) && (decide ((geti p41 at1) ≤ n1)))) hF (by kernel_rfl) (fun hb => ?_) (fun hb => ?_)
      · replace hm := if_t hm hb
        refine wpIn_ret ?_
        refine then_r (then_r ?_)
        have hm : some (p41, p51) = some r := hm
        obtain rfl := Option.some.inj hm
        exact retV (rs := []) (vs := []) hF rfl (rv_nil) rfl ⟨_, rfl, A3, c3, hd1, rfl, hS⟩
      · replace hm := if_f hm hb
        refine wpIn_skip ?_
        refine then_n ?_
        have hS := hS.pickN 6 [2, 3, 4, 5, 0, 1] (by decide)
        exact ⟨hF.weak [0, 1, 4, 5] (by kernel_rfl), hS, hm⟩

noncomputable def hex_Shortest_J4  (z1 : Int) (far3 : List Int) (rounds3 : List (List Int)) : Option (St (List Int × List (List Int) × Int) (List Int × List (List Int))) :=
  some (.next (far3, rounds3, (w64 (z1 + 1))))

noncomputable def hex_Shortest_J3  (g1 : Int) (g2 : Int) (g3 : List Int) (who1 : Int) (far1 : List Int) (rounds1 : List (List Int)) (z1 : Int) : Option (St (List Int × List (List Int) × Int) (List Int × List (List Int))) :=
  (hex_along_m g1 who1 z1).bind fun r3 => if (r3 == 0) then ((hex_Shortest_1_m z1 g1 g2 g3).bind fun r4 => (hex_Shortest_2_m z1 r4 g1 g2 g3 who1 far1 rounds1).bind fun r5 => (hex_Shortest_J4 z1) r5.1 r5.2) else ((hex_Shortest_J4 z1) far1 rounds1)

noncomputable def hex_Shortest_J9  (i1 : Int) (far7 : List Int) (rounds7 : List (List Int)) : Option (St (List Int × List (List Int) × Int) (Fl (List Int × List (List Int)) (Int × Int))) :=
  some (.next (far7, rounds7, (w64 (i1 + 1))))

noncomputable def hex_Shortest_L4  (g1 : Int) (g2 : Int) (g3 : List Int) (who1 : Int) (n2 : Int) : (Int × (List Int × List (List Int))) → Option (St (List Int × List (List Int)) Unit) :=
  fun (x : Int × (List Int × List (List Int))) => match x with | (x1, (far8, rounds8)) => (hex_Shortest_1_m x1 g1 g2 g3).bind fun r8 => (hex_Shortest_2_m x1 (w64 (n2 + r8)) g1 g2 g3 who1 far8 rounds8).bind fun r9 => some (.next (r9.1, r9.2))

noncomputable def hex_Shortest_K4  (i1 : Int) : (St (List Int × List (List Int)) Unit) → Option (St (List Int × List (List Int) × Int) (Fl (List Int × List (List Int)) (Int × Int))) :=
  fun (x : St (List Int × List (List Int)) Unit) => match x with | .next (far8, rounds8) => (hex_Shortest_J9 i1) far8 rounds8 | .done _ => none

noncomputable def hex_Shortest_J11  (g1 : Int) (g2 : Int) (g3 : List Int) (who1 : Int) (n2 : Int) (far5 : List Int) (rounds5 : List (List Int)) (i1 : Int) : Option (St (List Int × List (List Int) × Int) (Fl (List Int × List (List Int)) (Int × Int))) :=
  (hex_near_m g1 (geti (geti2 rounds5 n2) i1)).bind fun r7 => (hex_near_1_m (ydOf (fun x s => (hex_Shortest_L4 g1 g2 g3 who1 n2) (x, s))) (.next (far5, rounds5)) r7.1 r7.2).bind (hex_Shortest_K4 i1)

noncomputable def hex_Shortest_J10  (g1 : Int) (g2 : Int) (g3 : List Int) (who1 : Int) (n2 : Int) (far5 : List Int) (rounds5 : List (List Int)) (i1 : Int) : Option (St (List Int × List (List Int) × Int) (Fl (List Int × List (List Int)) (Int × Int))) :=
  (hex_along_m g1 who1 (geti (geti2 rounds5 n2) i1)).bind fun r6 => if (r6 == (w64 (g1 - 1))) then (some (.done (.ret (n2, 0)))) else ((hex_Shortest_J11 g1 g2 g3 who1 n2 far5 rounds5 i1))

noncomputable def hex_Shortest_J8  (g1 : Int) (g2 : Int) (g3 : List Int) (who1 : Int) (r2 : (List Int)) (n2 : Int) (far5 : List Int) (rounds5 : List (List Int)) (i1 : Int) : Option (St (List Int × List (List Int) × Int) (Fl (List Int × List (List Int)) (Int × Int))) :=
  asrt (0 ≤ n2 ∧ n2 < (rounds5.length : Int)) <| asrt (0 ≤ i1 ∧ i1 < (((geti2 rounds5 n2).length : Nat) : Int)) <| asrt (0 ≤ (geti (geti2 rounds5 n2) i1) ∧ (geti (geti2 rounds5 n2) i1) < (r2.length : Int)) <| if (decide ((geti far5 (geti (geti2 rounds5 n2) i1)) < n2)) then ((hex_Shortest_J9 i1) far5 rounds5) else ((hex_Shortest_J10 g1 g2 g3 who1 n2 far5 rounds5 i1))

noncomputable def hex_Shortest_L3  (g1 : Int) (g2 : Int) (g3 : List Int) (who1 : Int) (r2 : (List Int)) (n2 : Int) : (List Int × List (List Int) × Int) → Option (St (List Int × List (List Int) × Int) (Fl (List Int × List (List Int)) (Int × Int))) :=
  fun (x : (List Int × List (List Int) × Int)) => match x with | (far5, rounds5, i1) => asrt (0 ≤ n2 ∧ n2 < (rounds5.length : Int)) <| if (decide (i1 < (((geti2 rounds5 n2).length : Nat) : Int))) then ((hex_Shortest_J8 g1 g2 g3 who1 r2 n2 far5 rounds5 i1)) else (some (.done (.go (far5, rounds5))))

noncomputable def hex_Shortest_J12  (n2 : Int) (far6 : List Int) (rounds6 : List (List Int)) : Option (St (List Int × List (List Int) × Int) (Fl Unit (Int × Int))) :=
  some (.next (far6, rounds6, (w64 (n2 + 1))))

noncomputable def hex_Shortest_J7  (n2 : Int) (far6 : List Int) (rounds6 : List (List Int)) : Option (St (List Int × List (List Int) × Int) (Fl Unit (Int × Int))) :=
  (hex_Shortest_J12 n2 far6 rounds6)

noncomputable def hex_Shortest_K3  (n2 : Int) : (Fl (List Int × List (List Int)) (Int × Int)) → Option (St (List Int × List (List Int) × Int) (Fl Unit (Int × Int))) :=
  fun (x : (Fl (List Int × List (List Int)) (Int × Int))) => match x with | .go (far6, rounds6) => (hex_Shortest_J7 n2) far6 rounds6 | .ret x => some (.done (.ret x))

noncomputable def hex_Shortest_J6  (g1 : Int) (g2 : Int) (g3 : List Int) (who1 : Int) (r2 : (List Int)) (far4 : List Int) (rounds4 : List (List Int)) (n2 : Int) : Option (St (List Int × List (List Int) × Int) (Fl Unit (Int × Int))) :=
  (loop (hex_Shortest_L3 g1 g2 g3 who1 r2 n2) (far4, rounds4, 0)).bind (hex_Shortest_K3 n2)

noncomputable def hex_Shortest_L2  (g1 : Int) (g2 : Int) (g3 : List Int) (who1 : Int) (r2 : (List Int)) : (List Int × List (List Int) × Int) → Option (St (List Int × List (List Int) × Int) (Fl Unit (Int × Int))) :=
  fun (x : (List Int × List (List Int) × Int)) => match x with | (far4, rounds4, n2) => if (decide (n2 < (rounds4.length : Int))) then ((hex_Shortest_J6 g1 g2 g3 who1 r2 far4 rounds4 n2)) else (some (.done (.go ())))

noncomputable def hex_Shortest_J5  : Option (Int × Int) :=
  some ((-1), 0)

noncomputable def hex_Shortest_K2  : (Fl Unit (Int × Int)) → Option (Int × Int) :=
  fun (x : (Fl Unit (Int × Int))) => match x with | .go _ => hex_Shortest_J5 | .ret x => some x

noncomputable def hex_Shortest_J2  (g1 : Int) (g2 : Int) (g3 : List Int) (who1 : Int) (r2 : (List Int)) (far2 : List Int) (rounds2 : List (List Int)) : Option (Int × Int) :=
  (loop (hex_Shortest_L2 g1 g2 g3 who1 r2) (far2, rounds2, 0)).bind hex_Shortest_K2

noncomputable def hex_Shortest_K1  (g1 : Int) (g2 : Int) (g3 : List Int) (who1 : Int) (r2 : (List Int)) : (List Int × List (List Int)) → Option (Int × Int) :=
  fun (x : (List Int × List (List Int))) => match x with | (far2, rounds2) => (hex_Shortest_J2 g1 g2 g3 who1 r2) far2 rounds2

noncomputable def hex_Shortest_L1  (g1 : Int) (g2 : Int) (g3 : List Int) (who1 : Int) : (List Int × List (List Int) × Int) → Option (St (List Int × List (List Int) × Int) (List Int × List (List Int))) :=
  fun (x : (List Int × List (List Int) × Int)) => match x with | (far1, rounds1, z1) => if (decide (z1 < (g3.length : Int))) then ((hex_Shortest_J3 g1 g2 g3 who1 far1 rounds1 z1)) else (some (.done (far1, rounds1)))

noncomputable def hex_Shortest_J1  (g1 : Int) (g2 : Int) (g3 : List Int) (who1 : Int) : Option (Int × Int) :=
  (slices_Repeat_m ([(-1)] : List Int) (g3.length : Int)).bind fun r2 => (loop (hex_Shortest_L1 g1 g2 g3 who1) (r2, ([] : List (List Int)), 0)).bind (hex_Shortest_K1 g1 g2 g3 who1 r2)
end Go.Proofs.Ytfmmlmiakkjaiaa
