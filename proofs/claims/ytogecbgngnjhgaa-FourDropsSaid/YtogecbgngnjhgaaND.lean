/-
  Models and walks, printed by our own program (wip/gen).
-/
import Derived.Test.YtogecbgngnjhgaaFB
import Derived.Test.YtogecbgngnjhgaaNDc
namespace Go.Proofs.Ytogecbgngnjhgaa
open Go Go.GL Go.RowKit

noncomputable def gameroomref_DropOf_m (g1 : Int) (g2 : Int) (g3 : List Int) (column1 : Int) (k1 : Int) : Option (Int × Int × List Int × Int) :=
  (gameroomref_within_m k1 1 10).bind fun r1 => if (!r1) then (some (0, 0, ([] : List Int), 3)) else ((gameroomref_DropOf_J1 g1 g2 g3 column1 k1))

set_option maxRecDepth 100000 in
set_option maxHeartbeats 4000000 in
theorem gameroomref_DropOf_w {g1 : Int} {g2 : Int} {A1 : Option Addr} {c1 : Nat} {n1 : Nat} {g3 : List Int} {column1 : Int} {k1 : Int} {r : (Int × Int × List Int × Int)} {w0 w : World} {B : Nat} {fs : List HP} (hm : gameroomref_DropOf_m g1 g2 g3 column1 k1 = some r) (hS : Sep w0 B w (fs)) (hr_g3 : RdF w0 B fs A1 (vI g3)) (_hc_g3 : g3.length ≤ c1) (_hn_g3 : n1 = g3.length) :
    Calls Try.prog 32 #[.agg #[.int .i64 g1, .int .i64 g2, .slice A1 n1 c1], .int .i64 column1, .int .i64 k1] w fun e w' => ∃ v, e = .returned v ∧ ∃ (A4 : Option Addr) (c4 : Nat), v = .tuple #[.agg #[.int .i64 r.1, .int .i64 r.2.1, .slice A4 r.2.2.1.length c4], .int .i64 r.2.2.2] ∧ Sep w0 B w' (own 3 (.slice A4 r.2.2.1.length c4) (vI r.2.2.1) :: fs) := by
  obtain ⟨i3, hi3, hz3, hs3, hb3⟩ := info_parts Info3
  obtain rfl := _hn_g3
  unfold gameroomref_DropOf_m at hm
  replace hm := start_b hm
  refine enter (l := [.agg #[.int .i64 g1, .int .i64 g2, .slice A1 g3.length c1], .int .i64 column1, .int .i64 k1]) (n := 52) Try.func32 rfl rfl (by simp) (fun a hF => ?_)
  refine seqR ?_
  refine at_do (d := 3) (s := vS (Instr.box 24 (.agg #[.int .i64 g1, .int .i64 g2, .slice A1 g3.length c1]))) (v := .pointer (some ⟨w.heap.size, 0, none⟩)) (w' := w.alloc (.cells #[.int .i64 g1, .int .i64 g2, .slice A1 g3.length c1] 24)) hF (by kernel_rfl) (by kernel_rfl) (by kernel_rfl) (fun a hF => ?_)
  have hS : Sep w0 B (w.alloc (.cells #[.int .i64 g1, .int .i64 g2, .slice A1 g3.length c1] 24)) (blk w.heap.size 24 #[.int .i64 g1, .int .i64 g2, .slice A1 g3.length c1] :: (fs)) := hS.box 24 #[.int .i64 g1, .int .i64 g2, .slice A1 g3.length c1]
  generalize w.heap.size = g4 at hF hS
  generalize w.alloc (.cells #[.int .i64 g1, .int .i64 g2, .slice A1 g3.length c1] 24) = w at hS ⊢
  refine at_do (d := 6) (s := vS (Instr.alloc 24 true (.tuple #[]))) (v := .pointer (some ⟨w.heap.size, 0, none⟩)) (w' := w.alloc (.cells #[.int .i64 0, .int .i64 0, .slice none 0 0] 24)) hF (by kernel_rfl) (by kernel_rfl) (by kernel_rfl) (fun a hF => ?_)
  have hS : Sep w0 B (w.alloc (.cells #[.int .i64 0, .int .i64 0, .slice none 0 0] 24)) (blk w.heap.size 24 #[.int .i64 0, .int .i64 0, .slice none 0 0] :: (blk g4 24 #[.int .i64 g1, .int .i64 g2, .slice A1 g3.length c1] :: fs)) := hS.box 24 #[.int .i64 0, .int .i64 0, .slice none 0 0]
  generalize w.heap.size = g5 at hF hS
  generalize w.alloc (.cells #[.int .i64 0, .int .i64 0, .slice none 0 0] 24) = w at hS ⊢
  refine at_run 1 [] [] [1, 2, 3, 6] [pl 1 (.int .i64 column1), pl 2 (.int .i64 k1), pl 3 (.pointer (some ⟨g4, 0, none⟩)), pl 6 (.pointer (some ⟨g5, 0, none⟩))] hF hS (by kernel_rfl) (by kernel_rfl) ?_ (fun a w hF hS => ?_)
  · exact obs_nil
  refine at_end [1, 2, 3, 6] [pl 1 (.int .i64 column1), pl 2 (.int .i64 k1), pl 3 (.pointer (some ⟨g4, 0, none⟩)), pl 6 (.pointer (some ⟨g5, 0, none⟩))] hF rfl (by kernel_rfl) (fun hF => ?_)
  refine then_n ?_
  refine seq_cut (fun a w => Fr 52 [pl 1 (.int .i64 column1), pl 2 (.int .i64 k1), pl 3 (.pointer (some ⟨g4, 0, none⟩)), pl 6 (.pointer (some ⟨g5, 0, none⟩))] a ∧ Sep w0 B w (blk g4 24 #[.int .i64 g1, .int .i64 g2, .slice A1 g3.length c1] :: blk g5 24 #[.int .i64 0, .int .i64 0, .slice none 0 0] :: fs) ∧ ((gameroomref_DropOf_J1 g1 g2 g3 column1 k1)).bind some = some r) ?_ ?_
  · rintro a w ⟨hF, hS, hm⟩
    unfold gameroomref_DropOf_J1 at hm
    obtain ⟨r2, hr2, hm⟩ := call_b hm
    refine reg [⟨false, [], vS (Instr.loadAt 24 (.pointer (some ⟨g4, 0, none⟩))), .agg #[.int .i64 g1, .int .i64 g2, .slice A1 g3.length c1]⟩, ⟨false, [], callFunc 35 #[.agg #[.int .i64 g1, .int .i64 g2, .slice A1 g3.length c1]], .int .i64 r2⟩] [some (.agg #[.int .i64 g1, .int .i64 g2, .slice A1 g3.length c1]), some (.int .i64 r2), none] [1, 2, 3, 6, 8] [pl 1 (.int .i64 column1), pl 2 (.int .i64 k1), pl 3 (.pointer (some ⟨g4, 0, none⟩)), pl 6 (.pointer (some ⟨g5, 0, none⟩)), pl 8 (.int .i64 r2)] hF hS Fol (by kernel_rfl) (by kernel_rfl) (by kernel_rfl) ?_ (fun a w hF hS => ?_)
    · exact obs_cons (ob_loadA (cs := #[.int .i64 g1, .int .i64 g2, .slice A1 g3.length c1]) (by kernel_rfl) (by kernel_rfl) (fun _ _ hS => (hS.at_ 0 rfl).cellsAt 0 (by rfl))) <| obs_cons (ob_call Try.func35 (by kernel_rfl) rfl (fun _ _ hS => gameroomref_GridMover_w hr2 hS (fun _ hS => (hr_g3 _ (hS.dropN 2))) _hc_g3 rfl)) <| obs_nil
    refine seq_cut (fun a w => Fr 52 [pl 1 (.int .i64 column1), pl 2 (.int .i64 k1), pl 3 (.pointer (some ⟨g4, 0, none⟩)), pl 6 (.pointer (some ⟨g5, 0, none⟩)), pl 8 (.int .i64 r2)] a ∧ Sep w0 B w (blk g4 24 #[.int .i64 g1, .int .i64 g2, .slice A1 g3.length c1] :: blk g5 24 #[.int .i64 0, .int .i64 0, .slice none 0 0] :: fs) ∧ ((gameroomref_DropOf_J2 g1 g2 g3 column1 k1 r2)).bind some = some r) ?_ ?_
    · rintro a w ⟨hF, hS, hm⟩
      unfold gameroomref_DropOf_J2 at hm
      refine seqR ?_
      obtain ⟨r3, hr3, hm⟩ := call_b hm
      refine at_run 2 [⟨false, [], vS (Instr.loadAt 24 (.pointer (some ⟨g4, 0, none⟩))), .agg #[.int .i64 g1, .int .i64 g2, .slice A1 g3.length c1]⟩] [some (.agg #[.int .i64 g1, .int .i64 g2, .slice A1 g3.length c1]), none] [1, 3, 6, 8, 23, 24] [pl 1 (.int .i64 column1), pl 3 (.pointer (some ⟨g4, 0, none⟩)), pl 6 (.pointer (some ⟨g5, 0, none⟩)), pl 8 (.int .i64 r2), pl 23 (.agg #[.int .i64 g1, .int .i64 g2, .slice A1 g3.length c1]), pl 24 (.int .i64 k1)] hF hS (by kernel_rfl) (by kernel_rfl) ?_ (fun a w hF hS => ?_)
      · exact obs_cons (ob_loadA (cs := #[.int .i64 g1, .int .i64 g2, .slice A1 g3.length c1]) (by kernel_rfl) (by kernel_rfl) (fun _ _ hS => (hS.at_ 0 rfl).cellsAt 0 (by rfl))) <| obs_nil
      refine at_call (f := 79) (args := #[.agg #[.int .i64 g1, .int .i64 g2, .slice A1 g3.length c1], .int .i64 k1]) (d := 25) hF (by kernel_rfl) (by kernel_rfl) Try.func79 (by kernel_rfl) rfl (gameroomref_WonOf_w hr3 hS (fun _ hS => (hr_g3 _ (hS.dropN 2))) _hc_g3 rfl) (fun v a w hR hF => ?_)
      clear hS
      obtain ⟨A2, c2, rfl, hS⟩ := hR
      have hS : Sep w0 B w (own 3 (.slice A2 r3.2.length c2) (vI r3.2) :: blk g4 24 #[.int .i64 g1, .int .i64 g2, .slice A1 g3.length c1] :: blk g5 24 #[.int .i64 0, .int .i64 0, .slice none 0 0] :: fs) := hS
      refine at_run 5 [] [] [1, 3, 6, 8, 9] [pl 1 (.int .i64 column1), pl 3 (.pointer (some ⟨g4, 0, none⟩)), pl 6 (.pointer (some ⟨g5, 0, none⟩)), pl 8 (.int .i64 r2), pl 9 (.int .i64 r3.1)] hF hS (by kernel_rfl) (by kernel_rfl) ?_ (fun a w hF hS => ?_)
      · exact obs_nil
      refine at_end [1, 3, 6, 8, 9] [pl 1 (.int .i64 column1), pl 3 (.pointer (some ⟨g4, 0, none⟩)), pl 6 (.pointer (some ⟨g5, 0, none⟩)), pl 8 (.int .i64 r2), pl 9 (.int .i64 r3.1)] hF rfl (by kernel_rfl) (fun hF => ?_)
      refine then_n ?_
      refine seq_cut (fun a w => Fr 52 [pl 1 (.int .i64 column1), pl 3 (.pointer (some ⟨g4, 0, none⟩)), pl 6 (.pointer (some ⟨g5, 0, none⟩)), pl 8 (.int .i64 r2)] a ∧ Sep w0 B w (blk g4 24 #[.int .i64 g1, .int .i64 g2, .slice A1 g3.length c1] :: blk g5 24 #[.int .i64 0, .int .i64 0, .slice none 0 0] :: fs) ∧ ((gameroomref_DropOf_J3 g1 g2 g3 column1 r2)).bind some = some r) ?_ ?_
      · rintro a w ⟨hF, hS, hm⟩
        unfold gameroomref_DropOf_J3 at hm
        refine seq_cut (fun a w => Fr 52 [pl 1 (.int .i64 column1), pl 3 (.pointer (some ⟨g4, 0, none⟩)), pl 6 (.pointer (some ⟨g5, 0, none⟩)), pl 8 (.int .i64 r2)] a ∧ Sep w0 B w (blk g4 24 #[.int .i64 g1, .int .i64 g2, .slice A1 g3.length c1] :: blk g5 24 #[.int .i64 0, .int .i64 0, .slice none 0 0] :: fs) ∧ ((gameroomref_DropOf_J4 g1 g2 g3 column1 r2)).bind some = some r) ?_ ?_
        · rintro a w ⟨hF, hS, hm⟩
          unfold gameroomref_DropOf_J4 at hm
          obtain ⟨r5, hr5, hm⟩ := call_b hm
          refine reg [⟨false, [], vS (Instr.loadAt 24 (.pointer (some ⟨g4, 0, none⟩))), .agg #[.int .i64 g1, .int .i64 g2, .slice A1 g3.length c1]⟩, ⟨false, [], callFunc 80 #[.agg #[.int .i64 g1, .int .i64 g2, .slice A1 g3.length c1], .int .i64 column1], .int .i64 r5⟩] [some (.agg #[.int .i64 g1, .int .i64 g2, .slice A1 g3.length c1]), none, some (.int .i64 r5), none] [3, 6, 8, 11] [pl 3 (.pointer (some ⟨g4, 0, none⟩)), pl 6 (.pointer (some ⟨g5, 0, none⟩)), pl 8 (.int .i64 r2), pl 11 (.int .i64 r5)] hF hS Fol (by kernel_rfl) (by kernel_rfl) (by kernel_rfl) ?_ (fun a w hF hS => ?_)
          · exact obs_cons (ob_loadA (cs := #[.int .i64 g1, .int .i64 g2, .slice A1 g3.length c1]) (by kernel_rfl) (by kernel_rfl) (fun _ _ hS => (hS.at_ 0 rfl).cellsAt 0 (by rfl))) <| obs_cons (ob_call Try.func80 (by kernel_rfl) rfl (fun _ _ hS => gameroomref_fallTo_w hr5 hS (fun _ hS => (hr_g3 _ (hS.dropN 2))) _hc_g3 rfl)) <| obs_nil
          refine seq_cut (fun a w => Fr 52 [pl 3 (.pointer (some ⟨g4, 0, none⟩)), pl 6 (.pointer (some ⟨g5, 0, none⟩)), pl 8 (.int .i64 r2), pl 11 (.int .i64 r5)] a ∧ Sep w0 B w (blk g4 24 #[.int .i64 g1, .int .i64 g2, .slice A1 g3.length c1] :: blk g5 24 #[.int .i64 0, .int .i64 0, .slice none 0 0] :: fs) ∧ ((gameroomref_DropOf_J5 g1 g2 g3 r2 r5)).bind some = some r) ?_ ?_
          · rintro a w ⟨hF, hS, hm⟩
            unfold gameroomref_DropOf_J5 at hm
            refine seqR ?_
            obtain ⟨r6, hr6, hm⟩ := call_b hm
            refine at_run 1 [⟨false, [], vS (Instr.loadAt 24 (.pointer (some ⟨g4, 0, none⟩))), .agg #[.int .i64 g1, .int .i64 g2, .slice A1 g3.length c1]⟩] [some (.agg #[.int .i64 g1, .int .i64 g2, .slice A1 g3.length c1])] [6, 8, 11, 44] [pl 6 (.pointer (some ⟨g5, 0, none⟩)), pl 8 (.int .i64 r2), pl 11 (.int .i64 r5), pl 44 (.agg #[.int .i64 g1, .int .i64 g2, .slice A1 g3.length c1])] hF hS (by kernel_rfl) (by kernel_rfl) ?_ (fun a w hF hS => ?_)
            · exact obs_cons (ob_loadA (cs := #[.int .i64 g1, .int .i64 g2, .slice A1 g3.length c1]) (by kernel_rfl) (by kernel_rfl) (fun _ _ hS => (hS.at_ 0 rfl).cellsAt 0 (by rfl))) <| obs_nil
            refine at_call (f := 13) (args := #[.agg #[.int .i64 g1, .int .i64 g2, .slice A1 g3.length c1]]) (d := 45) hF (by kernel_rfl) (by kernel_rfl) Try.func13 (by kernel_rfl) rfl (gameroomref_GridOf_w hr6 hS (fun _ hS => (hr_g3 _ (hS.dropN 2))) _hc_g3 rfl) (fun v a w hR hF => ?_)
            clear hS
            obtain ⟨A3, c3, rfl, hS⟩ := hR
            have hS : Sep w0 B w (own 3 (.slice A3 r6.2.2.length c3) (vI r6.2.2) :: blk g4 24 #[.int .i64 g1, .int .i64 g2, .slice A1 g3.length c1] :: blk g5 24 #[.int .i64 0, .int .i64 0, .slice none 0 0] :: fs) := hS
            refine at_do (d := 12) (s := vS (Instr.alloc 24 true (.tuple #[]))) (v := .pointer (some ⟨w.heap.size, 0, none⟩)) (w' := w.alloc (.cells #[.int .i64 0, .int .i64 0, .slice none 0 0] 24)) hF (by kernel_rfl) (by kernel_rfl) (by kernel_rfl) (fun a hF => ?_)
            have hS : Sep w0 B (w.alloc (.cells #[.int .i64 0, .int .i64 0, .slice none 0 0] 24)) (blk w.heap.size 24 #[.int .i64 0, .int .i64 0, .slice none 0 0] :: (own 3 (.slice A3 r6.2.2.length c3) (vI r6.2.2) :: blk g4 24 #[.int .i64 g1, .int .i64 g2, .slice A1 g3.length c1] :: blk g5 24 #[.int .i64 0, .int .i64 0, .slice none 0 0] :: fs)) := hS.box 24 #[.int .i64 0, .int .i64 0, .slice none 0 0]
            generalize w.heap.size = g6 at hF hS
            generalize w.alloc (.cells #[.int .i64 0, .int .i64 0, .slice none 0 0] 24) = w at hS ⊢
            obtain ⟨w, hrun, hS⟩ := run_putA (P := Try.prog) (t := 24) (us := #[.int .i64 r6.1, .int .i64 r6.2.1, .slice A3 r6.2.2.length c3]) (o := 0) (hS.at_ 0 rfl) (by kernel_rfl) (all_one (by kernel_rfl)) (Nat.le_of_ble_eq_true (by kernel_rfl))
            refine at_skip hF (by kernel_rfl) hrun ?_
            have hS : Sep w0 B w (blk g6 24 #[.int .i64 r6.1, .int .i64 r6.2.1, .slice A3 r6.2.2.length c3] :: own 3 (.slice A3 r6.2.2.length c3) (vI r6.2.2) :: blk g4 24 #[.int .i64 g1, .int .i64 g2, .slice A1 g3.length c1] :: blk g5 24 #[.int .i64 0, .int .i64 0, .slice none 0 0] :: fs) := hS
            refine at_end [6, 8, 11, 12] [pl 6 (.pointer (some ⟨g5, 0, none⟩)), pl 8 (.int .i64 r2), pl 11 (.int .i64 r5), pl 12 (.pointer (some ⟨g6, 0, none⟩))] hF rfl (by kernel_rfl) (fun hF => ?_)
            refine then_n ?_
            refine seqR ?_
            obtain ⟨hp1, hm⟩ := asrt_b hm
            refine at_run 5 [⟨false, [], vS (Instr.loadAt 22 (.pointer (some ⟨g6, 2, none⟩))), .slice A3 r6.2.2.length c3⟩, ⟨true, [], vS (Instr.indexAt 22 (.slice A3 r6.2.2.length c3) (.int .i64 r5)), .pointer (some (sAddr A3 r5))⟩] [none, some (.slice A3 r6.2.2.length c3), none, none, some (.pointer (some (sAddr A3 r5)))] [6, 12, 49, 50] [pl 6 (.pointer (some ⟨g5, 0, none⟩)), pl 12 (.pointer (some ⟨g6, 0, none⟩)), pl 49 (.int .i64 r2), pl 50 (.pointer (some (sAddr A3 r5)))] hF hS (by kernel_rfl) (by kernel_rfl) ?_ (fun a w hF hS => ?_)
            · exact obs_cons (ob_load Agg22 (fun _ _ hS => (hS.at_ 0 rfl).cell rfl)) <| obs_cons (ob_ix1 (f := (Value.int .i64)) (m := r6.2.2) Und22 hi3 hs3 (hS.at_ 1 rfl).rd rfl (fun _ => hp1)) <| obs_nil
            obtain ⟨w, hrun, hS⟩ := run_set1 (P := Try.prog) (t := 3) (x := r2) (Value.int .i64) (hS.at_ 1 rfl) hi3 hs3 rfl rfl hp1
            refine at_skip hF (by kernel_rfl) hrun ?_
            have hS : Sep w0 B w (blk g6 24 #[.int .i64 r6.1, .int .i64 r6.2.1, .slice A3 r6.2.2.length c3] :: own 3 (.slice A3 r6.2.2.length c3) (vI (r6.2.2.set (Int.toNat r5) r2)) :: blk g4 24 #[.int .i64 g1, .int .i64 g2, .slice A1 g3.length c1] :: blk g5 24 #[.int .i64 0, .int .i64 0, .slice none 0 0] :: fs) := hS
            refine at_end [6, 12] [pl 6 (.pointer (some ⟨g5, 0, none⟩)), pl 12 (.pointer (some ⟨g6, 0, none⟩))] hF rfl (by kernel_rfl) (fun hF => ?_)
            refine then_n ?_
            refine seqR ?_
            refine at_run 1 [⟨false, [], vS (Instr.loadAt 24 (.pointer (some ⟨g6, 0, none⟩))), .agg #[.int .i64 r6.1, .int .i64 r6.2.1, .slice A3 r6.2.2.length c3]⟩] [some (.agg #[.int .i64 r6.1, .int .i64 r6.2.1, .slice A3 r6.2.2.length c3])] [6, 51] [pl 6 (.pointer (some ⟨g5, 0, none⟩)), pl 51 (.agg #[.int .i64 r6.1, .int .i64 r6.2.1, .slice A3 r6.2.2.length c3])] hF hS (by kernel_rfl) (by kernel_rfl) ?_ (fun a w hF hS => ?_)
            · exact obs_cons (ob_loadA (cs := #[.int .i64 r6.1, .int .i64 r6.2.1, .slice A3 r6.2.2.length c3]) (by kernel_rfl) (by kernel_rfl) (fun _ _ hS => (hS.at_ 0 rfl).cellsAt 0 (by rfl))) <| obs_nil
            obtain ⟨w, hrun, hS⟩ := run_putA (P := Try.prog) (t := 24) (us := #[.int .i64 r6.1, .int .i64 r6.2.1, .slice A3 r6.2.2.length c3]) (o := 0) (hS.at_ 3 rfl) (by kernel_rfl) (all_one (by kernel_rfl)) (Nat.le_of_ble_eq_true (by kernel_rfl))
            refine at_skip hF (by kernel_rfl) hrun ?_
            have hS : Sep w0 B w (blk g6 24 #[.int .i64 r6.1, .int .i64 r6.2.1, .slice A3 r6.2.2.length c3] :: own 3 (.slice A3 r6.2.2.length c3) (vI (r6.2.2.set (Int.toNat r5) r2)) :: blk g4 24 #[.int .i64 g1, .int .i64 g2, .slice A1 g3.length c1] :: blk g5 24 #[.int .i64 r6.1, .int .i64 r6.2.1, .slice A3 r6.2.2.length c3] :: fs) := hS
            refine at_run 1 [] [] [6, 7] [pl 6 (.pointer (some ⟨g5, 0, none⟩)), pl 7 (.int .i64 0)] hF hS (by kernel_rfl) (by kernel_rfl) ?_ (fun a w hF hS => ?_)
            · exact obs_nil
            refine at_end [6, 7] [pl 6 (.pointer (some ⟨g5, 0, none⟩)), pl 7 (.int .i64 0)] hF rfl (by kernel_rfl) (fun hF => ?_)
            refine then_n ?_
            refine wp_ret ?_
            have hl6 := (hS.at_ 1 rfl).len1
            have hS := (hS.at_ 1 rfl).reN hl6
            have hS := (hS.at_ 0 rfl).reBlk (congrArg (fun k9 => (#[.int .i64 r6.1, .int .i64 r6.2.1, .slice A3 k9 c3] : Array Value)) hl6)
            have hS := (hS.at_ 3 rfl).reBlk (congrArg (fun k9 => (#[.int .i64 r6.1, .int .i64 r6.2.1, .slice A3 k9 c3] : Array Value)) hl6)
            have hS : Sep w0 B w (blk g6 24 #[.int .i64 r6.1, .int .i64 r6.2.1, .slice A3 ((r6.2.2.set (Int.toNat r5) r2).length) c3] :: own 3 (.slice A3 ((r6.2.2.set (Int.toNat r5) r2).length) c3) (vI (r6.2.2.set (Int.toNat r5) r2)) :: blk g4 24 #[.int .i64 g1, .int .i64 g2, .slice A1 g3.length c1] :: blk g5 24 #[.int .i64 r6.1, .int .i64 r6.2.1, .slice A3 ((r6.2.2.set (Int.toNat r5) r2).length) c3] :: fs) := hS
            have hld0 := run_loadVarA (P := Try.prog) (t := 24) (cs := #[.int .i64 r6.1, .int .i64 r6.2.1, .slice A3 ((r6.2.2.set (Int.toNat r5) r2).length) c3]) (by kernel_rfl) (by kernel_rfl) ((hS.at_ 3 rfl).cellsAt 0 (by rfl))
            have hS := hS.pickN 4 [1] (by decide)
            have hm : some (r6.1, r6.2.1, (r6.2.2.set (Int.toNat r5) r2), 0) = some r := hm
            obtain rfl := Option.some.inj hm
            exact retV (rs := [.cell 6 24, .tmp 7]) (vs := [.agg #[.int .i64 r6.1, .int .i64 r6.2.1, .slice A3 ((r6.2.2.set (Int.toNat r5) r2).length) c3], .int .i64 0]) hF rfl (rv_c (by kernel_rfl) hld0 <| rv_t (by kernel_rfl) <| rv_nil) rfl ⟨_, rfl, A3, c3, rfl, hS⟩
          · refine reg [] [] [3, 6, 8, 11, 42] [pl 3 (.pointer (some ⟨g4, 0, none⟩)), pl 6 (.pointer (some ⟨g5, 0, none⟩)), pl 8 (.int .i64 r2), pl 11 (.int .i64 r5), pl 42 (.bool (decide (r5 < 0)))] hF hS Fol (by kernel_rfl) (by kernel_rfl) (by kernel_rfl) ?_ (fun a w hF hS => ?_)
            · exact obs_nil
            refine cond_ev (t := 42) (b := decide (r5 < 0)) hF (by kernel_rfl) (fun hb => ?_) (fun hb => ?_)
            · replace hm := if_t hm hb
              refine seqR ?_
              refine at_run 1 [] [] [6, 43] [pl 6 (.pointer (some ⟨g5, 0, none⟩)), pl 43 (.agg #[.int .i64 0, .int .i64 0, .slice none 0 0])] hF hS (by kernel_rfl) (by kernel_rfl) ?_ (fun a w hF hS => ?_)
              · exact obs_nil
              obtain ⟨w, hrun, hS⟩ := run_putA (P := Try.prog) (t := 24) (us := #[.int .i64 0, .int .i64 0, .slice none 0 0]) (o := 0) (hS.at_ 1 rfl) (by kernel_rfl) (all_one (by kernel_rfl)) (Nat.le_of_ble_eq_true (by kernel_rfl))
              refine at_skip hF (by kernel_rfl) hrun ?_
              have hS : Sep w0 B w (blk g4 24 #[.int .i64 g1, .int .i64 g2, .slice A1 g3.length c1] :: blk g5 24 #[.int .i64 0, .int .i64 0, .slice none 0 0] :: fs) := hS
              refine at_run 1 [] [] [6, 7] [pl 6 (.pointer (some ⟨g5, 0, none⟩)), pl 7 (.int .i64 11)] hF hS (by kernel_rfl) (by kernel_rfl) ?_ (fun a w hF hS => ?_)
              · exact obs_nil
              refine at_end [6, 7] [pl 6 (.pointer (some ⟨g5, 0, none⟩)), pl 7 (.int .i64 11)] hF rfl (by kernel_rfl) (fun hF => ?_)
              refine then_n ?_
              refine wp_ret ?_
              refine then_r ?_
              have hS : Sep w0 B w (own 3 (.slice none 0 0) (vI ([] : List Int)) :: blk g4 24 #[.int .i64 g1, .int .i64 g2, .slice A1 g3.length c1] :: blk g5 24 #[.int .i64 0, .int .i64 0, .slice none 0 0] :: fs) := hS.nil 3
              have hl5 := (hS.at_ 0 rfl).len1
              have hS := (hS.at_ 0 rfl).reN hl5
              have hS : Sep w0 B w (own 3 (.slice none (([] : List Int).length) 0) (vI ([] : List Int)) :: blk g4 24 #[.int .i64 g1, .int .i64 g2, .slice A1 g3.length c1] :: blk g5 24 #[.int .i64 0, .int .i64 0, .slice none 0 0] :: fs) := hS
              have hld0 := run_loadVarA (P := Try.prog) (t := 24) (cs := #[.int .i64 0, .int .i64 0, .slice none (([] : List Int).length) 0]) (by kernel_rfl) (by kernel_rfl) ((hS.at_ 2 rfl).cellsAt 0 (by rfl))
              have hS := hS.pickN 3 [0] (by decide)
              have hm : some (0, 0, ([] : List Int), 11) = some r := hm
              obtain rfl := Option.some.inj hm
              exact retV (rs := [.cell 6 24, .tmp 7]) (vs := [.agg #[.int .i64 0, .int .i64 0, .slice none (([] : List Int).length) 0], .int .i64 11]) hF rfl (rv_c (by kernel_rfl) hld0 <| rv_t (by kernel_rfl) <| rv_nil) rfl ⟨_, rfl, none, 0, rfl, hS⟩
            · replace hm := if_f hm hb
              refine wp_skip ?_
              refine then_n ?_
              exact ⟨hF.weak [3, 6, 8, 11] (by kernel_rfl), hS, hm⟩
        · obtain ⟨r4, hr4, hm⟩ := call_b hm
          refine reg [⟨false, [], vS (Instr.loadAt 3 (.pointer (some ⟨g4, 0, none⟩))), .int .i64 g1⟩, ⟨false, [], callFunc 64 #[.int .i64 column1, .int .i64 0, .int .i64 (w64 (g1 - 1))], .bool r4⟩] [none, none, some (.int .i64 g1), none, some (.bool r4), none] [1, 3, 6, 8, 36] [pl 1 (.int .i64 column1), pl 3 (.pointer (some ⟨g4, 0, none⟩)), pl 6 (.pointer (some ⟨g5, 0, none⟩)), pl 8 (.int .i64 r2), pl 36 (.bool (!r4))] hF hS Fol (by kernel_rfl) (by kernel_rfl) (by kernel_rfl) ?_ (fun a w hF hS => ?_)
          · exact obs_cons (ob_load Agg3 (fun _ _ hS => (hS.at_ 0 rfl).cell rfl)) <| obs_cons (ob_call Try.func64 (by kernel_rfl) rfl (fun _ _ hS => gameroomref_within_w hr4 hS )) <| obs_nil
          refine cond_ev (t := 36) (b := !r4) hF (by kernel_rfl) (fun hb => ?_) (fun hb => ?_)
          · replace hm := if_t hm hb
            refine seqR ?_
            refine at_run 1 [] [] [6, 37] [pl 6 (.pointer (some ⟨g5, 0, none⟩)), pl 37 (.agg #[.int .i64 0, .int .i64 0, .slice none 0 0])] hF hS (by kernel_rfl) (by kernel_rfl) ?_ (fun a w hF hS => ?_)
            · exact obs_nil
            obtain ⟨w, hrun, hS⟩ := run_putA (P := Try.prog) (t := 24) (us := #[.int .i64 0, .int .i64 0, .slice none 0 0]) (o := 0) (hS.at_ 1 rfl) (by kernel_rfl) (all_one (by kernel_rfl)) (Nat.le_of_ble_eq_true (by kernel_rfl))
            refine at_skip hF (by kernel_rfl) hrun ?_
            have hS : Sep w0 B w (blk g4 24 #[.int .i64 g1, .int .i64 g2, .slice A1 g3.length c1] :: blk g5 24 #[.int .i64 0, .int .i64 0, .slice none 0 0] :: fs) := hS
            refine at_run 1 [] [] [6, 7] [pl 6 (.pointer (some ⟨g5, 0, none⟩)), pl 7 (.int .i64 5)] hF hS (by kernel_rfl) (by kernel_rfl) ?_ (fun a w hF hS => ?_)
            · exact obs_nil
            refine at_end [6, 7] [pl 6 (.pointer (some ⟨g5, 0, none⟩)), pl 7 (.int .i64 5)] hF rfl (by kernel_rfl) (fun hF => ?_)
            refine then_n ?_
            refine wp_ret ?_
            refine then_r ?_
            have hS : Sep w0 B w (own 3 (.slice none 0 0) (vI ([] : List Int)) :: blk g4 24 #[.int .i64 g1, .int .i64 g2, .slice A1 g3.length c1] :: blk g5 24 #[.int .i64 0, .int .i64 0, .slice none 0 0] :: fs) := hS.nil 3
            have hl4 := (hS.at_ 0 rfl).len1
            have hS := (hS.at_ 0 rfl).reN hl4
            have hS : Sep w0 B w (own 3 (.slice none (([] : List Int).length) 0) (vI ([] : List Int)) :: blk g4 24 #[.int .i64 g1, .int .i64 g2, .slice A1 g3.length c1] :: blk g5 24 #[.int .i64 0, .int .i64 0, .slice none 0 0] :: fs) := hS
            have hld0 := run_loadVarA (P := Try.prog) (t := 24) (cs := #[.int .i64 0, .int .i64 0, .slice none (([] : List Int).length) 0]) (by kernel_rfl) (by kernel_rfl) ((hS.at_ 2 rfl).cellsAt 0 (by rfl))
            have hS := hS.pickN 3 [0] (by decide)
            have hm : some (0, 0, ([] : List Int), 5) = some r := hm
            obtain rfl := Option.some.inj hm
            exact retV (rs := [.cell 6 24, .tmp 7]) (vs := [.agg #[.int .i64 0, .int .i64 0, .slice none (([] : List Int).length) 0], .int .i64 5]) hF rfl (rv_c (by kernel_rfl) hld0 <| rv_t (by kernel_rfl) <| rv_nil) rfl ⟨_, rfl, none, 0, rfl, hS⟩
          · replace hm := if_f hm hb
            refine wp_skip ?_
            refine then_n ?_
            exact ⟨hF.weak [1, 3, 6, 8] (by kernel_rfl), hS, hm⟩
      · refine reg [] [] [1, 3, 6, 8, 29] [pl 1 (.int .i64 column1), pl 3 (.pointer (some ⟨g4, 0, none⟩)), pl 6 (.pointer (some ⟨g5, 0, none⟩)), pl 8 (.int .i64 r2), pl 29 (.bool (decide ((0 : Int) < r3.1)))] hF hS Fol (by kernel_rfl) (by kernel_rfl) (by kernel_rfl) ?_ (fun a w hF hS => ?_)
        · exact obs_nil
        refine cond_ev (t := 29) (b := decide ((0 : Int) < r3.1)) hF (by kernel_rfl) (fun hb => ?_) (fun hb => ?_)
        · replace hm := if_t hm hb
          refine seqR ?_
          refine at_run 1 [] [] [6, 30] [pl 6 (.pointer (some ⟨g5, 0, none⟩)), pl 30 (.agg #[.int .i64 0, .int .i64 0, .slice none 0 0])] hF hS (by kernel_rfl) (by kernel_rfl) ?_ (fun a w hF hS => ?_)
          · exact obs_nil
          obtain ⟨w, hrun, hS⟩ := run_putA (P := Try.prog) (t := 24) (us := #[.int .i64 0, .int .i64 0, .slice none 0 0]) (o := 0) (hS.at_ 2 rfl) (by kernel_rfl) (all_one (by kernel_rfl)) (Nat.le_of_ble_eq_true (by kernel_rfl))
          refine at_skip hF (by kernel_rfl) hrun ?_
          have hS : Sep w0 B w (own 3 (.slice A2 r3.2.length c2) (vI r3.2) :: blk g4 24 #[.int .i64 g1, .int .i64 g2, .slice A1 g3.length c1] :: blk g5 24 #[.int .i64 0, .int .i64 0, .slice none 0 0] :: fs) := hS
          refine at_run 1 [] [] [6, 7] [pl 6 (.pointer (some ⟨g5, 0, none⟩)), pl 7 (.int .i64 9)] hF hS (by kernel_rfl) (by kernel_rfl) ?_ (fun a w hF hS => ?_)
          · exact obs_nil
          refine at_end [6, 7] [pl 6 (.pointer (some ⟨g5, 0, none⟩)), pl 7 (.int .i64 9)] hF rfl (by kernel_rfl) (fun hF => ?_)
          refine then_n ?_
          refine wp_ret ?_
          refine then_r ?_
          have hS : Sep w0 B w (own 3 (.slice none 0 0) (vI ([] : List Int)) :: own 3 (.slice A2 r3.2.length c2) (vI r3.2) :: blk g4 24 #[.int .i64 g1, .int .i64 g2, .slice A1 g3.length c1] :: blk g5 24 #[.int .i64 0, .int .i64 0, .slice none 0 0] :: fs) := hS.nil 3
          have hl3 := (hS.at_ 0 rfl).len1
          have hS := (hS.at_ 0 rfl).reN hl3
          have hS : Sep w0 B w (own 3 (.slice none (([] : List Int).length) 0) (vI ([] : List Int)) :: own 3 (.slice A2 r3.2.length c2) (vI r3.2) :: blk g4 24 #[.int .i64 g1, .int .i64 g2, .slice A1 g3.length c1] :: blk g5 24 #[.int .i64 0, .int .i64 0, .slice none 0 0] :: fs) := hS
          have hld0 := run_loadVarA (P := Try.prog) (t := 24) (cs := #[.int .i64 0, .int .i64 0, .slice none (([] : List Int).length) 0]) (by kernel_rfl) (by kernel_rfl) ((hS.at_ 3 rfl).cellsAt 0 (by rfl))
          have hS := hS.pickN 4 [0] (by decide)
          have hm : some (0, 0, ([] : List Int), 9) = some r := hm
          obtain rfl := Option.some.inj hm
          exact retV (rs := [.cell 6 24, .tmp 7]) (vs := [.agg #[.int .i64 0, .int .i64 0, .slice none (([] : List Int).length) 0], .int .i64 9]) hF rfl (rv_c (by kernel_rfl) hld0 <| rv_t (by kernel_rfl) <| rv_nil) rfl ⟨_, rfl, none, 0, rfl, hS⟩
        · replace hm := if_f hm hb
          refine wp_skip ?_
          refine then_n ?_
          have hS := hS.pickN 3 [1, 2] (by decide)
          exact ⟨hF.weak [1, 3, 6, 8] (by kernel_rfl), hS, hm⟩
    · refine reg [] [] [1, 2, 3, 6, 8, 20] [pl 1 (.int .i64 column1), pl 2 (.int .i64 k1), pl 3 (.pointer (some ⟨g4, 0, none⟩)), pl 6 (.pointer (some ⟨g5, 0, none⟩)), pl 8 (.int .i64 r2), pl 20 (.bool (r2 == 0))] hF hS Fol (by kernel_rfl) (by kernel_rfl) (by kernel_rfl) ?_ (fun a w hF hS => ?_)
      · exact obs_nil
      refine cond_ev (t := 20) (b := (r2 == 0)) hF (by kernel_rfl) (fun hb => ?_) (fun hb => ?_)
      · replace hm := if_t hm hb
        refine seqR ?_
        refine at_run 1 [] [] [6, 21] [pl 6 (.pointer (some ⟨g5, 0, none⟩)), pl 21 (.agg #[.int .i64 0, .int .i64 0, .slice none 0 0])] hF hS (by kernel_rfl) (by kernel_rfl) ?_ (fun a w hF hS => ?_)
        · exact obs_nil
        obtain ⟨w, hrun, hS⟩ := run_putA (P := Try.prog) (t := 24) (us := #[.int .i64 0, .int .i64 0, .slice none 0 0]) (o := 0) (hS.at_ 1 rfl) (by kernel_rfl) (all_one (by kernel_rfl)) (Nat.le_of_ble_eq_true (by kernel_rfl))
        refine at_skip hF (by kernel_rfl) hrun ?_
        have hS : Sep w0 B w (blk g4 24 #[.int .i64 g1, .int .i64 g2, .slice A1 g3.length c1] :: blk g5 24 #[.int .i64 0, .int .i64 0, .slice none 0 0] :: fs) := hS
        refine at_run 1 [] [] [6, 7] [pl 6 (.pointer (some ⟨g5, 0, none⟩)), pl 7 (.int .i64 7)] hF hS (by kernel_rfl) (by kernel_rfl) ?_ (fun a w hF hS => ?_)
        · exact obs_nil
        refine at_end [6, 7] [pl 6 (.pointer (some ⟨g5, 0, none⟩)), pl 7 (.int .i64 7)] hF rfl (by kernel_rfl) (fun hF => ?_)
        refine then_n ?_
        refine wp_ret ?_
        refine then_r ?_
        have hS : Sep w0 B w (own 3 (.slice none 0 0) (vI ([] : List Int)) :: blk g4 24 #[.int .i64 g1, .int .i64 g2, .slice A1 g3.length c1] :: blk g5 24 #[.int .i64 0, .int .i64 0, .slice none 0 0] :: fs) := hS.nil 3
        have hl2 := (hS.at_ 0 rfl).len1
        have hS := (hS.at_ 0 rfl).reN hl2
        have hS : Sep w0 B w (own 3 (.slice none (([] : List Int).length) 0) (vI ([] : List Int)) :: blk g4 24 #[.int .i64 g1, .int .i64 g2, .slice A1 g3.length c1] :: blk g5 24 #[.int .i64 0, .int .i64 0, .slice none 0 0] :: fs) := hS
        have hld0 := run_loadVarA (P := Try.prog) (t := 24) (cs := #[.int .i64 0, .int .i64 0, .slice none (([] : List Int).length) 0]) (by kernel_rfl) (by kernel_rfl) ((hS.at_ 2 rfl).cellsAt 0 (by rfl))
        have hS := hS.pickN 3 [0] (by decide)
        have hm : some (0, 0, ([] : List Int), 7) = some r := hm
        obtain rfl := Option.some.inj hm
        exact retV (rs := [.cell 6 24, .tmp 7]) (vs := [.agg #[.int .i64 0, .int .i64 0, .slice none (([] : List Int).length) 0], .int .i64 7]) hF rfl (rv_c (by kernel_rfl) hld0 <| rv_t (by kernel_rfl) <| rv_nil) rfl ⟨_, rfl, none, 0, rfl, hS⟩
      · replace hm := if_f hm hb
        refine wp_skip ?_
        refine then_n ?_
        exact ⟨hF.weak [1, 2, 3, 6, 8] (by kernel_rfl), hS, hm⟩
  · obtain ⟨r1, hr1, hm⟩ := call_b hm
    refine reg [⟨false, [], callFunc 64 #[.int .i64 k1, .int .i64 1, .int .i64 10], .bool r1⟩] [none, some (.bool r1), none] [1, 2, 3, 6, 15] [pl 1 (.int .i64 column1), pl 2 (.int .i64 k1), pl 3 (.pointer (some ⟨g4, 0, none⟩)), pl 6 (.pointer (some ⟨g5, 0, none⟩)), pl 15 (.bool (!r1))] hF hS Fol (by kernel_rfl) (by kernel_rfl) (by kernel_rfl) ?_ (fun a w hF hS => ?_)
    · exact obs_cons (ob_call Try.func64 (by kernel_rfl) rfl (fun _ _ hS => gameroomref_within_w hr1 hS )) <| obs_nil
    refine cond_ev (t := 15) (b := !r1) hF (by kernel_rfl) (fun hb => ?_) (fun hb => ?_)
    · replace hm := if_t hm hb
      refine seqR ?_
      refine at_run 1 [] [] [6, 16] [pl 6 (.pointer (some ⟨g5, 0, none⟩)), pl 16 (.agg #[.int .i64 0, .int .i64 0, .slice none 0 0])] hF hS (by kernel_rfl) (by kernel_rfl) ?_ (fun a w hF hS => ?_)
      · exact obs_nil
      obtain ⟨w, hrun, hS⟩ := run_putA (P := Try.prog) (t := 24) (us := #[.int .i64 0, .int .i64 0, .slice none 0 0]) (o := 0) (hS.at_ 0 rfl) (by kernel_rfl) (all_one (by kernel_rfl)) (Nat.le_of_ble_eq_true (by kernel_rfl))
      refine at_skip hF (by kernel_rfl) hrun ?_
      have hS : Sep w0 B w (blk g5 24 #[.int .i64 0, .int .i64 0, .slice none 0 0] :: blk g4 24 #[.int .i64 g1, .int .i64 g2, .slice A1 g3.length c1] :: fs) := hS
      refine at_run 1 [] [] [6, 7] [pl 6 (.pointer (some ⟨g5, 0, none⟩)), pl 7 (.int .i64 3)] hF hS (by kernel_rfl) (by kernel_rfl) ?_ (fun a w hF hS => ?_)
      · exact obs_nil
      refine at_end [6, 7] [pl 6 (.pointer (some ⟨g5, 0, none⟩)), pl 7 (.int .i64 3)] hF rfl (by kernel_rfl) (fun hF => ?_)
      refine then_n ?_
      refine wp_ret ?_
      refine then_r ?_
      have hS : Sep w0 B w (own 3 (.slice none 0 0) (vI ([] : List Int)) :: blk g5 24 #[.int .i64 0, .int .i64 0, .slice none 0 0] :: blk g4 24 #[.int .i64 g1, .int .i64 g2, .slice A1 g3.length c1] :: fs) := hS.nil 3
      have hl1 := (hS.at_ 0 rfl).len1
      have hS := (hS.at_ 0 rfl).reN hl1
      have hS : Sep w0 B w (own 3 (.slice none (([] : List Int).length) 0) (vI ([] : List Int)) :: blk g5 24 #[.int .i64 0, .int .i64 0, .slice none 0 0] :: blk g4 24 #[.int .i64 g1, .int .i64 g2, .slice A1 g3.length c1] :: fs) := hS
      have hld0 := run_loadVarA (P := Try.prog) (t := 24) (cs := #[.int .i64 0, .int .i64 0, .slice none (([] : List Int).length) 0]) (by kernel_rfl) (by kernel_rfl) ((hS.at_ 1 rfl).cellsAt 0 (by rfl))
      have hS := hS.pickN 3 [0] (by decide)
      have hm : some (0, 0, ([] : List Int), 3) = some r := hm
      obtain rfl := Option.some.inj hm
      exact retV (rs := [.cell 6 24, .tmp 7]) (vs := [.agg #[.int .i64 0, .int .i64 0, .slice none (([] : List Int).length) 0], .int .i64 3]) hF rfl (rv_c (by kernel_rfl) hld0 <| rv_t (by kernel_rfl) <| rv_nil) rfl ⟨_, rfl, none, 0, rfl, hS⟩
    · replace hm := if_f hm hb
      refine wp_skip ?_
      refine then_n ?_
      have hS := hS.pickN 2 [1, 0] (by decide)
      exact ⟨hF.weak [1, 2, 3, 6] (by kernel_rfl), hS, hm⟩

noncomputable def gameroomref_sameInts_J4 (i1 : Int) : Option (St Int (Fl Unit Bool)) :=
  some (.next (w64 (i1 + 1)))

noncomputable def gameroomref_sameInts_J3 (a1 : List Int) (b1 : List Int) (i1 : Int) : Option (St Int (Fl Unit Bool)) :=
  asrt (0 ≤ i1 ∧ i1 < (a1.length : Int)) <| asrt (0 ≤ i1 ∧ i1 < (b1.length : Int)) <| if ((geti a1 i1) != (geti b1 i1)) then (some (.done (.ret false))) else ((gameroomref_sameInts_J4 i1))

noncomputable def gameroomref_sameInts_J2 : Option Bool :=
  some true

noncomputable def gameroomref_sameInts_K1 : (Fl Unit Bool) → Option Bool :=
  fun (x : (Fl Unit Bool)) => match x with | .go _ => gameroomref_sameInts_J2 | .ret x => some x

noncomputable def gameroomref_sameInts_L1 (a1 : List Int) (b1 : List Int) : Int → Option (St Int (Fl Unit Bool)) :=
  fun (x : Int) => match x with | i1 => if (decide (i1 < (a1.length : Int))) then ((gameroomref_sameInts_J3 a1 b1 i1)) else (some (.done (.go ())))

noncomputable def gameroomref_sameInts_J1 (a1 : List Int) (b1 : List Int) : Option Bool :=
  (loop (gameroomref_sameInts_L1 a1 b1) 0).bind gameroomref_sameInts_K1

noncomputable def gameroomref_sameInts_m (a1 : List Int) (b1 : List Int) : Option Bool :=
  if ((a1.length : Int) != (b1.length : Int)) then (some false) else ((gameroomref_sameInts_J1 a1 b1))

set_option maxRecDepth 100000 in
set_option maxHeartbeats 4000000 in
theorem gameroomref_sameInts_w {A1 : Option Addr} {c1 : Nat} {n1 : Nat} {a1 : List Int} {A2 : Option Addr} {c2 : Nat} {n2 : Nat} {b1 : List Int} {r : Bool} {w0 w : World} {B : Nat} {fs : List HP} (hm : gameroomref_sameInts_m a1 b1 = some r) (hS : Sep w0 B w (fs)) (hr_a1 : RdF w0 B fs A1 (vI a1)) (_hc_a1 : a1.length ≤ c1) (_hn_a1 : n1 = a1.length) (hr_b1 : RdF w0 B fs A2 (vI b1)) (_hc_b1 : b1.length ≤ c2) (_hn_b1 : n2 = b1.length) :
    Calls Try.prog 62 #[.slice A1 n1 c1, .slice A2 n2 c2] w fun e w' => e = .returned (.bool r) ∧ Sep w0 B w' (fs) := by
  obtain ⟨i3, hi3, hz3, hs3, hb3⟩ := info_parts Info3
  obtain rfl := _hn_a1
  obtain rfl := _hn_b1
  unfold gameroomref_sameInts_m at hm
  replace hm := start_b hm
  refine enter (l := [.slice A1 a1.length c1, .slice A2 b1.length c2]) (n := 26) Try.func62 rfl rfl (by simp) (fun a hF => ?_)
  refine reg [] [] [0, 1] [pl 0 (.slice A1 a1.length c1), pl 1 (.slice A2 b1.length c2)] hF hS Fol (by kernel_rfl) (by kernel_rfl) (by kernel_rfl) ?_ (fun a w hF hS => ?_)
  · exact obs_nil
  refine seq_cut (fun a w => Fr 26 [pl 0 (.slice A1 a1.length c1), pl 1 (.slice A2 b1.length c2)] a ∧ Sep w0 B w (fs) ∧ ((gameroomref_sameInts_J1 a1 b1)).bind some = some r) ?_ ?_
  · rintro a w ⟨hF, hS, hm⟩
    unfold gameroomref_sameInts_J1 at hm
    refine seq_cut (fun a w => Fr 26 [] a ∧ Sep w0 B w (fs) ∧ (gameroomref_sameInts_J2).bind some = some r) ?_ ?_
    · rintro a w ⟨hF, hS, hm⟩
      unfold gameroomref_sameInts_J2 at hm
      refine reg [] [] [4] [pl 4 (.bool true)] hF hS Fol (by kernel_rfl) (by kernel_rfl) (by kernel_rfl) ?_ (fun a w hF hS => ?_)
      · exact obs_nil
      refine wp_ret ?_
      have hm : some true = some r := hm
      obtain rfl := Option.some.inj hm
      exact retV (rs := [.tmp 4]) (vs := [.bool true]) hF rfl (rv_t (by kernel_rfl) <| rv_nil) rfl ⟨rfl, hS⟩
    · refine reg [] [] [0, 1, 5] [pl 0 (.slice A1 a1.length c1), pl 1 (.slice A2 b1.length c2), pl 5 (.int .i64 0)] hF hS Fol (by kernel_rfl) (by kernel_rfl) (by kernel_rfl) ?_ (fun a w hF hS => ?_)
      · exact obs_nil
      refine wp_block ?_
      refine wp_loop_model (S := Int) (R := (Fl Unit Bool)) (gameroomref_sameInts_L1 a1 b1) (fun x => (gameroomref_sameInts_K1 x).bind some) r (fun (x : Int) a w => Fr 26 [pl 0 (.slice A1 a1.length c1), pl 1 (.slice A2 b1.length c2), pl 5 (.int .i64 x)] a ∧ Sep w0 B w (fs)) (assoc_b hm) ⟨hF.weak [0, 1, 5] (by kernel_rfl), hS⟩ ?_
      clear hF hS hm
      rintro nn1 i1 a w ⟨hF, hS⟩ hm
      generalize hφ1 : stK (gameroomref_sameInts_L1 a1 b1) nn1 (fun x => (gameroomref_sameInts_K1 x).bind some) = φ1 at hm
      unfold gameroomref_sameInts_L1 at hm
      dsimp only at hm
      refine seq_cut (fun a w => Fr 26 [pl 0 (.slice A1 a1.length c1), pl 1 (.slice A2 b1.length c2), pl 5 (.int .i64 i1)] a ∧ Sep w0 B w (fs) ∧ ((gameroomref_sameInts_J3 a1 b1 i1)).bind φ1 = some r) ?_ ?_
      · rintro a w ⟨hF, hS, hm⟩
        unfold gameroomref_sameInts_J3 at hm
        refine seq_cut (fun a w => Fr 26 [pl 0 (.slice A1 a1.length c1), pl 1 (.slice A2 b1.length c2), pl 5 (.int .i64 i1)] a ∧ Sep w0 B w (fs) ∧ ((gameroomref_sameInts_J4 i1)).bind φ1 = some r) ?_ ?_
        · rintro a w ⟨hF, hS, hm⟩
          unfold gameroomref_sameInts_J4 at hm
          refine reg1 [] [] [0, 1, 5] [pl 0 (.slice A1 a1.length c1), pl 1 (.slice A2 b1.length c2), pl 5 (.int .i64 (w64 (i1 + 1)))] hF hS Fol (by kernel_rfl) (by kernel_rfl) (by kernel_rfl) ?_ (fun a w hF hS => ?_)
          · exact obs_nil
          refine then_n ?_
          rw [← hφ1] at hm
          exact ⟨(w64 (i1 + 1)), ⟨hF.weak [0, 1, 5] (by kernel_rfl), hS⟩, hm⟩
        · refine wp_block ?_
          obtain ⟨hp1, hm⟩ := asrt_b hm
          obtain ⟨hp2, hm⟩ := asrt_b hm
          refine reg [⟨true, [], vS (Instr.indexAt 22 (.slice A1 a1.length c1) (.int .i64 i1)), .pointer (some (sAddr A1 i1))⟩, ⟨false, [], vS (Instr.loadAt 3 (.pointer (some (sAddr A1 i1)))), .int .i64 (geti a1 i1)⟩, ⟨true, [], vS (Instr.indexAt 22 (.slice A2 b1.length c2) (.int .i64 i1)), .pointer (some (sAddr A2 i1))⟩, ⟨false, [], vS (Instr.loadAt 3 (.pointer (some (sAddr A2 i1)))), .int .i64 (geti b1 i1)⟩] [none, none, some (.pointer (some (sAddr A1 i1))), some (.int .i64 (geti a1 i1)), none, none, some (.pointer (some (sAddr A2 i1))), some (.int .i64 (geti b1 i1)), none] [0, 1, 5, 25] [pl 0 (.slice A1 a1.length c1), pl 1 (.slice A2 b1.length c2), pl 5 (.int .i64 i1), pl 25 (.bool ((geti a1 i1) != (geti b1 i1)))] hF hS Fol (by kernel_rfl) (by kernel_rfl) (by kernel_rfl) ?_ (fun a w hF hS => ?_)
          · exact obs_cons (ob_ix1 (f := (Value.int .i64)) (m := a1) Und22 hi3 hs3 (hr_a1 _ (hS.dropN 0)) rfl (fun _ => hp1)) <| obs_cons (ob_get1 (n := a1.length) (m := a1) (Value.int .i64) (0 : Int) Agg3 (fun _ hS => ⟨_, (hr_a1 _ (hS.dropN 0))⟩) (fun _ hS => rfl) (fun _ => hp1)) <| obs_cons (ob_ix1 (f := (Value.int .i64)) (m := b1) Und22 hi3 hs3 (hr_b1 _ (hS.dropN 0)) rfl (fun _ => hp2)) <| obs_cons (ob_get1 (n := b1.length) (m := b1) (Value.int .i64) (0 : Int) Agg3 (fun _ hS => ⟨_, (hr_b1 _ (hS.dropN 0))⟩) (fun _ hS => rfl) (fun _ => hp2)) <| obs_nil
          refine cond_ev (t := 25) (b := ((geti a1 i1) != (geti b1 i1))) hF (by kernel_rfl) (fun hb => ?_) (fun hb => ?_)
          · replace hm := if_t hm hb
            refine reg [] [] [4] [pl 4 (.bool false)] hF hS Fol (by kernel_rfl) (by kernel_rfl) (by kernel_rfl) ?_ (fun a w hF hS => ?_)
            · exact obs_nil
            refine wp_ret ?_
            refine block_r (then_r (then_r (block_r (then_r ?_))))
            rw [← hφ1] at hm
            replace hm := done_b hm
            unfold gameroomref_sameInts_K1 at hm
            try dsimp only at hm
            have hm : some false = some r := hm
            obtain rfl := Option.some.inj hm
            exact retV (rs := [.tmp 4]) (vs := [.bool false]) hF rfl (rv_t (by kernel_rfl) <| rv_nil) rfl ⟨rfl, hS⟩
          · replace hm := if_f hm hb
            refine wp_skip ?_
            refine block_n ?_
            refine then_n ?_
            exact ⟨hF.weak [0, 1, 5] (by kernel_rfl), hS, hm⟩
      · refine reg [] [] [0, 1, 5, 14] [pl 0 (.slice A1 a1.length c1), pl 1 (.slice A2 b1.length c2), pl 5 (.int .i64 i1), pl 14 (.bool (decide (i1 < (a1.length : Int))))] hF hS Fol (by kernel_rfl) (by kernel_rfl) (by kernel_rfl) ?_ (fun a w hF hS => ?_)
        · exact obs_nil
        refine cond_ev (t := 14) (b := decide (i1 < (a1.length : Int))) hF (by kernel_rfl) (fun hb => ?_) (fun hb => ?_)
        · replace hm := if_t hm hb
          refine wp_skip ?_
          refine then_n ?_
          exact ⟨hF.weak [0, 1, 5] (by kernel_rfl), hS, hm⟩
        · replace hm := if_f hm hb
          refine wp_exit ?_
          refine then_e (then_e (block_e (then_n ?_)))
          rw [← hφ1] at hm
          replace hm := done_b hm
          unfold gameroomref_sameInts_K1 at hm
          try dsimp only at hm
          have hm : (gameroomref_sameInts_J2).bind some = some r := hm
          exact ⟨hF.weak [] (by kernel_rfl), hS, hm⟩
  · refine reg [] [] [0, 1, 10] [pl 0 (.slice A1 a1.length c1), pl 1 (.slice A2 b1.length c2), pl 10 (.bool ((a1.length : Int) != (b1.length : Int)))] hF hS Fol (by kernel_rfl) (by kernel_rfl) (by kernel_rfl) ?_ (fun a w hF hS => ?_)
    · exact obs_nil
    refine cond_ev (t := 10) (b := ((a1.length : Int) != (b1.length : Int))) hF (by kernel_rfl) (fun hb => ?_) (fun hb => ?_)
    · replace hm := if_t hm hb
      refine reg [] [] [4] [pl 4 (.bool false)] hF hS Fol (by kernel_rfl) (by kernel_rfl) (by kernel_rfl) ?_ (fun a w hF hS => ?_)
      · exact obs_nil
      refine wp_ret ?_
      refine then_r ?_
      have hm : some false = some r := hm
      obtain rfl := Option.some.inj hm
      exact retV (rs := [.tmp 4]) (vs := [.bool false]) hF rfl (rv_t (by kernel_rfl) <| rv_nil) rfl ⟨rfl, hS⟩
    · replace hm := if_f hm hb
      refine wp_skip ?_
      refine then_n ?_
      exact ⟨hF.weak [0, 1] (by kernel_rfl), hS, hm⟩

noncomputable def gameroomref_SameGrid_m (a1 : Int) (a2 : Int) (a3 : List Int) (b1 : Int) (b2 : Int) (b3 : List Int) : Option Bool :=
  ((if ((a1 == b1) && (a2 == b2)) then gameroomref_sameInts_m a3 b3 else some false)).bind fun r1 => some (((a1 == b1) && (a2 == b2)) && r1)

set_option maxRecDepth 100000 in
set_option maxHeartbeats 4000000 in
theorem gameroomref_SameGrid_w {a1 : Int} {a2 : Int} {A1 : Option Addr} {c1 : Nat} {n1 : Nat} {a3 : List Int} {b1 : Int} {b2 : Int} {A2 : Option Addr} {c2 : Nat} {n2 : Nat} {b3 : List Int} {r : Bool} {w0 w : World} {B : Nat} {fs : List HP} (hm : gameroomref_SameGrid_m a1 a2 a3 b1 b2 b3 = some r) (hS : Sep w0 B w (fs)) (hr_a3 : RdF w0 B fs A1 (vI a3)) (_hc_a3 : a3.length ≤ c1) (_hn_a3 : n1 = a3.length) (hr_b3 : RdF w0 B fs A2 (vI b3)) (_hc_b3 : b3.length ≤ c2) (_hn_b3 : n2 = b3.length) :
    Calls Try.prog 17 #[.agg #[.int .i64 a1, .int .i64 a2, .slice A1 n1 c1], .agg #[.int .i64 b1, .int .i64 b2, .slice A2 n2 c2]] w fun e w' => e = .returned (.bool r) ∧ Sep w0 B w' (fs) := by
  obtain ⟨i3, hi3, hz3, hs3, hb3⟩ := info_parts Info3
  obtain rfl := _hn_a3
  obtain rfl := _hn_b3
  unfold gameroomref_SameGrid_m at hm
  replace hm := start_b hm
  refine enter (l := [.agg #[.int .i64 a1, .int .i64 a2, .slice A1 a3.length c1], .agg #[.int .i64 b1, .int .i64 b2, .slice A2 b3.length c2]]) (n := 24) Try.func17 rfl rfl (by simp) (fun a hF => ?_)
  refine seqR ?_
  refine at_do (d := 2) (s := vS (Instr.box 24 (.agg #[.int .i64 a1, .int .i64 a2, .slice A1 a3.length c1]))) (v := .pointer (some ⟨w.heap.size, 0, none⟩)) (w' := w.alloc (.cells #[.int .i64 a1, .int .i64 a2, .slice A1 a3.length c1] 24)) hF (by kernel_rfl) (by kernel_rfl) (by kernel_rfl) (fun a hF => ?_)
  have hS : Sep w0 B (w.alloc (.cells #[.int .i64 a1, .int .i64 a2, .slice A1 a3.length c1] 24)) (blk w.heap.size 24 #[.int .i64 a1, .int .i64 a2, .slice A1 a3.length c1] :: (fs)) := hS.box 24 #[.int .i64 a1, .int .i64 a2, .slice A1 a3.length c1]
  generalize w.heap.size = g1 at hF hS
  generalize w.alloc (.cells #[.int .i64 a1, .int .i64 a2, .slice A1 a3.length c1] 24) = w at hS ⊢
  refine at_do (d := 3) (s := vS (Instr.box 24 (.agg #[.int .i64 b1, .int .i64 b2, .slice A2 b3.length c2]))) (v := .pointer (some ⟨w.heap.size, 0, none⟩)) (w' := w.alloc (.cells #[.int .i64 b1, .int .i64 b2, .slice A2 b3.length c2] 24)) hF (by kernel_rfl) (by kernel_rfl) (by kernel_rfl) (fun a hF => ?_)
  have hS : Sep w0 B (w.alloc (.cells #[.int .i64 b1, .int .i64 b2, .slice A2 b3.length c2] 24)) (blk w.heap.size 24 #[.int .i64 b1, .int .i64 b2, .slice A2 b3.length c2] :: (blk g1 24 #[.int .i64 a1, .int .i64 a2, .slice A1 a3.length c1] :: fs)) := hS.box 24 #[.int .i64 b1, .int .i64 b2, .slice A2 b3.length c2]
  generalize w.heap.size = g2 at hF hS
  generalize w.alloc (.cells #[.int .i64 b1, .int .i64 b2, .slice A2 b3.length c2] 24) = w at hS ⊢
  refine at_run 1 [] [] [2, 3] [pl 2 (.pointer (some ⟨g1, 0, none⟩)), pl 3 (.pointer (some ⟨g2, 0, none⟩))] hF hS (by kernel_rfl) (by kernel_rfl) ?_ (fun a w hF hS => ?_)
  · exact obs_nil
  refine at_end [2, 3] [pl 2 (.pointer (some ⟨g1, 0, none⟩)), pl 3 (.pointer (some ⟨g2, 0, none⟩))] hF rfl (by kernel_rfl) (fun hF => ?_)
  refine then_n ?_
  obtain ⟨r1, hr1, hm⟩ := call_b hm
  refine reg [⟨false, [], vS (Instr.loadAt 3 (.pointer (some ⟨g1, 0, none⟩))), .int .i64 a1⟩, ⟨false, [], vS (Instr.loadAt 3 (.pointer (some ⟨g2, 0, none⟩))), .int .i64 b1⟩, ⟨false, [((a1 == b1), true)], vS (Instr.loadAt 3 (.pointer (some ⟨g1, 1, none⟩))), .int .i64 a2⟩, ⟨false, [((a1 == b1), true)], vS (Instr.loadAt 3 (.pointer (some ⟨g2, 1, none⟩))), .int .i64 b2⟩, ⟨false, [((a1 == b1) && (a2 == b2), true)], vS (Instr.loadAt 22 (.pointer (some ⟨g1, 2, none⟩))), .slice A1 a3.length c1⟩, ⟨false, [((a1 == b1) && (a2 == b2), true)], vS (Instr.loadAt 22 (.pointer (some ⟨g2, 2, none⟩))), .slice A2 b3.length c2⟩, ⟨false, [((a1 == b1) && (a2 == b2), true)], callFunc 62 #[.slice A1 a3.length c1, .slice A2 b3.length c2], .bool r1⟩] [none, some (.int .i64 a1), none, some (.int .i64 b1), none, none, none, some (.int .i64 a2), none, some (.int .i64 b2), none, none, none, none, some (.slice A1 a3.length c1), none, some (.slice A2 b3.length c2), some (.bool r1), none, none] [4] [pl 4 (.bool (((a1 == b1) && (a2 == b2)) && r1))] hF hS Fol (by kernel_rfl) (by kernel_rfl) (by kernel_rfl) ?_ (fun a w hF hS => ?_)
  · exact obs_cons (ob_load Agg3 (fun _ _ hS => (hS.at_ 1 rfl).cell rfl)) <| obs_cons (ob_load Agg3 (fun _ _ hS => (hS.at_ 0 rfl).cell rfl)) <| obs_cons (ob_load Agg3 (fun _ _ hS => (hS.at_ 1 rfl).cell rfl)) <| obs_cons (ob_load Agg3 (fun _ _ hS => (hS.at_ 0 rfl).cell rfl)) <| obs_cons (ob_load Agg22 (fun _ _ hS => (hS.at_ 1 rfl).cell rfl)) <| obs_cons (ob_load Agg22 (fun _ _ hS => (hS.at_ 0 rfl).cell rfl)) <| obs_cons (ob_call Try.func62 (by kernel_rfl) rfl (fun hy _ hS => gameroomref_sameInts_w (ite_some hr1 (by rw [show ((a1 == b1) && (a2 == b2)) = true from hy ((a1 == b1) && (a2 == b2), true) (by simp)]; try rfl)) hS (fun _ hS => (hr_a3 _ (hS.dropN 2))) _hc_a3 rfl (fun _ hS => (hr_b3 _ (hS.dropN 2))) _hc_b3 rfl)) <| obs_nil
  refine wp_ret ?_
  have hS := hS.pickN 2 [] (by decide)
  have hm : some (((a1 == b1) && (a2 == b2)) && r1) = some r := hm
  obtain rfl := Option.some.inj hm
  exact retV (rs := [.tmp 4]) (vs := [.bool (((a1 == b1) && (a2 == b2)) && r1)]) hF rfl (rv_t (by kernel_rfl) <| rv_nil) rfl ⟨rfl, hS⟩

noncomputable def gameroomref_at_J3 (i1 : Int) : Option (St Int (Fl Unit Int)) :=
  some (.next (w64 (i1 + 1)))

noncomputable def gameroomref_at_J2 (l1 : List Int) (n2 : Int) (i1 : Int) : Option (St Int (Fl Unit Int)) :=
  asrt (0 ≤ i1 ∧ i1 < (l1.length : Int)) <| if ((geti l1 i1) == n2) then (some (.done (.ret i1))) else ((gameroomref_at_J3 i1))

noncomputable def gameroomref_at_J1 : Option Int :=
  some (-1)

noncomputable def gameroomref_at_K1 : (Fl Unit Int) → Option Int :=
  fun (x : (Fl Unit Int)) => match x with | .go _ => gameroomref_at_J1 | .ret x => some x

noncomputable def gameroomref_at_L1 (l1 : List Int) (n2 : Int) : Int → Option (St Int (Fl Unit Int)) :=
  fun (x : Int) => match x with | i1 => if (decide (i1 < (l1.length : Int))) then ((gameroomref_at_J2 l1 n2 i1)) else (some (.done (.go ())))

noncomputable def gameroomref_at_m (l1 : List Int) (n2 : Int) : Option Int :=
  (loop (gameroomref_at_L1 l1 n2) 0).bind gameroomref_at_K1

set_option maxRecDepth 100000 in
set_option maxHeartbeats 4000000 in
theorem gameroomref_at_w {A1 : Option Addr} {c1 : Nat} {n1 : Nat} {l1 : List Int} {n2 : Int} {r : Int} {w0 w : World} {B : Nat} {fs : List HP} (hm : gameroomref_at_m l1 n2 = some r) (hS : Sep w0 B w (fs)) (hr_l1 : RdF w0 B fs A1 (vI l1)) (_hc_l1 : l1.length ≤ c1) (_hn_l1 : n1 = l1.length) :
    Calls Try.prog 81 #[.slice A1 n1 c1, .int .i64 n2] w fun e w' => e = .returned (.int .i64 r) ∧ Sep w0 B w' (fs) := by
  obtain ⟨i3, hi3, hz3, hs3, hb3⟩ := info_parts Info3
  obtain rfl := _hn_l1
  unfold gameroomref_at_m at hm
  replace hm := start_b hm
  refine enter (l := [.slice A1 l1.length c1, .int .i64 n2]) (n := 19) Try.func81 rfl rfl (by simp) (fun a hF => ?_)
  refine reg [] [] [0, 1] [pl 0 (.slice A1 l1.length c1), pl 1 (.int .i64 n2)] hF hS Fol (by kernel_rfl) (by kernel_rfl) (by kernel_rfl) ?_ (fun a w hF hS => ?_)
  · exact obs_nil
  refine seq_cut (fun a w => Fr 19 [] a ∧ Sep w0 B w (fs) ∧ (gameroomref_at_J1).bind some = some r) ?_ ?_
  · rintro a w ⟨hF, hS, hm⟩
    unfold gameroomref_at_J1 at hm
    refine reg [] [] [4] [pl 4 (.int .i64 (-1))] hF hS Fol (by kernel_rfl) (by kernel_rfl) (by kernel_rfl) ?_ (fun a w hF hS => ?_)
    · exact obs_nil
    refine wp_ret ?_
    have hm : some (-1) = some r := hm
    obtain rfl := Option.some.inj hm
    exact retV (rs := [.tmp 4]) (vs := [.int .i64 (-1)]) hF rfl (rv_t (by kernel_rfl) <| rv_nil) rfl ⟨rfl, hS⟩
  · refine reg [] [] [0, 1, 5] [pl 0 (.slice A1 l1.length c1), pl 1 (.int .i64 n2), pl 5 (.int .i64 0)] hF hS Fol (by kernel_rfl) (by kernel_rfl) (by kernel_rfl) ?_ (fun a w hF hS => ?_)
    · exact obs_nil
    refine wp_block ?_
    refine wp_loop_model (S := Int) (R := (Fl Unit Int)) (gameroomref_at_L1 l1 n2) (fun x => (gameroomref_at_K1 x).bind some) r (fun (x : Int) a w => Fr 19 [pl 0 (.slice A1 l1.length c1), pl 1 (.int .i64 n2), pl 5 (.int .i64 x)] a ∧ Sep w0 B w (fs)) (assoc_b hm) ⟨hF.weak [0, 1, 5] (by kernel_rfl), hS⟩ ?_
    clear hF hS hm
    rintro nn1 i1 a w ⟨hF, hS⟩ hm
    generalize hφ1 : stK (gameroomref_at_L1 l1 n2) nn1 (fun x => (gameroomref_at_K1 x).bind some) = φ1 at hm
    unfold gameroomref_at_L1 at hm
    dsimp only at hm
    refine seq_cut (fun a w => Fr 19 [pl 0 (.slice A1 l1.length c1), pl 1 (.int .i64 n2), pl 5 (.int .i64 i1)] a ∧ Sep w0 B w (fs) ∧ ((gameroomref_at_J2 l1 n2 i1)).bind φ1 = some r) ?_ ?_
    · rintro a w ⟨hF, hS, hm⟩
      unfold gameroomref_at_J2 at hm
      refine seq_cut (fun a w => Fr 19 [pl 0 (.slice A1 l1.length c1), pl 1 (.int .i64 n2), pl 5 (.int .i64 i1)] a ∧ Sep w0 B w (fs) ∧ ((gameroomref_at_J3 i1)).bind φ1 = some r) ?_ ?_
      · rintro a w ⟨hF, hS, hm⟩
        unfold gameroomref_at_J3 at hm
        refine reg1 [] [] [0, 1, 5] [pl 0 (.slice A1 l1.length c1), pl 1 (.int .i64 n2), pl 5 (.int .i64 (w64 (i1 + 1)))] hF hS Fol (by kernel_rfl) (by kernel_rfl) (by kernel_rfl) ?_ (fun a w hF hS => ?_)
        · exact obs_nil
        refine then_n ?_
        rw [← hφ1] at hm
        exact ⟨(w64 (i1 + 1)), ⟨hF.weak [0, 1, 5] (by kernel_rfl), hS⟩, hm⟩
      · refine wp_block ?_
        obtain ⟨hp1, hm⟩ := asrt_b hm
        refine reg [⟨true, [], vS (Instr.indexAt 22 (.slice A1 l1.length c1) (.int .i64 i1)), .pointer (some (sAddr A1 i1))⟩, ⟨false, [], vS (Instr.loadAt 3 (.pointer (some (sAddr A1 i1)))), .int .i64 (geti l1 i1)⟩] [none, none, some (.pointer (some (sAddr A1 i1))), some (.int .i64 (geti l1 i1)), none, none] [0, 1, 5, 17] [pl 0 (.slice A1 l1.length c1), pl 1 (.int .i64 n2), pl 5 (.int .i64 i1), pl 17 (.bool ((geti l1 i1) == n2))] hF hS Fol (by kernel_rfl) (by kernel_rfl) (by kernel_rfl) ?_ (fun a w hF hS => ?_)
        · exact obs_cons (ob_ix1 (f := (Value.int .i64)) (m := l1) Und22 hi3 hs3 (hr_l1 _ (hS.dropN 0)) rfl (fun _ => hp1)) <| obs_cons (ob_get1 (n := l1.length) (m := l1) (Value.int .i64) (0 : Int) Agg3 (fun _ hS => ⟨_, (hr_l1 _ (hS.dropN 0))⟩) (fun _ hS => rfl) (fun _ => hp1)) <| obs_nil
        refine cond_ev (t := 17) (b := ((geti l1 i1) == n2)) hF (by kernel_rfl) (fun hb => ?_) (fun hb => ?_)
        · replace hm := if_t hm hb
          refine reg [] [] [4] [pl 4 (.int .i64 i1)] hF hS Fol (by kernel_rfl) (by kernel_rfl) (by kernel_rfl) ?_ (fun a w hF hS => ?_)
          · exact obs_nil
          refine wp_ret ?_
          refine block_r (then_r (then_r (block_r (then_r ?_))))
          rw [← hφ1] at hm
          replace hm := done_b hm
          unfold gameroomref_at_K1 at hm
          try dsimp only at hm
          have hm : some i1 = some r := hm
          obtain rfl := Option.some.inj hm
          exact retV (rs := [.tmp 4]) (vs := [.int .i64 i1]) hF rfl (rv_t (by kernel_rfl) <| rv_nil) rfl ⟨rfl, hS⟩
        · replace hm := if_f hm hb
          refine wp_skip ?_
          refine block_n ?_
          refine then_n ?_
          exact ⟨hF.weak [0, 1, 5] (by kernel_rfl), hS, hm⟩
    · refine reg [] [] [0, 1, 5, 9] [pl 0 (.slice A1 l1.length c1), pl 1 (.int .i64 n2), pl 5 (.int .i64 i1), pl 9 (.bool (decide (i1 < (l1.length : Int))))] hF hS Fol (by kernel_rfl) (by kernel_rfl) (by kernel_rfl) ?_ (fun a w hF hS => ?_)
      · exact obs_nil
      refine cond_ev (t := 9) (b := decide (i1 < (l1.length : Int))) hF (by kernel_rfl) (fun hb => ?_) (fun hb => ?_)
      · replace hm := if_t hm hb
        refine wp_skip ?_
        refine then_n ?_
        exact ⟨hF.weak [0, 1, 5] (by kernel_rfl), hS, hm⟩
      · replace hm := if_f hm hb
        refine wp_exit ?_
        refine then_e (then_e (block_e (then_n ?_)))
        rw [← hφ1] at hm
        replace hm := done_b hm
        unfold gameroomref_at_K1 at hm
        try dsimp only at hm
        have hm : (gameroomref_at_J1).bind some = some r := hm
        exact ⟨hF.weak [] (by kernel_rfl), hS, hm⟩

noncomputable def gameroomref_ThreatsOf_J3 (i1 : Int) (l3 : List Int) : Option (St (List Int × Int) (List Int)) :=
  some (.next (l3, (w64 (i1 + 1))))

noncomputable def gameroomref_ThreatsOf_J4 (g1 : Int) (g2 : Int) (g3 : List Int) (who1 : Int) (k1 : Int) (l1 : List Int) (i1 : Int) : Option (St (List Int × Int) (List Int)) :=
  (gameroomref_GridOf_m g1 g2 g3).bind fun r1 => asrt (0 ≤ i1 ∧ i1 < (r1.2.2.length : Int)) <| (gameroomref_WonOf_m r1.1 r1.2.1 (r1.2.2.set (Int.toNat i1) who1) k1).bind fun r2 => (gameroomref_at_m r2.2 i1).bind fun r3 => if (decide ((0 : Int) ≤ r3)) then (asrt ((l1.length : Int) + 1 ≤ bigN) <| (gameroomref_ThreatsOf_J3 i1) (l1 ++ ([i1] : List Int))) else ((gameroomref_ThreatsOf_J3 i1) l1)

noncomputable def gameroomref_ThreatsOf_J2 (g1 : Int) (g2 : Int) (g3 : List Int) (who1 : Int) (k1 : Int) (l1 : List Int) (i1 : Int) : Option (St (List Int × Int) (List Int)) :=
  asrt (0 ≤ i1 ∧ i1 < (g3.length : Int)) <| if ((geti g3 i1) != 0) then ((gameroomref_ThreatsOf_J3 i1) l1) else ((gameroomref_ThreatsOf_J4 g1 g2 g3 who1 k1 l1 i1))

noncomputable def gameroomref_ThreatsOf_J1 (l2 : List Int) : Option (List Int) :=
  some l2

noncomputable def gameroomref_ThreatsOf_K1 : (List Int) → Option (List Int) :=
  fun (x : (List Int)) => match x with | l2 => gameroomref_ThreatsOf_J1 l2

noncomputable def gameroomref_ThreatsOf_L1 (g1 : Int) (g2 : Int) (g3 : List Int) (who1 : Int) (k1 : Int) : (List Int × Int) → Option (St (List Int × Int) (List Int)) :=
  fun (x : (List Int × Int)) => match x with | (l1, i1) => if (decide (i1 < (g3.length : Int))) then ((gameroomref_ThreatsOf_J2 g1 g2 g3 who1 k1 l1 i1)) else (some (.done l1))

noncomputable def gameroomref_ThreatsOf_m (g1 : Int) (g2 : Int) (g3 : List Int) (who1 : Int) (k1 : Int) : Option (List Int) :=
  (loop (gameroomref_ThreatsOf_L1 g1 g2 g3 who1 k1) (([] : List Int), 0)).bind gameroomref_ThreatsOf_K1

set_option maxRecDepth 100000 in
set_option maxHeartbeats 4000000 in
theorem gameroomref_ThreatsOf_w {g1 : Int} {g2 : Int} {A1 : Option Addr} {c1 : Nat} {n1 : Nat} {g3 : List Int} {who1 : Int} {k1 : Int} {r : (List Int)} {w0 w : World} {B : Nat} {fs : List HP} (hm : gameroomref_ThreatsOf_m g1 g2 g3 who1 k1 = some r) (hS : Sep w0 B w (fs)) (hr_g3 : RdF w0 B fs A1 (vI g3)) (_hc_g3 : g3.length ≤ c1) (_hn_g3 : n1 = g3.length) :
    Calls Try.prog 33 #[.agg #[.int .i64 g1, .int .i64 g2, .slice A1 n1 c1], .int .i64 who1, .int .i64 k1] w fun e w' => ∃ v, e = .returned v ∧ ∃ (A8 : Option Addr) (c8 : Nat), v = .slice A8 r.length c8 ∧ Sep w0 B w' (own 3 (.slice A8 r.length c8) (vI r) :: fs) := by
  obtain ⟨i3, hi3, hz3, hs3, hb3⟩ := info_parts Info3
  obtain rfl := _hn_g3
  unfold gameroomref_ThreatsOf_m at hm
  replace hm := start_b hm
  refine enter (l := [.agg #[.int .i64 g1, .int .i64 g2, .slice A1 g3.length c1], .int .i64 who1, .int .i64 k1]) (n := 47) Try.func33 rfl rfl (by simp) (fun a hF => ?_)
  refine seqR ?_
  refine at_do (d := 3) (s := vS (Instr.box 24 (.agg #[.int .i64 g1, .int .i64 g2, .slice A1 g3.length c1]))) (v := .pointer (some ⟨w.heap.size, 0, none⟩)) (w' := w.alloc (.cells #[.int .i64 g1, .int .i64 g2, .slice A1 g3.length c1] 24)) hF (by kernel_rfl) (by kernel_rfl) (by kernel_rfl) (fun a hF => ?_)
  have hS : Sep w0 B (w.alloc (.cells #[.int .i64 g1, .int .i64 g2, .slice A1 g3.length c1] 24)) (blk w.heap.size 24 #[.int .i64 g1, .int .i64 g2, .slice A1 g3.length c1] :: (fs)) := hS.box 24 #[.int .i64 g1, .int .i64 g2, .slice A1 g3.length c1]
  generalize w.heap.size = g4 at hF hS
  generalize w.alloc (.cells #[.int .i64 g1, .int .i64 g2, .slice A1 g3.length c1] 24) = w at hS ⊢
  refine at_run 1 [] [] [1, 2, 3] [pl 1 (.int .i64 who1), pl 2 (.int .i64 k1), pl 3 (.pointer (some ⟨g4, 0, none⟩))] hF hS (by kernel_rfl) (by kernel_rfl) ?_ (fun a w hF hS => ?_)
  · exact obs_nil
  refine at_end [1, 2, 3] [pl 1 (.int .i64 who1), pl 2 (.int .i64 k1), pl 3 (.pointer (some ⟨g4, 0, none⟩))] hF rfl (by kernel_rfl) (fun hF => ?_)
  refine then_n ?_
  refine reg [] [] [1, 2, 3, 7] [pl 1 (.int .i64 who1), pl 2 (.int .i64 k1), pl 3 (.pointer (some ⟨g4, 0, none⟩)), pl 7 (.slice none 0 0)] hF hS Fol (by kernel_rfl) (by kernel_rfl) (by kernel_rfl) ?_ (fun a w hF hS => ?_)
  · exact obs_nil
  refine seq_cut (fun a w => ∃ (l2 : List Int) (A3 : Option Addr) (c3 : Nat), Fr 47 [pl 7 (.slice A3 l2.length c3)] a ∧ Sep w0 B w (own 3 (.slice A3 l2.length c3) (vI l2) :: fs) ∧ (gameroomref_ThreatsOf_J1 l2).bind some = some r) ?_ ?_
  · rintro a w ⟨l2, A3, c3, hF, hS, hm⟩
    unfold gameroomref_ThreatsOf_J1 at hm
    refine reg [] [] [6] [pl 6 (.slice A3 l2.length c3)] hF hS Fol (by kernel_rfl) (by kernel_rfl) (by kernel_rfl) ?_ (fun a w hF hS => ?_)
    · exact obs_nil
    refine wp_ret ?_
    have hm : some l2 = some r := hm
    obtain rfl := Option.some.inj hm
    exact retV (rs := [.tmp 6]) (vs := [.slice A3 l2.length c3]) hF rfl (rv_t (by kernel_rfl) <| rv_nil) rfl ⟨_, rfl, A3, c3, rfl, hS⟩
  · refine reg [] [] [1, 2, 3, 7, 8] [pl 1 (.int .i64 who1), pl 2 (.int .i64 k1), pl 3 (.pointer (some ⟨g4, 0, none⟩)), pl 7 (.slice none 0 0), pl 8 (.int .i64 0)] hF hS Fol (by kernel_rfl) (by kernel_rfl) (by kernel_rfl) ?_ (fun a w hF hS => ?_)
    · exact obs_nil
    refine wp_block ?_
    have hS : Sep w0 B w (own 3 (.slice none 0 0) (vI ([] : List Int)) :: blk g4 24 #[.int .i64 g1, .int .i64 g2, .slice A1 g3.length c1] :: fs) := hS.nil 3
    have hl1 := (hS.at_ 0 rfl).len1
    have hS := (hS.at_ 0 rfl).reN hl1
    have hS : Sep w0 B w (own 3 (.slice none (([] : List Int).length) 0) (vI ([] : List Int)) :: blk g4 24 #[.int .i64 g1, .int .i64 g2, .slice A1 g3.length c1] :: fs) := hS
    have hF := hF.cast (t := 7) (v := .slice none 0 0) (v' := .slice none (([] : List Int).length) 0) rfl rfl (congrArg (fun k => Value.slice none k 0) hl1)
    have hS := hS.pickN 2 [1, 0] (by decide)
    refine wp_loop_model (S := (List Int × Int)) (R := (List Int)) (gameroomref_ThreatsOf_L1 g1 g2 g3 who1 k1) (fun x => (gameroomref_ThreatsOf_K1 x).bind some) r (fun (x : (List Int × Int)) a w => ∃ (A2 : Option Addr) (c2 : Nat), Fr 47 [pl 1 (.int .i64 who1), pl 2 (.int .i64 k1), pl 3 (.pointer (some ⟨g4, 0, none⟩)), pl 7 (.slice A2 x.1.length c2), pl 8 (.int .i64 x.2)] a ∧ Sep w0 B w (blk g4 24 #[.int .i64 g1, .int .i64 g2, .slice A1 g3.length c1] :: own 3 (.slice A2 x.1.length c2) (vI x.1) :: fs)) (assoc_b hm) ⟨none, 0, hF.weak [1, 2, 3, 7, 8] (by kernel_rfl), hS⟩ ?_
    clear hF hS hm
    rintro nn1 ⟨l1, i1⟩ a w ⟨A2, c2, hF, hS⟩ hm
    generalize hφ1 : stK (gameroomref_ThreatsOf_L1 g1 g2 g3 who1 k1) nn1 (fun x => (gameroomref_ThreatsOf_K1 x).bind some) = φ1 at hm
    unfold gameroomref_ThreatsOf_L1 at hm
    dsimp only at hF hS hm
    refine seq_cut (fun a w => Fr 47 [pl 1 (.int .i64 who1), pl 2 (.int .i64 k1), pl 3 (.pointer (some ⟨g4, 0, none⟩)), pl 7 (.slice A2 l1.length c2), pl 8 (.int .i64 i1)] a ∧ Sep w0 B w (blk g4 24 #[.int .i64 g1, .int .i64 g2, .slice A1 g3.length c1] :: own 3 (.slice A2 l1.length c2) (vI l1) :: fs) ∧ ((gameroomref_ThreatsOf_J2 g1 g2 g3 who1 k1 l1 i1)).bind φ1 = some r) ?_ ?_
    · rintro a w ⟨hF, hS, hm⟩
      unfold gameroomref_ThreatsOf_J2 at hm
      refine seq_cut (fun a w => ∃ (l3 : List Int) (A4 : Option Addr) (c4 : Nat), Fr 47 [pl 1 (.int .i64 who1), pl 2 (.int .i64 k1), pl 3 (.pointer (some ⟨g4, 0, none⟩)), pl 7 (.slice A4 l3.length c4), pl 8 (.int .i64 i1)] a ∧ Sep w0 B w (blk g4 24 #[.int .i64 g1, .int .i64 g2, .slice A1 g3.length c1] :: own 3 (.slice A4 l3.length c4) (vI l3) :: fs) ∧ ((gameroomref_ThreatsOf_J3 i1) l3).bind φ1 = some r) ?_ ?_
      · rintro a w ⟨l3, A4, c4, hF, hS, hm⟩
        unfold gameroomref_ThreatsOf_J3 at hm
        refine reg1 [] [] [1, 2, 3, 7, 8] [pl 1 (.int .i64 who1), pl 2 (.int .i64 k1), pl 3 (.pointer (some ⟨g4, 0, none⟩)), pl 7 (.slice A4 l3.length c4), pl 8 (.int .i64 (w64 (i1 + 1)))] hF hS Fol (by kernel_rfl) (by kernel_rfl) (by kernel_rfl) ?_ (fun a w hF hS => ?_)
        · exact obs_nil
        refine then_n ?_
        rw [← hφ1] at hm
        exact ⟨(l3, (w64 (i1 + 1))), ⟨A4, c4, hF.weak [1, 2, 3, 7, 8] (by kernel_rfl), hS⟩, hm⟩
      · refine wp_block ?_
        refine seq_cut (fun a w => Fr 47 [pl 1 (.int .i64 who1), pl 2 (.int .i64 k1), pl 3 (.pointer (some ⟨g4, 0, none⟩)), pl 7 (.slice A2 l1.length c2), pl 8 (.int .i64 i1)] a ∧ Sep w0 B w (blk g4 24 #[.int .i64 g1, .int .i64 g2, .slice A1 g3.length c1] :: own 3 (.slice A2 l1.length c2) (vI l1) :: fs) ∧ ((gameroomref_ThreatsOf_J4 g1 g2 g3 who1 k1 l1 i1)).bind φ1 = some r) ?_ ?_
        · rintro a w ⟨hF, hS, hm⟩
          unfold gameroomref_ThreatsOf_J4 at hm
          refine seqR ?_
          obtain ⟨r1, hr1, hm⟩ := call_b hm
          refine at_run 1 [⟨false, [], vS (Instr.loadAt 24 (.pointer (some ⟨g4, 0, none⟩))), .agg #[.int .i64 g1, .int .i64 g2, .slice A1 g3.length c1]⟩] [some (.agg #[.int .i64 g1, .int .i64 g2, .slice A1 g3.length c1])] [1, 2, 3, 7, 8, 25] [pl 1 (.int .i64 who1), pl 2 (.int .i64 k1), pl 3 (.pointer (some ⟨g4, 0, none⟩)), pl 7 (.slice A2 l1.length c2), pl 8 (.int .i64 i1), pl 25 (.agg #[.int .i64 g1, .int .i64 g2, .slice A1 g3.length c1])] hF hS (by kernel_rfl) (by kernel_rfl) ?_ (fun a w hF hS => ?_)
          · exact obs_cons (ob_loadA (cs := #[.int .i64 g1, .int .i64 g2, .slice A1 g3.length c1]) (by kernel_rfl) (by kernel_rfl) (fun _ _ hS => (hS.at_ 0 rfl).cellsAt 0 (by rfl))) <| obs_nil
          refine at_call (f := 13) (args := #[.agg #[.int .i64 g1, .int .i64 g2, .slice A1 g3.length c1]]) (d := 26) hF (by kernel_rfl) (by kernel_rfl) Try.func13 (by kernel_rfl) rfl (gameroomref_GridOf_w hr1 hS (fun _ hS => (hr_g3 _ (hS.dropN 2))) _hc_g3 rfl) (fun v a w hR hF => ?_)
          clear hS
          obtain ⟨A5, c5, rfl, hS⟩ := hR
          have hS : Sep w0 B w (own 3 (.slice A5 r1.2.2.length c5) (vI r1.2.2) :: blk g4 24 #[.int .i64 g1, .int .i64 g2, .slice A1 g3.length c1] :: own 3 (.slice A2 l1.length c2) (vI l1) :: fs) := hS
          refine at_do (d := 9) (s := vS (Instr.alloc 24 true (.tuple #[]))) (v := .pointer (some ⟨w.heap.size, 0, none⟩)) (w' := w.alloc (.cells #[.int .i64 0, .int .i64 0, .slice none 0 0] 24)) hF (by kernel_rfl) (by kernel_rfl) (by kernel_rfl) (fun a hF => ?_)
          have hS : Sep w0 B (w.alloc (.cells #[.int .i64 0, .int .i64 0, .slice none 0 0] 24)) (blk w.heap.size 24 #[.int .i64 0, .int .i64 0, .slice none 0 0] :: (own 3 (.slice A5 r1.2.2.length c5) (vI r1.2.2) :: blk g4 24 #[.int .i64 g1, .int .i64 g2, .slice A1 g3.length c1] :: own 3 (.slice A2 l1.length c2) (vI l1) :: fs)) := hS.box 24 #[.int .i64 0, .int .i64 0, .slice none 0 0]
          generalize w.heap.size = g5 at hF hS
          generalize w.alloc (.cells #[.int .i64 0, .int .i64 0, .slice none 0 0] 24) = w at hS ⊢
          obtain ⟨w, hrun, hS⟩ := run_putA (P := Try.prog) (t := 24) (us := #[.int .i64 r1.1, .int .i64 r1.2.1, .slice A5 r1.2.2.length c5]) (o := 0) (hS.at_ 0 rfl) (by kernel_rfl) (all_one (by kernel_rfl)) (Nat.le_of_ble_eq_true (by kernel_rfl))
          refine at_skip hF (by kernel_rfl) hrun ?_
          have hS : Sep w0 B w (blk g5 24 #[.int .i64 r1.1, .int .i64 r1.2.1, .slice A5 r1.2.2.length c5] :: own 3 (.slice A5 r1.2.2.length c5) (vI r1.2.2) :: blk g4 24 #[.int .i64 g1, .int .i64 g2, .slice A1 g3.length c1] :: own 3 (.slice A2 l1.length c2) (vI l1) :: fs) := hS
          refine at_end [1, 2, 3, 7, 8, 9] [pl 1 (.int .i64 who1), pl 2 (.int .i64 k1), pl 3 (.pointer (some ⟨g4, 0, none⟩)), pl 7 (.slice A2 l1.length c2), pl 8 (.int .i64 i1), pl 9 (.pointer (some ⟨g5, 0, none⟩))] hF rfl (by kernel_rfl) (fun hF => ?_)
          refine then_n ?_
          refine seqR ?_
          obtain ⟨hp2, hm⟩ := asrt_b hm
          refine at_run 5 [⟨false, [], vS (Instr.loadAt 22 (.pointer (some ⟨g5, 2, none⟩))), .slice A5 r1.2.2.length c5⟩, ⟨true, [], vS (Instr.indexAt 22 (.slice A5 r1.2.2.length c5) (.int .i64 i1)), .pointer (some (sAddr A5 i1))⟩] [none, some (.slice A5 r1.2.2.length c5), none, none, some (.pointer (some (sAddr A5 i1)))] [1, 2, 3, 7, 8, 9, 30, 31] [pl 1 (.int .i64 who1), pl 2 (.int .i64 k1), pl 3 (.pointer (some ⟨g4, 0, none⟩)), pl 7 (.slice A2 l1.length c2), pl 8 (.int .i64 i1), pl 9 (.pointer (some ⟨g5, 0, none⟩)), pl 30 (.int .i64 who1), pl 31 (.pointer (some (sAddr A5 i1)))] hF hS (by kernel_rfl) (by kernel_rfl) ?_ (fun a w hF hS => ?_)
          · exact obs_cons (ob_load Agg22 (fun _ _ hS => (hS.at_ 0 rfl).cell rfl)) <| obs_cons (ob_ix1 (f := (Value.int .i64)) (m := r1.2.2) Und22 hi3 hs3 (hS.at_ 1 rfl).rd rfl (fun _ => hp2)) <| obs_nil
          obtain ⟨w, hrun, hS⟩ := run_set1 (P := Try.prog) (t := 3) (x := who1) (Value.int .i64) (hS.at_ 1 rfl) hi3 hs3 rfl rfl hp2
          refine at_skip hF (by kernel_rfl) hrun ?_
          have hS : Sep w0 B w (blk g5 24 #[.int .i64 r1.1, .int .i64 r1.2.1, .slice A5 r1.2.2.length c5] :: own 3 (.slice A5 r1.2.2.length c5) (vI (r1.2.2.set (Int.toNat i1) who1)) :: blk g4 24 #[.int .i64 g1, .int .i64 g2, .slice A1 g3.length c1] :: own 3 (.slice A2 l1.length c2) (vI l1) :: fs) := hS
          refine at_end [1, 2, 3, 7, 8, 9] [pl 1 (.int .i64 who1), pl 2 (.int .i64 k1), pl 3 (.pointer (some ⟨g4, 0, none⟩)), pl 7 (.slice A2 l1.length c2), pl 8 (.int .i64 i1), pl 9 (.pointer (some ⟨g5, 0, none⟩))] hF rfl (by kernel_rfl) (fun hF => ?_)
          refine then_n ?_
          refine seqR ?_
          obtain ⟨r2, hr2, hm⟩ := call_b hm
          refine at_run 2 [⟨false, [], vS (Instr.loadAt 24 (.pointer (some ⟨g5, 0, none⟩))), .agg #[.int .i64 r1.1, .int .i64 r1.2.1, .slice A5 r1.2.2.length c5]⟩] [some (.agg #[.int .i64 r1.1, .int .i64 r1.2.1, .slice A5 r1.2.2.length c5]), none] [1, 2, 3, 7, 8, 33, 34] [pl 1 (.int .i64 who1), pl 2 (.int .i64 k1), pl 3 (.pointer (some ⟨g4, 0, none⟩)), pl 7 (.slice A2 l1.length c2), pl 8 (.int .i64 i1), pl 33 (.agg #[.int .i64 r1.1, .int .i64 r1.2.1, .slice A5 r1.2.2.length c5]), pl 34 (.int .i64 k1)] hF hS (by kernel_rfl) (by kernel_rfl) ?_ (fun a w hF hS => ?_)
          · exact obs_cons (ob_loadA (cs := #[.int .i64 r1.1, .int .i64 r1.2.1, .slice A5 r1.2.2.length c5]) (by kernel_rfl) (by kernel_rfl) (fun _ _ hS => (hS.at_ 0 rfl).cellsAt 0 (by rfl))) <| obs_nil
          refine at_call (f := 79) (args := #[.agg #[.int .i64 r1.1, .int .i64 r1.2.1, .slice A5 r1.2.2.length c5], .int .i64 k1]) (d := 35) hF (by kernel_rfl) (by kernel_rfl) Try.func79 (by kernel_rfl) rfl (gameroomref_WonOf_w hr2 hS (fun _ hS => (hS.at_ 1 rfl).rd) ((hS.at_ 1 rfl).cap1) ((hS.at_ 1 rfl).len1)) (fun v a w hR hF => ?_)
          clear hS
          obtain ⟨A6, c6, rfl, hS⟩ := hR
          have hS : Sep w0 B w (own 3 (.slice A6 r2.2.length c6) (vI r2.2) :: blk g5 24 #[.int .i64 r1.1, .int .i64 r1.2.1, .slice A5 r1.2.2.length c5] :: own 3 (.slice A5 r1.2.2.length c5) (vI (r1.2.2.set (Int.toNat i1) who1)) :: blk g4 24 #[.int .i64 g1, .int .i64 g2, .slice A1 g3.length c1] :: own 3 (.slice A2 l1.length c2) (vI l1) :: fs) := hS
          refine at_run 5 [] [] [1, 2, 3, 7, 8, 11] [pl 1 (.int .i64 who1), pl 2 (.int .i64 k1), pl 3 (.pointer (some ⟨g4, 0, none⟩)), pl 7 (.slice A2 l1.length c2), pl 8 (.int .i64 i1), pl 11 (.slice A6 r2.2.length c6)] hF hS (by kernel_rfl) (by kernel_rfl) ?_ (fun a w hF hS => ?_)
          · exact obs_nil
          refine at_end [1, 2, 3, 7, 8, 11] [pl 1 (.int .i64 who1), pl 2 (.int .i64 k1), pl 3 (.pointer (some ⟨g4, 0, none⟩)), pl 7 (.slice A2 l1.length c2), pl 8 (.int .i64 i1), pl 11 (.slice A6 r2.2.length c6)] hF rfl (by kernel_rfl) (fun hF => ?_)
          refine then_n ?_
          obtain ⟨r3, hr3, hm⟩ := call_b hm
          refine reg [⟨false, [], callFunc 81 #[.slice A6 r2.2.length c6, .int .i64 i1], .int .i64 r3⟩] [none, none, some (.int .i64 r3), none] [1, 2, 3, 7, 8, 41] [pl 1 (.int .i64 who1), pl 2 (.int .i64 k1), pl 3 (.pointer (some ⟨g4, 0, none⟩)), pl 7 (.slice A2 l1.length c2), pl 8 (.int .i64 i1), pl 41 (.bool (decide ((0 : Int) ≤ r3)))] hF hS Fol (by kernel_rfl) (by kernel_rfl) (by kernel_rfl) ?_ (fun a w hF hS => ?_)
          · exact obs_cons (ob_call Try.func81 (by kernel_rfl) rfl (fun _ _ hS => gameroomref_at_w hr3 hS (fun _ hS => (hS.at_ 0 rfl).rd) ((hS.at_ 0 rfl).cap1) rfl)) <| obs_nil
          refine cond_ev (t := 41) (b := decide ((0 : Int) ≤ r3)) hF (by kernel_rfl) (fun hb => ?_) (fun hb => ?_)
          · replace hm := if_t hm hb
            refine oneR ?_
            obtain ⟨hp3, hm⟩ := asrt_b hm
            refine at_run 2 [] [] [1, 2, 3, 8, 42, 43] [pl 1 (.int .i64 who1), pl 2 (.int .i64 k1), pl 3 (.pointer (some ⟨g4, 0, none⟩)), pl 8 (.int .i64 i1), pl 42 (.slice A2 l1.length c2), pl 43 (.int .i64 i1)] hF hS (by kernel_rfl) (by kernel_rfl) ?_ (fun a w hF hS => ?_)
            · exact obs_nil
            refine at_do (d := 44) (s := vS (Instr.buildSlice 22 1 #[(0, .int .i64 i1)])) (v := .slice (some ⟨w.heap.size, 0, none⟩) 1 1) (w' := w.alloc (.cells #[.int .i64 i1] 3)) hF (by kernel_rfl) (by kernel_rfl) (by kernel_rfl) (fun a hF => ?_)
            have hS : Sep w0 B (w.alloc (.cells #[.int .i64 i1] 3)) (own 3 (.slice (some (⟨w.heap.size, 0, none⟩ : Addr)) 1 1) (vI ([i1] : List Int)) :: (own 3 (.slice A6 r2.2.length c6) (vI r2.2) :: blk g5 24 #[.int .i64 r1.1, .int .i64 r1.2.1, .slice A5 r1.2.2.length c5] :: own 3 (.slice A5 r1.2.2.length c5) (vI (r1.2.2.set (Int.toNat i1) who1)) :: blk g4 24 #[.int .i64 g1, .int .i64 g2, .slice A1 g3.length c1] :: own 3 (.slice A2 l1.length c2) (vI l1) :: fs)) := hS.lit 3 #[.int .i64 i1] 1 rfl (by omega)
            generalize (some (⟨w.heap.size, 0, none⟩ : Addr)) = g6 at hF hS
            generalize w.alloc (.cells #[.int .i64 i1] 3) = w at hS ⊢
            obtain ⟨A7, c7, w, hrun, hS⟩ := run_app1 (P := Try.prog) (t := 22) (m := l1) (ys := ([i1] : List Int)) (A2 := g6) (m2 := 1) (c2 := 1) (Value.int .i64) (0 : Int) (hS.at_ 5 rfl) (hS.at_ 0 rfl).rd ((hS.at_ 0 rfl).len1) 22 Und22 hi3 hz3 hs3 (by omega) rfl (fun _ => rfl) hp3
            have hS : Sep w0 B w (own 3 (.slice g6 1 1) (vI ([i1] : List Int)) :: own 3 (.slice A6 r2.2.length c6) (vI r2.2) :: blk g5 24 #[.int .i64 r1.1, .int .i64 r1.2.1, .slice A5 r1.2.2.length c5] :: own 3 (.slice A5 r1.2.2.length c5) (vI (r1.2.2.set (Int.toNat i1) who1)) :: blk g4 24 #[.int .i64 g1, .int .i64 g2, .slice A1 g3.length c1] :: own 3 (.slice A7 ((l1 ++ ([i1] : List Int)).length) c7) (vI (l1 ++ ([i1] : List Int))) :: fs) := hS
            refine at_do (d := 45) hF (by kernel_rfl) (by kernel_rfl) hrun (fun a hF => ?_)
            refine at_run 1 [] [] [1, 2, 3, 7, 8] [pl 1 (.int .i64 who1), pl 2 (.int .i64 k1), pl 3 (.pointer (some ⟨g4, 0, none⟩)), pl 7 (.slice A7 ((l1 ++ ([i1] : List Int)).length) c7), pl 8 (.int .i64 i1)] hF hS (by kernel_rfl) (by kernel_rfl) ?_ (fun a w hF hS => ?_)
            · exact obs_nil
            refine at_end [1, 2, 3, 7, 8] [pl 1 (.int .i64 who1), pl 2 (.int .i64 k1), pl 3 (.pointer (some ⟨g4, 0, none⟩)), pl 7 (.slice A7 ((l1 ++ ([i1] : List Int)).length) c7), pl 8 (.int .i64 i1)] hF rfl (by kernel_rfl) (fun hF => ?_)
            refine block_n ?_
            refine then_n ?_
            have hS := hS.pickN 6 [4, 5] (by decide)
            exact ⟨(l1 ++ ([i1] : List Int)), A7, c7, hF.weak [1, 2, 3, 7, 8] (by kernel_rfl), hS, hm⟩
          · replace hm := if_f hm hb
            refine wp_skip ?_
            refine block_n ?_
            refine then_n ?_
            have hS := hS.pickN 5 [3, 4] (by decide)
            exact ⟨l1, A2, c2, hF.weak [1, 2, 3, 7, 8] (by kernel_rfl), hS, hm⟩
        · obtain ⟨hp1, hm⟩ := asrt_b hm
          refine reg [⟨false, [], vS (Instr.loadAt 22 (.pointer (some ⟨g4, 2, none⟩))), .slice A1 g3.length c1⟩, ⟨true, [], vS (Instr.indexAt 22 (.slice A1 g3.length c1) (.int .i64 i1)), .pointer (some (sAddr A1 i1))⟩, ⟨false, [], vS (Instr.loadAt 3 (.pointer (some (sAddr A1 i1)))), .int .i64 (geti g3 i1)⟩] [none, some (.slice A1 g3.length c1), none, some (.pointer (some (sAddr A1 i1))), some (.int .i64 (geti g3 i1)), none] [1, 2, 3, 7, 8, 24] [pl 1 (.int .i64 who1), pl 2 (.int .i64 k1), pl 3 (.pointer (some ⟨g4, 0, none⟩)), pl 7 (.slice A2 l1.length c2), pl 8 (.int .i64 i1), pl 24 (.bool ((geti g3 i1) != 0))] hF hS Fol (by kernel_rfl) (by kernel_rfl) (by kernel_rfl) ?_ (fun a w hF hS => ?_)
          · exact obs_cons (ob_load Agg22 (fun _ _ hS => (hS.at_ 0 rfl).cell rfl)) <| obs_cons (ob_ix1 (f := (Value.int .i64)) (m := g3) Und22 hi3 hs3 (hr_g3 _ (hS.dropN 2)) rfl (fun _ => hp1)) <| obs_cons (ob_get1 (n := g3.length) (m := g3) (Value.int .i64) (0 : Int) Agg3 (fun _ hS => ⟨_, (hr_g3 _ (hS.dropN 2))⟩) (fun _ hS => rfl) (fun _ => hp1)) <| obs_nil
          refine cond_ev (t := 24) (b := ((geti g3 i1) != 0)) hF (by kernel_rfl) (fun hb => ?_) (fun hb => ?_)
          · replace hm := if_t hm hb
            refine wp_exit ?_
            refine then_e (block_e (then_n ?_))
            exact ⟨l1, A2, c2, hF.weak [1, 2, 3, 7, 8] (by kernel_rfl), hS, hm⟩
          · replace hm := if_f hm hb
            refine wp_skip ?_
            refine then_n ?_
            exact ⟨hF.weak [1, 2, 3, 7, 8] (by kernel_rfl), hS, hm⟩
    · refine reg [⟨false, [], vS (Instr.loadAt 22 (.pointer (some ⟨g4, 2, none⟩))), .slice A1 g3.length c1⟩] [none, none, some (.slice A1 g3.length c1), none, none] [1, 2, 3, 7, 8, 16] [pl 1 (.int .i64 who1), pl 2 (.int .i64 k1), pl 3 (.pointer (some ⟨g4, 0, none⟩)), pl 7 (.slice A2 l1.length c2), pl 8 (.int .i64 i1), pl 16 (.bool (decide (i1 < (g3.length : Int))))] hF hS Fol (by kernel_rfl) (by kernel_rfl) (by kernel_rfl) ?_ (fun a w hF hS => ?_)
      · exact obs_cons (ob_load Agg22 (fun _ _ hS => (hS.at_ 0 rfl).cell rfl)) <| obs_nil
      refine cond_ev (t := 16) (b := decide (i1 < (g3.length : Int))) hF (by kernel_rfl) (fun hb => ?_) (fun hb => ?_)
      · replace hm := if_t hm hb
        refine wp_skip ?_
        refine then_n ?_
        exact ⟨hF.weak [1, 2, 3, 7, 8] (by kernel_rfl), hS, hm⟩
      · replace hm := if_f hm hb
        refine wp_exit ?_
        refine then_e (then_e (block_e (then_n ?_)))
        have hS := hS.pickN 2 [1] (by decide)
        rw [← hφ1] at hm
        replace hm := done_b hm
        unfold gameroomref_ThreatsOf_K1 at hm
        try dsimp only at hm
        have hm : (gameroomref_ThreatsOf_J1 l1).bind some = some r := hm
        exact ⟨l1, A2, c2, hF.weak [7] (by kernel_rfl), hS, hm⟩

noncomputable def gameroomlaw_sameInts_J4 (i1 : Int) : Option (St Int (Fl Unit Bool)) :=
  some (.next (w64 (i1 + 1)))

noncomputable def gameroomlaw_sameInts_J3 (a1 : List Int) (b1 : List Int) (i1 : Int) : Option (St Int (Fl Unit Bool)) :=
  asrt (0 ≤ i1 ∧ i1 < (a1.length : Int)) <| asrt (0 ≤ i1 ∧ i1 < (b1.length : Int)) <| if ((geti a1 i1) != (geti b1 i1)) then (some (.done (.ret false))) else ((gameroomlaw_sameInts_J4 i1))

noncomputable def gameroomlaw_sameInts_J2 : Option Bool :=
  some true

noncomputable def gameroomlaw_sameInts_K1 : (Fl Unit Bool) → Option Bool :=
  fun (x : (Fl Unit Bool)) => match x with | .go _ => gameroomlaw_sameInts_J2 | .ret x => some x

noncomputable def gameroomlaw_sameInts_L1 (a1 : List Int) (b1 : List Int) : Int → Option (St Int (Fl Unit Bool)) :=
  fun (x : Int) => match x with | i1 => if (decide (i1 < (a1.length : Int))) then ((gameroomlaw_sameInts_J3 a1 b1 i1)) else (some (.done (.go ())))

noncomputable def gameroomlaw_sameInts_J1 (a1 : List Int) (b1 : List Int) : Option Bool :=
  (loop (gameroomlaw_sameInts_L1 a1 b1) 0).bind gameroomlaw_sameInts_K1

noncomputable def gameroomlaw_sameInts_m (a1 : List Int) (b1 : List Int) : Option Bool :=
  if ((a1.length : Int) != (b1.length : Int)) then (some false) else ((gameroomlaw_sameInts_J1 a1 b1))

set_option maxRecDepth 100000 in
set_option maxHeartbeats 4000000 in
theorem gameroomlaw_sameInts_w {A1 : Option Addr} {c1 : Nat} {n1 : Nat} {a1 : List Int} {A2 : Option Addr} {c2 : Nat} {n2 : Nat} {b1 : List Int} {r : Bool} {w0 w : World} {B : Nat} {fs : List HP} (hm : gameroomlaw_sameInts_m a1 b1 = some r) (hS : Sep w0 B w (fs)) (hr_a1 : RdF w0 B fs A1 (vI a1)) (_hc_a1 : a1.length ≤ c1) (_hn_a1 : n1 = a1.length) (hr_b1 : RdF w0 B fs A2 (vI b1)) (_hc_b1 : b1.length ≤ c2) (_hn_b1 : n2 = b1.length) :
    Calls Try.prog 20 #[.slice A1 n1 c1, .slice A2 n2 c2] w fun e w' => e = .returned (.bool r) ∧ Sep w0 B w' (fs) := by
  obtain ⟨i3, hi3, hz3, hs3, hb3⟩ := info_parts Info3
  obtain rfl := _hn_a1
  obtain rfl := _hn_b1
  unfold gameroomlaw_sameInts_m at hm
  replace hm := start_b hm
  refine enter (l := [.slice A1 a1.length c1, .slice A2 b1.length c2]) (n := 26) Try.func20 rfl rfl (by simp) (fun a hF => ?_)
  refine reg [] [] [0, 1] [pl 0 (.slice A1 a1.length c1), pl 1 (.slice A2 b1.length c2)] hF hS Fol (by kernel_rfl) (by kernel_rfl) (by kernel_rfl) ?_ (fun a w hF hS => ?_)
  · exact obs_nil
  refine seq_cut (fun a w => Fr 26 [pl 0 (.slice A1 a1.length c1), pl 1 (.slice A2 b1.length c2)] a ∧ Sep w0 B w (fs) ∧ ((gameroomlaw_sameInts_J1 a1 b1)).bind some = some r) ?_ ?_
  · rintro a w ⟨hF, hS, hm⟩
    unfold gameroomlaw_sameInts_J1 at hm
    refine seq_cut (fun a w => Fr 26 [] a ∧ Sep w0 B w (fs) ∧ (gameroomlaw_sameInts_J2).bind some = some r) ?_ ?_
    · rintro a w ⟨hF, hS, hm⟩
      unfold gameroomlaw_sameInts_J2 at hm
      refine reg [] [] [4] [pl 4 (.bool true)] hF hS Fol (by kernel_rfl) (by kernel_rfl) (by kernel_rfl) ?_ (fun a w hF hS => ?_)
      · exact obs_nil
      refine wp_ret ?_
      have hm : some true = some r := hm
      obtain rfl := Option.some.inj hm
      exact retV (rs := [.tmp 4]) (vs := [.bool true]) hF rfl (rv_t (by kernel_rfl) <| rv_nil) rfl ⟨rfl, hS⟩
    · refine reg [] [] [0, 1, 5] [pl 0 (.slice A1 a1.length c1), pl 1 (.slice A2 b1.length c2), pl 5 (.int .i64 0)] hF hS Fol (by kernel_rfl) (by kernel_rfl) (by kernel_rfl) ?_ (fun a w hF hS => ?_)
      · exact obs_nil
      refine wp_block ?_
      refine wp_loop_model (S := Int) (R := (Fl Unit Bool)) (gameroomlaw_sameInts_L1 a1 b1) (fun x => (gameroomlaw_sameInts_K1 x).bind some) r (fun (x : Int) a w => Fr 26 [pl 0 (.slice A1 a1.length c1), pl 1 (.slice A2 b1.length c2), pl 5 (.int .i64 x)] a ∧ Sep w0 B w (fs)) (assoc_b hm) ⟨hF.weak [0, 1, 5] (by kernel_rfl), hS⟩ ?_
      clear hF hS hm
      rintro nn1 i1 a w ⟨hF, hS⟩ hm
      generalize hφ1 : stK (gameroomlaw_sameInts_L1 a1 b1) nn1 (fun x => (gameroomlaw_sameInts_K1 x).bind some) = φ1 at hm
      unfold gameroomlaw_sameInts_L1 at hm
      dsimp only at hm
      refine seq_cut (fun a w => Fr 26 [pl 0 (.slice A1 a1.length c1), pl 1 (.slice A2 b1.length c2), pl 5 (.int .i64 i1)] a ∧ Sep w0 B w (fs) ∧ ((gameroomlaw_sameInts_J3 a1 b1 i1)).bind φ1 = some r) ?_ ?_
      · rintro a w ⟨hF, hS, hm⟩
        unfold gameroomlaw_sameInts_J3 at hm
        refine seq_cut (fun a w => Fr 26 [pl 0 (.slice A1 a1.length c1), pl 1 (.slice A2 b1.length c2), pl 5 (.int .i64 i1)] a ∧ Sep w0 B w (fs) ∧ ((gameroomlaw_sameInts_J4 i1)).bind φ1 = some r) ?_ ?_
        · rintro a w ⟨hF, hS, hm⟩
          unfold gameroomlaw_sameInts_J4 at hm
          refine reg1 [] [] [0, 1, 5] [pl 0 (.slice A1 a1.length c1), pl 1 (.slice A2 b1.length c2), pl 5 (.int .i64 (w64 (i1 + 1)))] hF hS Fol (by kernel_rfl) (by kernel_rfl) (by kernel_rfl) ?_ (fun a w hF hS => ?_)
          · exact obs_nil
          refine then_n ?_
          rw [← hφ1] at hm
          exact ⟨(w64 (i1 + 1)), ⟨hF.weak [0, 1, 5] (by kernel_rfl), hS⟩, hm⟩
        · refine wp_block ?_
          obtain ⟨hp1, hm⟩ := asrt_b hm
          obtain ⟨hp2, hm⟩ := asrt_b hm
          refine reg [⟨true, [], vS (Instr.indexAt 22 (.slice A1 a1.length c1) (.int .i64 i1)), .pointer (some (sAddr A1 i1))⟩, ⟨false, [], vS (Instr.loadAt 3 (.pointer (some (sAddr A1 i1)))), .int .i64 (geti a1 i1)⟩, ⟨true, [], vS (Instr.indexAt 22 (.slice A2 b1.length c2) (.int .i64 i1)), .pointer (some (sAddr A2 i1))⟩, ⟨false, [], vS (Instr.loadAt 3 (.pointer (some (sAddr A2 i1)))), .int .i64 (geti b1 i1)⟩] [none, none, some (.pointer (some (sAddr A1 i1))), some (.int .i64 (geti a1 i1)), none, none, some (.pointer (some (sAddr A2 i1))), some (.int .i64 (geti b1 i1)), none] [0, 1, 5, 25] [pl 0 (.slice A1 a1.length c1), pl 1 (.slice A2 b1.length c2), pl 5 (.int .i64 i1), pl 25 (.bool ((geti a1 i1) != (geti b1 i1)))] hF hS Fol (by kernel_rfl) (by kernel_rfl) (by kernel_rfl) ?_ (fun a w hF hS => ?_)
          · exact obs_cons (ob_ix1 (f := (Value.int .i64)) (m := a1) Und22 hi3 hs3 (hr_a1 _ (hS.dropN 0)) rfl (fun _ => hp1)) <| obs_cons (ob_get1 (n := a1.length) (m := a1) (Value.int .i64) (0 : Int) Agg3 (fun _ hS => ⟨_, (hr_a1 _ (hS.dropN 0))⟩) (fun _ hS => rfl) (fun _ => hp1)) <| obs_cons (ob_ix1 (f := (Value.int .i64)) (m := b1) Und22 hi3 hs3 (hr_b1 _ (hS.dropN 0)) rfl (fun _ => hp2)) <| obs_cons (ob_get1 (n := b1.length) (m := b1) (Value.int .i64) (0 : Int) Agg3 (fun _ hS => ⟨_, (hr_b1 _ (hS.dropN 0))⟩) (fun _ hS => rfl) (fun _ => hp2)) <| obs_nil
          refine cond_ev (t := 25) (b := ((geti a1 i1) != (geti b1 i1))) hF (by kernel_rfl) (fun hb => ?_) (fun hb => ?_)
          · replace hm := if_t hm hb
            refine reg [] [] [4] [pl 4 (.bool false)] hF hS Fol (by kernel_rfl) (by kernel_rfl) (by kernel_rfl) ?_ (fun a w hF hS => ?_)
            · exact obs_nil
            refine wp_ret ?_
            refine block_r (then_r (then_r (block_r (then_r ?_))))
            rw [← hφ1] at hm
            replace hm := done_b hm
            unfold gameroomlaw_sameInts_K1 at hm
            try dsimp only at hm
            have hm : some false = some r := hm
            obtain rfl := Option.some.inj hm
            exact retV (rs := [.tmp 4]) (vs := [.bool false]) hF rfl (rv_t (by kernel_rfl) <| rv_nil) rfl ⟨rfl, hS⟩
          · replace hm := if_f hm hb
            refine wp_skip ?_
            refine block_n ?_
            refine then_n ?_
            exact ⟨hF.weak [0, 1, 5] (by kernel_rfl), hS, hm⟩
      · refine reg [] [] [0, 1, 5, 14] [pl 0 (.slice A1 a1.length c1), pl 1 (.slice A2 b1.length c2), pl 5 (.int .i64 i1), pl 14 (.bool (decide (i1 < (a1.length : Int))))] hF hS Fol (by kernel_rfl) (by kernel_rfl) (by kernel_rfl) ?_ (fun a w hF hS => ?_)
        · exact obs_nil
        refine cond_ev (t := 14) (b := decide (i1 < (a1.length : Int))) hF (by kernel_rfl) (fun hb => ?_) (fun hb => ?_)
        · replace hm := if_t hm hb
          refine wp_skip ?_
          refine then_n ?_
          exact ⟨hF.weak [0, 1, 5] (by kernel_rfl), hS, hm⟩
        · replace hm := if_f hm hb
          refine wp_exit ?_
          refine then_e (then_e (block_e (then_n ?_)))
          rw [← hφ1] at hm
          replace hm := done_b hm
          unfold gameroomlaw_sameInts_K1 at hm
          try dsimp only at hm
          have hm : (gameroomlaw_sameInts_J2).bind some = some r := hm
          exact ⟨hF.weak [] (by kernel_rfl), hS, hm⟩
  · refine reg [] [] [0, 1, 10] [pl 0 (.slice A1 a1.length c1), pl 1 (.slice A2 b1.length c2), pl 10 (.bool ((a1.length : Int) != (b1.length : Int)))] hF hS Fol (by kernel_rfl) (by kernel_rfl) (by kernel_rfl) ?_ (fun a w hF hS => ?_)
    · exact obs_nil
    refine cond_ev (t := 10) (b := ((a1.length : Int) != (b1.length : Int))) hF (by kernel_rfl) (fun hb => ?_) (fun hb => ?_)
    · replace hm := if_t hm hb
      refine reg [] [] [4] [pl 4 (.bool false)] hF hS Fol (by kernel_rfl) (by kernel_rfl) (by kernel_rfl) ?_ (fun a w hF hS => ?_)
      · exact obs_nil
      refine wp_ret ?_
      refine then_r ?_
      have hm : some false = some r := hm
      obtain rfl := Option.some.inj hm
      exact retV (rs := [.tmp 4]) (vs := [.bool false]) hF rfl (rv_t (by kernel_rfl) <| rv_nil) rfl ⟨rfl, hS⟩
    · replace hm := if_f hm hb
      refine wp_skip ?_
      refine then_n ?_
      exact ⟨hF.weak [0, 1] (by kernel_rfl), hS, hm⟩

noncomputable def gameroomlaw_FourDrops_J5 (z1 : Bool) : Option Bool :=
  some z1

noncomputable def gameroomlaw_FourDrops_J4 (g1 : Int) (g2 : Int) (g3 : List Int) (k1 : Int) (who1 : Int) (r4 : (List Int × Int)) : Option Bool :=
  if (r4.2 == 0) then ((gameroomref_ThreatsOf_m g1 g2 g3 who1 k1).bind fun r9 => ((if (r4.2 == 0) then gameroomlaw_sameInts_m r4.1 r9 else some false)).bind fun r10 => gameroomlaw_FourDrops_J5 ((r4.2 == 0) && r10)) else (((if (r4.2 == 0) then gameroomlaw_sameInts_m r4.1 ([] : List Int) else some false)).bind fun r11 => gameroomlaw_FourDrops_J5 ((r4.2 == 0) && r11))

noncomputable def gameroomlaw_FourDrops_J3 (g1 : Int) (g2 : Int) (g3 : List Int) (k1 : Int) (who1 : Int) (r4 : (List Int × Int)) (no1 : Int) : Option Bool :=
  if (no1 != 0) then (some ((r4.2 == no1) && ((r4.1.length : Int) == 0))) else ((gameroomlaw_FourDrops_J4 g1 g2 g3 k1 who1 r4))

noncomputable def gameroomlaw_FourDrops_J2 (g1 : Int) (g2 : Int) (g3 : List Int) (k1 : Int) (who1 : Int) (r4 : (List Int × Int)) : Option Bool :=
  if ((decide (k1 < 1)) || (decide ((10 : Int) < k1))) then ((gameroomlaw_FourDrops_J3 g1 g2 g3 k1 who1 r4) 3) else (if ((who1 != 1) && (who1 != 2)) then ((gameroomlaw_FourDrops_J3 g1 g2 g3 k1 who1 r4) 4) else ((gameroomlaw_FourDrops_J3 g1 g2 g3 k1 who1 r4) 0))

noncomputable def gameroomlaw_FourDrops_J1 (g1 : Int) (g2 : Int) (g3 : List Int) (column1 : Int) (k1 : Int) (who1 : Int) (r2 : (Int × Int × List Int × Int)) (r4 : (List Int × Int)) : Option Bool :=
  (gameroomref_DropOf_m g1 g2 g3 column1 k1).bind fun r7 => ((if (!(r2.2.2.2 != r7.2.2.2)) then gameroomref_SameGrid_m r2.1 r2.2.1 r2.2.2.1 r7.1 r7.2.1 r7.2.2.1 else some false)).bind fun r8 => if ((r2.2.2.2 != r7.2.2.2) || (!r8)) then (some false) else ((gameroomlaw_FourDrops_J2 g1 g2 g3 k1 who1 r4))

noncomputable def gameroomlaw_FourDrops_m (g1 : Int) (g2 : Int) (g3 : List Int) (column1 : Int) (k1 : Int) (who1 : Int) : Option Bool :=
  (gameroomref_GridOf_m g1 g2 g3).bind fun r1 => (four_Drop_m r1.1 r1.2.1 r1.2.2 column1 k1).bind fun r2 => (gameroomref_GridOf_m g1 g2 g3).bind fun r3 => (four_Threats_m r3.1 r3.2.1 r3.2.2 who1 k1).bind fun r4 => (gameroomref_WellMay_m g1 g2 g3).bind fun r5 => if (!r5) then (((if (r2.2.2.2 == 12) then gameroomlaw_noGrid_m r2.1 r2.2.1 r2.2.2.1 else some false)).bind fun r6 => some ((((r2.2.2.2 == 12) && r6) && (r4.2 == 12)) && ((r4.1.length : Int) == 0))) else ((gameroomlaw_FourDrops_J1 g1 g2 g3 column1 k1 who1 r2 r4))

set_option maxRecDepth 100000 in
set_option maxHeartbeats 4000000 in
theorem gameroomlaw_FourDrops_w {g1 : Int} {g2 : Int} {A1 : Option Addr} {c1 : Nat} {n1 : Nat} {g3 : List Int} {column1 : Int} {k1 : Int} {who1 : Int} {r : Bool} {w0 w : World} {B : Nat} {fs : List HP} (hm : gameroomlaw_FourDrops_m g1 g2 g3 column1 k1 who1 = some r) (hS : Sep w0 B w (fs)) (hr_g3 : RdF w0 B fs A1 (vI g3)) (_hc_g3 : g3.length ≤ c1) (_hn_g3 : n1 = g3.length) :
    Calls Try.prog 5 #[.agg #[.int .i64 g1, .int .i64 g2, .slice A1 n1 c1], .int .i64 column1, .int .i64 k1, .int .i64 who1] w fun e w' => e = .returned (.bool r) ∧ Sep w0 B w' (fs) := by
  obtain ⟨i3, hi3, hz3, hs3, hb3⟩ := info_parts Info3
  obtain rfl := _hn_g3
  unfold gameroomlaw_FourDrops_m at hm
  replace hm := start_b hm
  refine enter (l := [.agg #[.int .i64 g1, .int .i64 g2, .slice A1 g3.length c1], .int .i64 column1, .int .i64 k1, .int .i64 who1]) (n := 98) Try.func5 rfl rfl (by simp) (fun a hF => ?_)
  refine seqR ?_
  refine at_do (d := 4) (s := vS (Instr.box 24 (.agg #[.int .i64 g1, .int .i64 g2, .slice A1 g3.length c1]))) (v := .pointer (some ⟨w.heap.size, 0, none⟩)) (w' := w.alloc (.cells #[.int .i64 g1, .int .i64 g2, .slice A1 g3.length c1] 24)) hF (by kernel_rfl) (by kernel_rfl) (by kernel_rfl) (fun a hF => ?_)
  have hS : Sep w0 B (w.alloc (.cells #[.int .i64 g1, .int .i64 g2, .slice A1 g3.length c1] 24)) (blk w.heap.size 24 #[.int .i64 g1, .int .i64 g2, .slice A1 g3.length c1] :: (fs)) := hS.box 24 #[.int .i64 g1, .int .i64 g2, .slice A1 g3.length c1]
  generalize w.heap.size = g4 at hF hS
  generalize w.alloc (.cells #[.int .i64 g1, .int .i64 g2, .slice A1 g3.length c1] 24) = w at hS ⊢
  refine at_run 1 [] [] [1, 2, 3, 4] [pl 1 (.int .i64 column1), pl 2 (.int .i64 k1), pl 3 (.int .i64 who1), pl 4 (.pointer (some ⟨g4, 0, none⟩))] hF hS (by kernel_rfl) (by kernel_rfl) ?_ (fun a w hF hS => ?_)
  · exact obs_nil
  refine at_end [1, 2, 3, 4] [pl 1 (.int .i64 column1), pl 2 (.int .i64 k1), pl 3 (.int .i64 who1), pl 4 (.pointer (some ⟨g4, 0, none⟩))] hF rfl (by kernel_rfl) (fun hF => ?_)
  refine then_n ?_
  refine seqR ?_
  obtain ⟨r1, hr1, hm⟩ := call_b hm
  obtain ⟨r2, hr2, hm⟩ := call_b hm
  refine at_run 1 [⟨false, [], vS (Instr.loadAt 24 (.pointer (some ⟨g4, 0, none⟩))), .agg #[.int .i64 g1, .int .i64 g2, .slice A1 g3.length c1]⟩] [some (.agg #[.int .i64 g1, .int .i64 g2, .slice A1 g3.length c1])] [1, 2, 3, 4, 17] [pl 1 (.int .i64 column1), pl 2 (.int .i64 k1), pl 3 (.int .i64 who1), pl 4 (.pointer (some ⟨g4, 0, none⟩)), pl 17 (.agg #[.int .i64 g1, .int .i64 g2, .slice A1 g3.length c1])] hF hS (by kernel_rfl) (by kernel_rfl) ?_ (fun a w hF hS => ?_)
  · exact obs_cons (ob_loadA (cs := #[.int .i64 g1, .int .i64 g2, .slice A1 g3.length c1]) (by kernel_rfl) (by kernel_rfl) (fun _ _ hS => (hS.at_ 0 rfl).cellsAt 0 (by rfl))) <| obs_nil
  refine at_call (f := 13) (args := #[.agg #[.int .i64 g1, .int .i64 g2, .slice A1 g3.length c1]]) (d := 18) hF (by kernel_rfl) (by kernel_rfl) Try.func13 (by kernel_rfl) rfl (gameroomref_GridOf_w hr1 hS (fun _ hS => (hr_g3 _ (hS.dropN 1))) _hc_g3 rfl) (fun v a w hR hF => ?_)
  clear hS
  obtain ⟨A2, c2, rfl, hS⟩ := hR
  have hS : Sep w0 B w (own 3 (.slice A2 r1.2.2.length c2) (vI r1.2.2) :: blk g4 24 #[.int .i64 g1, .int .i64 g2, .slice A1 g3.length c1] :: fs) := hS
  refine at_run 2 [] [] [1, 2, 3, 4, 18, 19, 20] [pl 1 (.int .i64 column1), pl 2 (.int .i64 k1), pl 3 (.int .i64 who1), pl 4 (.pointer (some ⟨g4, 0, none⟩)), pl 18 (.agg #[.int .i64 r1.1, .int .i64 r1.2.1, .slice A2 r1.2.2.length c2]), pl 19 (.int .i64 column1), pl 20 (.int .i64 k1)] hF hS (by kernel_rfl) (by kernel_rfl) ?_ (fun a w hF hS => ?_)
  · exact obs_nil
  refine at_call (f := 29) (args := #[.agg #[.int .i64 r1.1, .int .i64 r1.2.1, .slice A2 r1.2.2.length c2], .int .i64 column1, .int .i64 k1]) (d := 21) hF (by kernel_rfl) (by kernel_rfl) Try.func29 (by kernel_rfl) rfl (four_Drop_w hr2 hS (fun _ hS => (hS.at_ 0 rfl).rd) ((hS.at_ 0 rfl).cap1) rfl) (fun v a w hR hF => ?_)
  clear hS
  obtain ⟨A3, c3, rfl, hS⟩ := hR
  have hS : Sep w0 B w (own 3 (.slice A3 r2.2.2.1.length c3) (vI r2.2.2.1) :: own 3 (.slice A2 r1.2.2.length c2) (vI r1.2.2) :: blk g4 24 #[.int .i64 g1, .int .i64 g2, .slice A1 g3.length c1] :: fs) := hS
  refine at_run 3 [] [] [1, 2, 3, 4, 22, 23] [pl 1 (.int .i64 column1), pl 2 (.int .i64 k1), pl 3 (.int .i64 who1), pl 4 (.pointer (some ⟨g4, 0, none⟩)), pl 22 (.agg #[.int .i64 r2.1, .int .i64 r2.2.1, .slice A3 r2.2.2.1.length c3]), pl 23 (.int .i64 r2.2.2.2)] hF hS (by kernel_rfl) (by kernel_rfl) ?_ (fun a w hF hS => ?_)
  · exact obs_nil
  refine at_do (d := 9) (s := vS (Instr.alloc 24 true (.tuple #[]))) (v := .pointer (some ⟨w.heap.size, 0, none⟩)) (w' := w.alloc (.cells #[.int .i64 0, .int .i64 0, .slice none 0 0] 24)) hF (by kernel_rfl) (by kernel_rfl) (by kernel_rfl) (fun a hF => ?_)
  have hS : Sep w0 B (w.alloc (.cells #[.int .i64 0, .int .i64 0, .slice none 0 0] 24)) (blk w.heap.size 24 #[.int .i64 0, .int .i64 0, .slice none 0 0] :: (own 3 (.slice A3 r2.2.2.1.length c3) (vI r2.2.2.1) :: own 3 (.slice A2 r1.2.2.length c2) (vI r1.2.2) :: blk g4 24 #[.int .i64 g1, .int .i64 g2, .slice A1 g3.length c1] :: fs)) := hS.box 24 #[.int .i64 0, .int .i64 0, .slice none 0 0]
  generalize w.heap.size = g5 at hF hS
  generalize w.alloc (.cells #[.int .i64 0, .int .i64 0, .slice none 0 0] 24) = w at hS ⊢
  obtain ⟨w, hrun, hS⟩ := run_putA (P := Try.prog) (t := 24) (us := #[.int .i64 r2.1, .int .i64 r2.2.1, .slice A3 r2.2.2.1.length c3]) (o := 0) (hS.at_ 0 rfl) (by kernel_rfl) (all_one (by kernel_rfl)) (Nat.le_of_ble_eq_true (by kernel_rfl))
  refine at_skip hF (by kernel_rfl) hrun ?_
  have hS : Sep w0 B w (blk g5 24 #[.int .i64 r2.1, .int .i64 r2.2.1, .slice A3 r2.2.2.1.length c3] :: own 3 (.slice A3 r2.2.2.1.length c3) (vI r2.2.2.1) :: own 3 (.slice A2 r1.2.2.length c2) (vI r1.2.2) :: blk g4 24 #[.int .i64 g1, .int .i64 g2, .slice A1 g3.length c1] :: fs) := hS
  refine at_run 1 [] [] [1, 2, 3, 4, 9, 10] [pl 1 (.int .i64 column1), pl 2 (.int .i64 k1), pl 3 (.int .i64 who1), pl 4 (.pointer (some ⟨g4, 0, none⟩)), pl 9 (.pointer (some ⟨g5, 0, none⟩)), pl 10 (.int .i64 r2.2.2.2)] hF hS (by kernel_rfl) (by kernel_rfl) ?_ (fun a w hF hS => ?_)
  · exact obs_nil
  refine at_end [1, 2, 3, 4, 9, 10] [pl 1 (.int .i64 column1), pl 2 (.int .i64 k1), pl 3 (.int .i64 who1), pl 4 (.pointer (some ⟨g4, 0, none⟩)), pl 9 (.pointer (some ⟨g5, 0, none⟩)), pl 10 (.int .i64 r2.2.2.2)] hF rfl (by kernel_rfl) (fun hF => ?_)
  refine then_n ?_
  refine seqR ?_
  obtain ⟨r3, hr3, hm⟩ := call_b hm
  obtain ⟨r4, hr4, hm⟩ := call_b hm
  refine at_run 1 [⟨false, [], vS (Instr.loadAt 24 (.pointer (some ⟨g4, 0, none⟩))), .agg #[.int .i64 g1, .int .i64 g2, .slice A1 g3.length c1]⟩] [some (.agg #[.int .i64 g1, .int .i64 g2, .slice A1 g3.length c1])] [1, 2, 3, 4, 9, 10, 25] [pl 1 (.int .i64 column1), pl 2 (.int .i64 k1), pl 3 (.int .i64 who1), pl 4 (.pointer (some ⟨g4, 0, none⟩)), pl 9 (.pointer (some ⟨g5, 0, none⟩)), pl 10 (.int .i64 r2.2.2.2), pl 25 (.agg #[.int .i64 g1, .int .i64 g2, .slice A1 g3.length c1])] hF hS (by kernel_rfl) (by kernel_rfl) ?_ (fun a w hF hS => ?_)
  · exact obs_cons (ob_loadA (cs := #[.int .i64 g1, .int .i64 g2, .slice A1 g3.length c1]) (by kernel_rfl) (by kernel_rfl) (fun _ _ hS => (hS.at_ 3 rfl).cellsAt 0 (by rfl))) <| obs_nil
  refine at_call (f := 13) (args := #[.agg #[.int .i64 g1, .int .i64 g2, .slice A1 g3.length c1]]) (d := 26) hF (by kernel_rfl) (by kernel_rfl) Try.func13 (by kernel_rfl) rfl (gameroomref_GridOf_w hr3 hS (fun _ hS => (hr_g3 _ (hS.dropN 4))) _hc_g3 rfl) (fun v a w hR hF => ?_)
  clear hS
  obtain ⟨A4, c4, rfl, hS⟩ := hR
  have hS : Sep w0 B w (own 3 (.slice A4 r3.2.2.length c4) (vI r3.2.2) :: blk g5 24 #[.int .i64 r2.1, .int .i64 r2.2.1, .slice A3 r2.2.2.1.length c3] :: own 3 (.slice A3 r2.2.2.1.length c3) (vI r2.2.2.1) :: own 3 (.slice A2 r1.2.2.length c2) (vI r1.2.2) :: blk g4 24 #[.int .i64 g1, .int .i64 g2, .slice A1 g3.length c1] :: fs) := hS
  refine at_run 2 [] [] [1, 2, 3, 4, 9, 10, 26, 27, 28] [pl 1 (.int .i64 column1), pl 2 (.int .i64 k1), pl 3 (.int .i64 who1), pl 4 (.pointer (some ⟨g4, 0, none⟩)), pl 9 (.pointer (some ⟨g5, 0, none⟩)), pl 10 (.int .i64 r2.2.2.2), pl 26 (.agg #[.int .i64 r3.1, .int .i64 r3.2.1, .slice A4 r3.2.2.length c4]), pl 27 (.int .i64 who1), pl 28 (.int .i64 k1)] hF hS (by kernel_rfl) (by kernel_rfl) ?_ (fun a w hF hS => ?_)
  · exact obs_nil
  refine at_call (f := 30) (args := #[.agg #[.int .i64 r3.1, .int .i64 r3.2.1, .slice A4 r3.2.2.length c4], .int .i64 who1, .int .i64 k1]) (d := 29) hF (by kernel_rfl) (by kernel_rfl) Try.func30 (by kernel_rfl) rfl (four_Threats_w hr4 hS (fun _ hS => (hS.at_ 0 rfl).rd) ((hS.at_ 0 rfl).cap1) rfl) (fun v a w hR hF => ?_)
  clear hS
  obtain ⟨A5, c5, rfl, hS⟩ := hR
  have hS : Sep w0 B w (own 3 (.slice A5 r4.1.length c5) (vI r4.1) :: own 3 (.slice A4 r3.2.2.length c4) (vI r3.2.2) :: blk g5 24 #[.int .i64 r2.1, .int .i64 r2.2.1, .slice A3 r2.2.2.1.length c3] :: own 3 (.slice A3 r2.2.2.1.length c3) (vI r2.2.2.1) :: own 3 (.slice A2 r1.2.2.length c2) (vI r1.2.2) :: blk g4 24 #[.int .i64 g1, .int .i64 g2, .slice A1 g3.length c1] :: fs) := hS
  refine at_run 5 [] [] [1, 2, 3, 4, 9, 10, 11, 12] [pl 1 (.int .i64 column1), pl 2 (.int .i64 k1), pl 3 (.int .i64 who1), pl 4 (.pointer (some ⟨g4, 0, none⟩)), pl 9 (.pointer (some ⟨g5, 0, none⟩)), pl 10 (.int .i64 r2.2.2.2), pl 11 (.slice A5 r4.1.length c5), pl 12 (.int .i64 r4.2)] hF hS (by kernel_rfl) (by kernel_rfl) ?_ (fun a w hF hS => ?_)
  · exact obs_nil
  refine at_end [1, 2, 3, 4, 9, 10, 11, 12] [pl 1 (.int .i64 column1), pl 2 (.int .i64 k1), pl 3 (.int .i64 who1), pl 4 (.pointer (some ⟨g4, 0, none⟩)), pl 9 (.pointer (some ⟨g5, 0, none⟩)), pl 10 (.int .i64 r2.2.2.2), pl 11 (.slice A5 r4.1.length c5), pl 12 (.int .i64 r4.2)] hF rfl (by kernel_rfl) (fun hF => ?_)
  refine then_n ?_
  refine seq_cut (fun a w => Fr 98 [pl 1 (.int .i64 column1), pl 2 (.int .i64 k1), pl 3 (.int .i64 who1), pl 4 (.pointer (some ⟨g4, 0, none⟩)), pl 9 (.pointer (some ⟨g5, 0, none⟩)), pl 10 (.int .i64 r2.2.2.2), pl 11 (.slice A5 r4.1.length c5), pl 12 (.int .i64 r4.2)] a ∧ Sep w0 B w (blk g4 24 #[.int .i64 g1, .int .i64 g2, .slice A1 g3.length c1] :: blk g5 24 #[.int .i64 r2.1, .int .i64 r2.2.1, .slice A3 r2.2.2.1.length c3] :: own 3 (.slice A3 r2.2.2.1.length c3) (vI r2.2.2.1) :: own 3 (.slice A5 r4.1.length c5) (vI r4.1) :: fs) ∧ ((gameroomlaw_FourDrops_J1 g1 g2 g3 column1 k1 who1 r2 r4)).bind some = some r) ?_ ?_
  · rintro a w ⟨hF, hS, hm⟩
    unfold gameroomlaw_FourDrops_J1 at hm
    refine seqR ?_
    obtain ⟨r7, hr7, hm⟩ := call_b hm
    refine at_run 3 [⟨false, [], vS (Instr.loadAt 24 (.pointer (some ⟨g4, 0, none⟩))), .agg #[.int .i64 g1, .int .i64 g2, .slice A1 g3.length c1]⟩] [some (.agg #[.int .i64 g1, .int .i64 g2, .slice A1 g3.length c1]), none, none] [2, 3, 4, 9, 10, 11, 12, 51, 52, 53] [pl 2 (.int .i64 k1), pl 3 (.int .i64 who1), pl 4 (.pointer (some ⟨g4, 0, none⟩)), pl 9 (.pointer (some ⟨g5, 0, none⟩)), pl 10 (.int .i64 r2.2.2.2), pl 11 (.slice A5 r4.1.length c5), pl 12 (.int .i64 r4.2), pl 51 (.agg #[.int .i64 g1, .int .i64 g2, .slice A1 g3.length c1]), pl 52 (.int .i64 column1), pl 53 (.int .i64 k1)] hF hS (by kernel_rfl) (by kernel_rfl) ?_ (fun a w hF hS => ?_)
    · exact obs_cons (ob_loadA (cs := #[.int .i64 g1, .int .i64 g2, .slice A1 g3.length c1]) (by kernel_rfl) (by kernel_rfl) (fun _ _ hS => (hS.at_ 0 rfl).cellsAt 0 (by rfl))) <| obs_nil
    refine at_call (f := 32) (args := #[.agg #[.int .i64 g1, .int .i64 g2, .slice A1 g3.length c1], .int .i64 column1, .int .i64 k1]) (d := 54) hF (by kernel_rfl) (by kernel_rfl) Try.func32 (by kernel_rfl) rfl (gameroomref_DropOf_w hr7 hS (fun _ hS => (hr_g3 _ (hS.dropN 4))) _hc_g3 rfl) (fun v a w hR hF => ?_)
    clear hS
    obtain ⟨A6, c6, rfl, hS⟩ := hR
    have hS : Sep w0 B w (own 3 (.slice A6 r7.2.2.1.length c6) (vI r7.2.2.1) :: blk g4 24 #[.int .i64 g1, .int .i64 g2, .slice A1 g3.length c1] :: blk g5 24 #[.int .i64 r2.1, .int .i64 r2.2.1, .slice A3 r2.2.2.1.length c3] :: own 3 (.slice A3 r2.2.2.1.length c3) (vI r2.2.2.1) :: own 3 (.slice A5 r4.1.length c5) (vI r4.1) :: fs) := hS
    refine at_run 3 [] [] [2, 3, 4, 9, 10, 11, 12, 55, 56] [pl 2 (.int .i64 k1), pl 3 (.int .i64 who1), pl 4 (.pointer (some ⟨g4, 0, none⟩)), pl 9 (.pointer (some ⟨g5, 0, none⟩)), pl 10 (.int .i64 r2.2.2.2), pl 11 (.slice A5 r4.1.length c5), pl 12 (.int .i64 r4.2), pl 55 (.agg #[.int .i64 r7.1, .int .i64 r7.2.1, .slice A6 r7.2.2.1.length c6]), pl 56 (.int .i64 r7.2.2.2)] hF hS (by kernel_rfl) (by kernel_rfl) ?_ (fun a w hF hS => ?_)
    · exact obs_nil
    refine at_do (d := 13) (s := vS (Instr.alloc 24 true (.tuple #[]))) (v := .pointer (some ⟨w.heap.size, 0, none⟩)) (w' := w.alloc (.cells #[.int .i64 0, .int .i64 0, .slice none 0 0] 24)) hF (by kernel_rfl) (by kernel_rfl) (by kernel_rfl) (fun a hF => ?_)
    have hS : Sep w0 B (w.alloc (.cells #[.int .i64 0, .int .i64 0, .slice none 0 0] 24)) (blk w.heap.size 24 #[.int .i64 0, .int .i64 0, .slice none 0 0] :: (own 3 (.slice A6 r7.2.2.1.length c6) (vI r7.2.2.1) :: blk g4 24 #[.int .i64 g1, .int .i64 g2, .slice A1 g3.length c1] :: blk g5 24 #[.int .i64 r2.1, .int .i64 r2.2.1, .slice A3 r2.2.2.1.length c3] :: own 3 (.slice A3 r2.2.2.1.length c3) (vI r2.2.2.1) :: own 3 (.slice A5 r4.1.length c5) (vI r4.1) :: fs)) := hS.box 24 #[.int .i64 0, .int .i64 0, .slice none 0 0]
    generalize w.heap.size = g6 at hF hS
    generalize w.alloc (.cells #[.int .i64 0, .int .i64 0, .slice none 0 0] 24) = w at hS ⊢
    obtain ⟨w, hrun, hS⟩ := run_putA (P := Try.prog) (t := 24) (us := #[.int .i64 r7.1, .int .i64 r7.2.1, .slice A6 r7.2.2.1.length c6]) (o := 0) (hS.at_ 0 rfl) (by kernel_rfl) (all_one (by kernel_rfl)) (Nat.le_of_ble_eq_true (by kernel_rfl))
    refine at_skip hF (by kernel_rfl) hrun ?_
    have hS : Sep w0 B w (blk g6 24 #[.int .i64 r7.1, .int .i64 r7.2.1, .slice A6 r7.2.2.1.length c6] :: own 3 (.slice A6 r7.2.2.1.length c6) (vI r7.2.2.1) :: blk g4 24 #[.int .i64 g1, .int .i64 g2, .slice A1 g3.length c1] :: blk g5 24 #[.int .i64 r2.1, .int .i64 r2.2.1, .slice A3 r2.2.2.1.length c3] :: own 3 (.slice A3 r2.2.2.1.length c3) (vI r2.2.2.1) :: own 3 (.slice A5 r4.1.length c5) (vI r4.1) :: fs) := hS
    refine at_run 1 [] [] [2, 3, 4, 9, 10, 11, 12, 13, 14] [pl 2 (.int .i64 k1), pl 3 (.int .i64 who1), pl 4 (.pointer (some ⟨g4, 0, none⟩)), pl 9 (.pointer (some ⟨g5, 0, none⟩)), pl 10 (.int .i64 r2.2.2.2), pl 11 (.slice A5 r4.1.length c5), pl 12 (.int .i64 r4.2), pl 13 (.pointer (some ⟨g6, 0, none⟩)), pl 14 (.int .i64 r7.2.2.2)] hF hS (by kernel_rfl) (by kernel_rfl) ?_ (fun a w hF hS => ?_)
    · exact obs_nil
    refine at_end [2, 3, 4, 9, 10, 11, 12, 13, 14] [pl 2 (.int .i64 k1), pl 3 (.int .i64 who1), pl 4 (.pointer (some ⟨g4, 0, none⟩)), pl 9 (.pointer (some ⟨g5, 0, none⟩)), pl 10 (.int .i64 r2.2.2.2), pl 11 (.slice A5 r4.1.length c5), pl 12 (.int .i64 r4.2), pl 13 (.pointer (some ⟨g6, 0, none⟩)), pl 14 (.int .i64 r7.2.2.2)] hF rfl (by kernel_rfl) (fun hF => ?_)
    refine then_n ?_
    refine seq_cut (fun a w => Fr 98 [pl 2 (.int .i64 k1), pl 3 (.int .i64 who1), pl 4 (.pointer (some ⟨g4, 0, none⟩)), pl 11 (.slice A5 r4.1.length c5), pl 12 (.int .i64 r4.2)] a ∧ Sep w0 B w (blk g4 24 #[.int .i64 g1, .int .i64 g2, .slice A1 g3.length c1] :: own 3 (.slice A5 r4.1.length c5) (vI r4.1) :: fs) ∧ ((gameroomlaw_FourDrops_J2 g1 g2 g3 k1 who1 r4)).bind some = some r) ?_ ?_
    · rintro a w ⟨hF, hS, hm⟩
      unfold gameroomlaw_FourDrops_J2 at hm
      refine reg [] [] [2, 3, 4, 11, 12, 15] [pl 2 (.int .i64 k1), pl 3 (.int .i64 who1), pl 4 (.pointer (some ⟨g4, 0, none⟩)), pl 11 (.slice A5 r4.1.length c5), pl 12 (.int .i64 r4.2), pl 15 (.int .i64 0)] hF hS Fol (by kernel_rfl) (by kernel_rfl) (by kernel_rfl) ?_ (fun a w hF hS => ?_)
      · exact obs_nil
      refine seq_cut (fun a w => ∃ (no1 : Int), Fr 98 [pl 2 (.int .i64 k1), pl 3 (.int .i64 who1), pl 4 (.pointer (some ⟨g4, 0, none⟩)), pl 11 (.slice A5 r4.1.length c5), pl 12 (.int .i64 r4.2), pl 15 (.int .i64 no1)] a ∧ Sep w0 B w (blk g4 24 #[.int .i64 g1, .int .i64 g2, .slice A1 g3.length c1] :: own 3 (.slice A5 r4.1.length c5) (vI r4.1) :: fs) ∧ ((gameroomlaw_FourDrops_J3 g1 g2 g3 k1 who1 r4) no1).bind some = some r) ?_ ?_
      · rintro a w ⟨no1, hF, hS, hm⟩
        unfold gameroomlaw_FourDrops_J3 at hm
        refine seq_cut (fun a w => Fr 98 [pl 2 (.int .i64 k1), pl 3 (.int .i64 who1), pl 4 (.pointer (some ⟨g4, 0, none⟩)), pl 11 (.slice A5 r4.1.length c5), pl 12 (.int .i64 r4.2)] a ∧ Sep w0 B w (blk g4 24 #[.int .i64 g1, .int .i64 g2, .slice A1 g3.length c1] :: own 3 (.slice A5 r4.1.length c5) (vI r4.1) :: fs) ∧ ((gameroomlaw_FourDrops_J4 g1 g2 g3 k1 who1 r4)).bind some = some r) ?_ ?_
        · rintro a w ⟨hF, hS, hm⟩
          unfold gameroomlaw_FourDrops_J4 at hm
          refine seq_cut (fun a w => ∃ (z1 : Bool), Fr 98 [pl 8 (.bool z1)] a ∧ Sep w0 B w (fs) ∧ (gameroomlaw_FourDrops_J5 z1).bind some = some r) ?_ ?_
          · rintro a w ⟨z1, hF, hS, hm⟩
            unfold gameroomlaw_FourDrops_J5 at hm
            refine wp_ret ?_
            have hm : some z1 = some r := hm
            obtain rfl := Option.some.inj hm
            exact retV (rs := [.tmp 8]) (vs := [.bool z1]) hF rfl (rv_t (by kernel_rfl) <| rv_nil) rfl ⟨rfl, hS⟩
          · refine oneR ?_
            refine at_run 7 [⟨false, [((r4.2 == 0), true)], vS (Instr.loadAt 24 (.pointer (some ⟨g4, 0, none⟩))), .agg #[.int .i64 g1, .int .i64 g2, .slice A1 g3.length c1]⟩] [none, none, none, none, some (.agg #[.int .i64 g1, .int .i64 g2, .slice A1 g3.length c1]), none, none] [90, 91, 92, 93, 94] [pl 90 (.bool (r4.2 == 0)), ⟨91, [(90, true)], .slice A5 r4.1.length c5⟩, ⟨92, [(90, true)], .agg #[.int .i64 g1, .int .i64 g2, .slice A1 g3.length c1]⟩, ⟨93, [(90, true)], .int .i64 who1⟩, ⟨94, [(90, true)], .int .i64 k1⟩] hF hS (by kernel_rfl) (by kernel_rfl) ?_ (fun a w hF hS => ?_)
            · exact obs_cons (ob_loadA (cs := #[.int .i64 g1, .int .i64 g2, .slice A1 g3.length c1]) (by kernel_rfl) (by kernel_rfl) (fun _ _ hS => (hS.at_ 0 rfl).cellsAt 0 (by rfl))) <| obs_nil
            rcases Bool.eq_false_or_eq_true (r4.2 == 0) with hg1 | hg1
            · replace hm := if_t hm hg1
              obtain ⟨r9, hr9, hm⟩ := call_b hm
              obtain ⟨r10, hr10, hm⟩ := call_b hm
              refine at_gcall (hs := [((r4.2 == 0), true)]) (fun y hy => by simp only [List.mem_cons, List.not_mem_nil, or_false] at hy; subst hy; first | exact hg1) (f := 33) (args := #[.agg #[.int .i64 g1, .int .i64 g2, .slice A1 g3.length c1], .int .i64 who1, .int .i64 k1]) (d := 95) hF (by kernel_rfl) (by kernel_rfl) Try.func33 (by kernel_rfl) rfl (gameroomref_ThreatsOf_w hr9 hS (fun _ hS => (hr_g3 _ (hS.dropN 2))) _hc_g3 rfl) (fun v a w hR hF => ?_)
              clear hS
              obtain ⟨A7, c7, rfl, hS⟩ := hR
              have hS : Sep w0 B w (own 3 (.slice A7 r9.length c7) (vI r9) :: blk g4 24 #[.int .i64 g1, .int .i64 g2, .slice A1 g3.length c1] :: own 3 (.slice A5 r4.1.length c5) (vI r4.1) :: fs) := hS
              refine at_run 3 [⟨false, [((r4.2 == 0), true)], callFunc 20 #[.slice A5 r4.1.length c5, .slice A7 r9.length c7], .bool r10⟩] [some (.bool r10), none, none] [8] [pl 8 (.bool ((r4.2 == 0) && r10))] hF hS (by kernel_rfl) (by kernel_rfl) ?_ (fun a w hF hS => ?_)
              · exact obs_cons (ob_call Try.func20 (by kernel_rfl) rfl (fun hy _ hS => gameroomlaw_sameInts_w (ite_some hr10 (by rw [show (r4.2 == 0) = true from hy ((r4.2 == 0), true) (by simp)]; try rfl)) hS (fun _ hS => (hS.at_ 2 rfl).rd) ((hS.at_ 2 rfl).cap1) rfl (fun _ hS => (hS.at_ 0 rfl).rd) ((hS.at_ 0 rfl).cap1) rfl)) <| obs_nil
              refine at_end [8] [pl 8 (.bool ((r4.2 == 0) && r10))] hF rfl (by kernel_rfl) (fun hF => ?_)
              refine then_n ?_
              have hS := hS.pickN 3 [] (by decide)
              exact ⟨((r4.2 == 0) && r10), hF.weak [8] (by kernel_rfl), hS, hm⟩
            · replace hm := if_f hm hg1
              obtain ⟨r11, hr11, hm⟩ := call_b hm
              refine at_gskip (d := 95) (v := .slice none 0 0) (hs := [((r4.2 == 0), true)]) (ctx := [(90, true)]) hF (by kernel_rfl) (by kernel_rfl) (fun h => absurd (h ((r4.2 == 0), true) (by simp)) (by simp [hg1])) (fun a hF => ?_)
              refine at_run 3 [⟨false, [((r4.2 == 0), true)], callFunc 20 #[.slice A5 r4.1.length c5, .slice none 0 0], .bool r11⟩] [some (.bool r11), none, none] [8] [pl 8 (.bool ((r4.2 == 0) && r11))] hF hS (by kernel_rfl) (by kernel_rfl) ?_ (fun a w hF hS => ?_)
              · exact obs_cons (Ob.vac (fun h => absurd (h ((r4.2 == 0), true) (by simp)) (by simp [hg1]))) <| obs_nil
              refine at_end [8] [pl 8 (.bool ((r4.2 == 0) && r11))] hF rfl (by kernel_rfl) (fun hF => ?_)
              refine then_n ?_
              have hS := hS.pickN 2 [] (by decide)
              exact ⟨((r4.2 == 0) && r11), hF.weak [8] (by kernel_rfl), hS, hm⟩
        · refine reg [] [] [2, 3, 4, 11, 12, 15, 79] [pl 2 (.int .i64 k1), pl 3 (.int .i64 who1), pl 4 (.pointer (some ⟨g4, 0, none⟩)), pl 11 (.slice A5 r4.1.length c5), pl 12 (.int .i64 r4.2), pl 15 (.int .i64 no1), pl 79 (.bool (no1 != 0))] hF hS Fol (by kernel_rfl) (by kernel_rfl) (by kernel_rfl) ?_ (fun a w hF hS => ?_)
          · exact obs_nil
          refine cond_ev (t := 79) (b := (no1 != 0)) hF (by kernel_rfl) (fun hb => ?_) (fun hb => ?_)
          · replace hm := if_t hm hb
            refine reg [] [] [8] [pl 8 (.bool ((r4.2 == no1) && ((r4.1.length : Int) == 0)))] hF hS Fol (by kernel_rfl) (by kernel_rfl) (by kernel_rfl) ?_ (fun a w hF hS => ?_)
            · exact obs_nil
            refine wp_ret ?_
            refine then_r ?_
            have hS := hS.pickN 2 [] (by decide)
            have hm : some ((r4.2 == no1) && ((r4.1.length : Int) == 0)) = some r := hm
            obtain rfl := Option.some.inj hm
            exact retV (rs := [.tmp 8]) (vs := [.bool ((r4.2 == no1) && ((r4.1.length : Int) == 0))]) hF rfl (rv_t (by kernel_rfl) <| rv_nil) rfl ⟨rfl, hS⟩
          · replace hm := if_f hm hb
            refine wp_skip ?_
            refine then_n ?_
            exact ⟨hF.weak [2, 3, 4, 11, 12] (by kernel_rfl), hS, hm⟩
      · refine reg [] [] [2, 3, 4, 11, 12, 15, 71] [pl 2 (.int .i64 k1), pl 3 (.int .i64 who1), pl 4 (.pointer (some ⟨g4, 0, none⟩)), pl 11 (.slice A5 r4.1.length c5), pl 12 (.int .i64 r4.2), pl 15 (.int .i64 0), pl 71 (.bool ((decide (k1 < 1)) || (decide ((10 : Int) < k1))))] hF hS Fol (by kernel_rfl) (by kernel_rfl) (by kernel_rfl) ?_ (fun a w hF hS => ?_)
        · exact obs_nil
        refine cond_ev (t := 71) (b := (decide (k1 < 1)) || (decide ((10 : Int) < k1))) hF (by kernel_rfl) (fun hb => ?_) (fun hb => ?_)
        · replace hm := if_t hm hb
          refine reg1 [] [] [2, 3, 4, 11, 12, 15] [pl 2 (.int .i64 k1), pl 3 (.int .i64 who1), pl 4 (.pointer (some ⟨g4, 0, none⟩)), pl 11 (.slice A5 r4.1.length c5), pl 12 (.int .i64 r4.2), pl 15 (.int .i64 3)] hF hS Fol (by kernel_rfl) (by kernel_rfl) (by kernel_rfl) ?_ (fun a w hF hS => ?_)
          · exact obs_nil
          refine then_n ?_
          exact ⟨3, hF.weak [2, 3, 4, 11, 12, 15] (by kernel_rfl), hS, hm⟩
        · replace hm := if_f hm hb
          refine reg [] [] [2, 3, 4, 11, 12, 15, 77] [pl 2 (.int .i64 k1), pl 3 (.int .i64 who1), pl 4 (.pointer (some ⟨g4, 0, none⟩)), pl 11 (.slice A5 r4.1.length c5), pl 12 (.int .i64 r4.2), pl 15 (.int .i64 0), pl 77 (.bool ((who1 != 1) && (who1 != 2)))] hF hS Fol (by kernel_rfl) (by kernel_rfl) (by kernel_rfl) ?_ (fun a w hF hS => ?_)
          · exact obs_nil
          refine cond_ev (t := 77) (b := (who1 != 1) && (who1 != 2)) hF (by kernel_rfl) (fun hb => ?_) (fun hb => ?_)
          · replace hm := if_t hm hb
            refine reg1 [] [] [2, 3, 4, 11, 12, 15] [pl 2 (.int .i64 k1), pl 3 (.int .i64 who1), pl 4 (.pointer (some ⟨g4, 0, none⟩)), pl 11 (.slice A5 r4.1.length c5), pl 12 (.int .i64 r4.2), pl 15 (.int .i64 4)] hF hS Fol (by kernel_rfl) (by kernel_rfl) (by kernel_rfl) ?_ (fun a w hF hS => ?_)
            · exact obs_nil
            refine then_n ?_
            exact ⟨4, hF.weak [2, 3, 4, 11, 12, 15] (by kernel_rfl), hS, hm⟩
          · replace hm := if_f hm hb
            refine wp_skip ?_
            refine then_n ?_
            exact ⟨0, hF.weak [2, 3, 4, 11, 12, 15] (by kernel_rfl), hS, hm⟩
    · obtain ⟨r8, hr8, hm⟩ := call_b hm
      refine reg [⟨false, [((r2.2.2.2 != r7.2.2.2), false)], vS (Instr.loadAt 24 (.pointer (some ⟨g5, 0, none⟩))), .agg #[.int .i64 r2.1, .int .i64 r2.2.1, .slice A3 r2.2.2.1.length c3]⟩, ⟨false, [((r2.2.2.2 != r7.2.2.2), false)], vS (Instr.loadAt 24 (.pointer (some ⟨g6, 0, none⟩))), .agg #[.int .i64 r7.1, .int .i64 r7.2.1, .slice A6 r7.2.2.1.length c6]⟩, ⟨false, [((r2.2.2.2 != r7.2.2.2), false)], callFunc 17 #[.agg #[.int .i64 r2.1, .int .i64 r2.2.1, .slice A3 r2.2.2.1.length c3], .agg #[.int .i64 r7.1, .int .i64 r7.2.1, .slice A6 r7.2.2.1.length c6]], .bool r8⟩] [none, none, none, none, some (.agg #[.int .i64 r2.1, .int .i64 r2.2.1, .slice A3 r2.2.2.1.length c3]), some (.agg #[.int .i64 r7.1, .int .i64 r7.2.1, .slice A6 r7.2.2.1.length c6]), some (.bool r8), none, none] [2, 3, 4, 11, 12, 65] [pl 2 (.int .i64 k1), pl 3 (.int .i64 who1), pl 4 (.pointer (some ⟨g4, 0, none⟩)), pl 11 (.slice A5 r4.1.length c5), pl 12 (.int .i64 r4.2), pl 65 (.bool ((r2.2.2.2 != r7.2.2.2) || (!r8)))] hF hS Fol (by kernel_rfl) (by kernel_rfl) (by kernel_rfl) ?_ (fun a w hF hS => ?_)
      · exact obs_cons (ob_loadA (cs := #[.int .i64 r2.1, .int .i64 r2.2.1, .slice A3 r2.2.2.1.length c3]) (by kernel_rfl) (by kernel_rfl) (fun _ _ hS => (hS.at_ 3 rfl).cellsAt 0 (by rfl))) <| obs_cons (ob_loadA (cs := #[.int .i64 r7.1, .int .i64 r7.2.1, .slice A6 r7.2.2.1.length c6]) (by kernel_rfl) (by kernel_rfl) (fun _ _ hS => (hS.at_ 0 rfl).cellsAt 0 (by rfl))) <| obs_cons (ob_call Try.func17 (by kernel_rfl) rfl (fun hy _ hS => gameroomref_SameGrid_w (ite_some hr8 (by rw [show (r2.2.2.2 != r7.2.2.2) = false from hy ((r2.2.2.2 != r7.2.2.2), false) (by simp)]; try rfl)) hS (fun _ hS => (hS.at_ 4 rfl).rd) ((hS.at_ 4 rfl).cap1) rfl (fun _ hS => (hS.at_ 1 rfl).rd) ((hS.at_ 1 rfl).cap1) rfl)) <| obs_nil
      refine cond_ev (t := 65) (b := (r2.2.2.2 != r7.2.2.2) || (!r8)) hF (by kernel_rfl) (fun hb => ?_) (fun hb => ?_)
      · replace hm := if_t hm hb
        refine reg [] [] [8] [pl 8 (.bool false)] hF hS Fol (by kernel_rfl) (by kernel_rfl) (by kernel_rfl) ?_ (fun a w hF hS => ?_)
        · exact obs_nil
        refine wp_ret ?_
        refine then_r ?_
        have hS := hS.pickN 6 [] (by decide)
        have hm : some false = some r := hm
        obtain rfl := Option.some.inj hm
        exact retV (rs := [.tmp 8]) (vs := [.bool false]) hF rfl (rv_t (by kernel_rfl) <| rv_nil) rfl ⟨rfl, hS⟩
      · replace hm := if_f hm hb
        refine wp_skip ?_
        refine then_n ?_
        have hS := hS.pickN 6 [2, 5] (by decide)
        exact ⟨hF.weak [2, 3, 4, 11, 12] (by kernel_rfl), hS, hm⟩
  · obtain ⟨r5, hr5, hm⟩ := call_b hm
    refine reg [⟨false, [], vS (Instr.loadAt 24 (.pointer (some ⟨g4, 0, none⟩))), .agg #[.int .i64 g1, .int .i64 g2, .slice A1 g3.length c1]⟩, ⟨false, [], callFunc 31 #[.agg #[.int .i64 g1, .int .i64 g2, .slice A1 g3.length c1]], .bool r5⟩] [some (.agg #[.int .i64 g1, .int .i64 g2, .slice A1 g3.length c1]), some (.bool r5), none] [1, 2, 3, 4, 9, 10, 11, 12, 34] [pl 1 (.int .i64 column1), pl 2 (.int .i64 k1), pl 3 (.int .i64 who1), pl 4 (.pointer (some ⟨g4, 0, none⟩)), pl 9 (.pointer (some ⟨g5, 0, none⟩)), pl 10 (.int .i64 r2.2.2.2), pl 11 (.slice A5 r4.1.length c5), pl 12 (.int .i64 r4.2), pl 34 (.bool (!r5))] hF hS Fol (by kernel_rfl) (by kernel_rfl) (by kernel_rfl) ?_ (fun a w hF hS => ?_)
    · exact obs_cons (ob_loadA (cs := #[.int .i64 g1, .int .i64 g2, .slice A1 g3.length c1]) (by kernel_rfl) (by kernel_rfl) (fun _ _ hS => (hS.at_ 5 rfl).cellsAt 0 (by rfl))) <| obs_cons (ob_call Try.func31 (by kernel_rfl) rfl (fun _ _ hS => gameroomref_WellMay_w hr5 hS (fun _ hS => (hr_g3 _ (hS.dropN 6))) _hc_g3 rfl)) <| obs_nil
    refine cond_ev (t := 34) (b := !r5) hF (by kernel_rfl) (fun hb => ?_) (fun hb => ?_)
    · replace hm := if_t hm hb
      obtain ⟨r6, hr6, hm⟩ := call_b hm
      refine reg [⟨false, [((r2.2.2.2 == 12), true)], vS (Instr.loadAt 24 (.pointer (some ⟨g5, 0, none⟩))), .agg #[.int .i64 r2.1, .int .i64 r2.2.1, .slice A3 r2.2.2.1.length c3]⟩, ⟨false, [((r2.2.2.2 == 12), true)], callFunc 16 #[.agg #[.int .i64 r2.1, .int .i64 r2.2.1, .slice A3 r2.2.2.1.length c3]], .bool r6⟩] [none, none, none, some (.agg #[.int .i64 r2.1, .int .i64 r2.2.1, .slice A3 r2.2.2.1.length c3]), some (.bool r6), none, none, none, none, none, none, none, none, none, none, none] [8] [pl 8 (.bool ((((r2.2.2.2 == 12) && r6) && (r4.2 == 12)) && ((r4.1.length : Int) == 0)))] hF hS Fol (by kernel_rfl) (by kernel_rfl) (by kernel_rfl) ?_ (fun a w hF hS => ?_)
      · exact obs_cons (ob_loadA (cs := #[.int .i64 r2.1, .int .i64 r2.2.1, .slice A3 r2.2.2.1.length c3]) (by kernel_rfl) (by kernel_rfl) (fun _ _ hS => (hS.at_ 2 rfl).cellsAt 0 (by rfl))) <| obs_cons (ob_call Try.func16 (by kernel_rfl) rfl (fun hy _ hS => gameroomlaw_noGrid_w (ite_some hr6 (by rw [show (r2.2.2.2 == 12) = true from hy ((r2.2.2.2 == 12), true) (by simp)]; try rfl)) hS (fun _ hS => (hS.at_ 3 rfl).rd) ((hS.at_ 3 rfl).cap1) rfl)) <| obs_nil
      refine wp_ret ?_
      refine then_r ?_
      have hS := hS.pickN 6 [] (by decide)
      have hm : some ((((r2.2.2.2 == 12) && r6) && (r4.2 == 12)) && ((r4.1.length : Int) == 0)) = some r := hm
      obtain rfl := Option.some.inj hm
      exact retV (rs := [.tmp 8]) (vs := [.bool ((((r2.2.2.2 == 12) && r6) && (r4.2 == 12)) && ((r4.1.length : Int) == 0))]) hF rfl (rv_t (by kernel_rfl) <| rv_nil) rfl ⟨rfl, hS⟩
    · replace hm := if_f hm hb
      refine wp_skip ?_
      refine then_n ?_
      have hS := hS.pickN 6 [5, 2, 3, 0] (by decide)
      exact ⟨hF.weak [1, 2, 3, 4, 9, 10, 11, 12] (by kernel_rfl), hS, hm⟩

end Go.Proofs.Ytogecbgngnjhgaa
