/-
  Models and walks, printed by our own program (wip/gen).
-/
import Derived.Test.YtbmhcapeikebgaaFB
import Derived.Test.YtbmhcapeikebgaaLibJ
import Derived.Test.YtbmhcapeikebgaaLibD
import Derived.Test.YtbmhcapeikebgaaNGSa
namespace Go.Proofs.Ytbmhcapeikebgaa
open Go Go.GL Go.RowKit

noncomputable def gameroomref_StepOf_m (b1 : List Int) (b2 : Int) (b3 : Int) (b4 : Int) (from1 : Int) (pips1 : Int) : Option (List Int × Int × Int × Int × Bool) :=
  (gameroomref_GammonOf_m b1 b2 b3 b4).bind fun r1 => if (b4 == 1) then ((gameroomref_StepOf_J1 b1 b2 b3 b4 from1 pips1 r1) b3 (-1)) else ((gameroomref_StepOf_J1 b1 b2 b3 b4 from1 pips1 r1) b2 1)

set_option maxRecDepth 100000 in
set_option maxHeartbeats 4000000 in
theorem gameroomref_StepOf_w {A1 : Option Addr} {c1 : Nat} {n1 : Nat} {b1 : List Int} {b2 : Int} {b3 : Int} {b4 : Int} {from1 : Int} {pips1 : Int} {r : (List Int × Int × Int × Int × Bool)} {w0 w : World} {B : Nat} {fs : List HP} (hm : gameroomref_StepOf_m b1 b2 b3 b4 from1 pips1 = some r) (hS : Sep w0 B w (fs)) (hr_b1 : RdF w0 B fs A1 (vI b1)) (_hc_b1 : b1.length ≤ c1) (_hn_b1 : n1 = b1.length) :
    Calls Try.prog 45 #[.agg #[.slice A1 n1 c1, .int .i64 b2, .int .i64 b3, .int .i64 b4], .int .i64 from1, .int .i64 pips1] w fun e w' => ∃ v, e = .returned v ∧ ∃ (A3 : Option Addr) (c3 : Nat), v = .tuple #[.agg #[.slice A3 r.1.length c3, .int .i64 r.2.1, .int .i64 r.2.2.1, .int .i64 r.2.2.2.1], .bool r.2.2.2.2] ∧ Sep w0 B w' (own 3 (.slice A3 r.1.length c3) (vI r.1) :: fs) := by
  obtain ⟨i3, hi3, hz3, hs3, hb3⟩ := info_parts Info3
  obtain rfl := _hn_b1
  unfold gameroomref_StepOf_m at hm
  replace hm := start_b hm
  refine enter (l := [.agg #[.slice A1 b1.length c1, .int .i64 b2, .int .i64 b3, .int .i64 b4], .int .i64 from1, .int .i64 pips1]) (n := 160) Try.func45 rfl rfl (by simp) (fun a hF => ?_)
  refine seqR ?_
  refine at_do (d := 3) (s := vS (Instr.box 61 (.agg #[.slice A1 b1.length c1, .int .i64 b2, .int .i64 b3, .int .i64 b4]))) (v := .pointer (some ⟨w.heap.size, 0, none⟩)) (w' := w.alloc (.cells #[.slice A1 b1.length c1, .int .i64 b2, .int .i64 b3, .int .i64 b4] 61)) hF (by kernel_rfl) (by kernel_rfl) (by kernel_rfl) (fun a hF => ?_)
  have hS : Sep w0 B (w.alloc (.cells #[.slice A1 b1.length c1, .int .i64 b2, .int .i64 b3, .int .i64 b4] 61)) (blk w.heap.size 61 #[.slice A1 b1.length c1, .int .i64 b2, .int .i64 b3, .int .i64 b4] :: (fs)) := hS.box 61 #[.slice A1 b1.length c1, .int .i64 b2, .int .i64 b3, .int .i64 b4]
  generalize w.heap.size = g1 at hF hS
  generalize w.alloc (.cells #[.slice A1 b1.length c1, .int .i64 b2, .int .i64 b3, .int .i64 b4] 61) = w at hS ⊢
  refine at_do (d := 6) (s := vS (Instr.alloc 61 true (.tuple #[]))) (v := .pointer (some ⟨w.heap.size, 0, none⟩)) (w' := w.alloc (.cells #[.slice none 0 0, .int .i64 0, .int .i64 0, .int .i64 0] 61)) hF (by kernel_rfl) (by kernel_rfl) (by kernel_rfl) (fun a hF => ?_)
  have hS : Sep w0 B (w.alloc (.cells #[.slice none 0 0, .int .i64 0, .int .i64 0, .int .i64 0] 61)) (blk w.heap.size 61 #[.slice none 0 0, .int .i64 0, .int .i64 0, .int .i64 0] :: (blk g1 61 #[.slice A1 b1.length c1, .int .i64 b2, .int .i64 b3, .int .i64 b4] :: fs)) := hS.box 61 #[.slice none 0 0, .int .i64 0, .int .i64 0, .int .i64 0]
  generalize w.heap.size = g2 at hF hS
  generalize w.alloc (.cells #[.slice none 0 0, .int .i64 0, .int .i64 0, .int .i64 0] 61) = w at hS ⊢
  refine at_run 1 [] [] [1, 2, 3, 6] [pl 1 (.int .i64 from1), pl 2 (.int .i64 pips1), pl 3 (.pointer (some ⟨g1, 0, none⟩)), pl 6 (.pointer (some ⟨g2, 0, none⟩))] hF hS (by kernel_rfl) (by kernel_rfl) ?_ (fun a w hF hS => ?_)
  · exact obs_nil
  refine at_end [1, 2, 3, 6] [pl 1 (.int .i64 from1), pl 2 (.int .i64 pips1), pl 3 (.pointer (some ⟨g1, 0, none⟩)), pl 6 (.pointer (some ⟨g2, 0, none⟩))] hF rfl (by kernel_rfl) (fun hF => ?_)
  refine then_n ?_
  refine seqR ?_
  obtain ⟨r1, hr1, hm⟩ := call_b hm
  refine at_run 1 [⟨false, [], vS (Instr.loadAt 61 (.pointer (some ⟨g1, 0, none⟩))), .agg #[.slice A1 b1.length c1, .int .i64 b2, .int .i64 b3, .int .i64 b4]⟩] [some (.agg #[.slice A1 b1.length c1, .int .i64 b2, .int .i64 b3, .int .i64 b4])] [1, 2, 3, 6, 14] [pl 1 (.int .i64 from1), pl 2 (.int .i64 pips1), pl 3 (.pointer (some ⟨g1, 0, none⟩)), pl 6 (.pointer (some ⟨g2, 0, none⟩)), pl 14 (.agg #[.slice A1 b1.length c1, .int .i64 b2, .int .i64 b3, .int .i64 b4])] hF hS (by kernel_rfl) (by kernel_rfl) ?_ (fun a w hF hS => ?_)
  · exact obs_cons (ob_loadA (cs := #[.slice A1 b1.length c1, .int .i64 b2, .int .i64 b3, .int .i64 b4]) (by kernel_rfl) (by kernel_rfl) (fun _ _ hS => (hS.at_ 1 rfl).cellsAt 0 (by rfl))) <| obs_nil
  refine at_call (f := 41) (args := #[.agg #[.slice A1 b1.length c1, .int .i64 b2, .int .i64 b3, .int .i64 b4]]) (d := 15) hF (by kernel_rfl) (by kernel_rfl) Try.func41 (by kernel_rfl) rfl (gameroomref_GammonOf_w hr1 hS (fun _ hS => (hr_b1 _ (hS.dropN 2))) _hc_b1 rfl) (fun v a w hR hF => ?_)
  clear hS
  obtain ⟨A2, c2, rfl, hS⟩ := hR
  have hS : Sep w0 B w (own 3 (.slice A2 r1.1.length c2) (vI r1.1) :: blk g2 61 #[.slice none 0 0, .int .i64 0, .int .i64 0, .int .i64 0] :: blk g1 61 #[.slice A1 b1.length c1, .int .i64 b2, .int .i64 b3, .int .i64 b4] :: fs) := hS
  refine at_do (d := 8) (s := vS (Instr.alloc 61 true (.tuple #[]))) (v := .pointer (some ⟨w.heap.size, 0, none⟩)) (w' := w.alloc (.cells #[.slice none 0 0, .int .i64 0, .int .i64 0, .int .i64 0] 61)) hF (by kernel_rfl) (by kernel_rfl) (by kernel_rfl) (fun a hF => ?_)
  have hS : Sep w0 B (w.alloc (.cells #[.slice none 0 0, .int .i64 0, .int .i64 0, .int .i64 0] 61)) (blk w.heap.size 61 #[.slice none 0 0, .int .i64 0, .int .i64 0, .int .i64 0] :: (own 3 (.slice A2 r1.1.length c2) (vI r1.1) :: blk g2 61 #[.slice none 0 0, .int .i64 0, .int .i64 0, .int .i64 0] :: blk g1 61 #[.slice A1 b1.length c1, .int .i64 b2, .int .i64 b3, .int .i64 b4] :: fs)) := hS.box 61 #[.slice none 0 0, .int .i64 0, .int .i64 0, .int .i64 0]
  generalize w.heap.size = g3 at hF hS
  generalize w.alloc (.cells #[.slice none 0 0, .int .i64 0, .int .i64 0, .int .i64 0] 61) = w at hS ⊢
  obtain ⟨w, hrun, hS⟩ := run_putA (P := Try.prog) (t := 61) (us := #[.slice A2 r1.1.length c2, .int .i64 r1.2.1, .int .i64 r1.2.2.1, .int .i64 r1.2.2.2]) (o := 0) (hS.at_ 0 rfl) (by kernel_rfl) (all_one (by kernel_rfl)) (Nat.le_of_ble_eq_true (by kernel_rfl))
  refine at_skip hF (by kernel_rfl) hrun ?_
  have hS : Sep w0 B w (blk g3 61 #[.slice A2 r1.1.length c2, .int .i64 r1.2.1, .int .i64 r1.2.2.1, .int .i64 r1.2.2.2] :: own 3 (.slice A2 r1.1.length c2) (vI r1.1) :: blk g2 61 #[.slice none 0 0, .int .i64 0, .int .i64 0, .int .i64 0] :: blk g1 61 #[.slice A1 b1.length c1, .int .i64 b2, .int .i64 b3, .int .i64 b4] :: fs) := hS
  refine at_end [1, 2, 3, 6, 8] [pl 1 (.int .i64 from1), pl 2 (.int .i64 pips1), pl 3 (.pointer (some ⟨g1, 0, none⟩)), pl 6 (.pointer (some ⟨g2, 0, none⟩)), pl 8 (.pointer (some ⟨g3, 0, none⟩))] hF rfl (by kernel_rfl) (fun hF => ?_)
  refine then_n ?_
  refine reg [⟨false, [], vS (Instr.loadAt 3 (.pointer (some ⟨g1, 1, none⟩))), .int .i64 b2⟩] [none, some (.int .i64 b2), none] [1, 2, 3, 6, 8, 9] [pl 1 (.int .i64 from1), pl 2 (.int .i64 pips1), pl 3 (.pointer (some ⟨g1, 0, none⟩)), pl 6 (.pointer (some ⟨g2, 0, none⟩)), pl 8 (.pointer (some ⟨g3, 0, none⟩)), pl 9 (.int .i64 b2)] hF hS Fol (by kernel_rfl) (by kernel_rfl) (by kernel_rfl) ?_ (fun a w hF hS => ?_)
  · exact obs_cons (ob_load Agg3 (fun _ _ hS => (hS.at_ 3 rfl).cell rfl)) <| obs_nil
  refine reg [] [] [1, 2, 3, 6, 8, 9, 10] [pl 1 (.int .i64 from1), pl 2 (.int .i64 pips1), pl 3 (.pointer (some ⟨g1, 0, none⟩)), pl 6 (.pointer (some ⟨g2, 0, none⟩)), pl 8 (.pointer (some ⟨g3, 0, none⟩)), pl 9 (.int .i64 b2), pl 10 (.int .i64 1)] hF hS Fol (by kernel_rfl) (by kernel_rfl) (by kernel_rfl) ?_ (fun a w hF hS => ?_)
  · exact obs_nil
  refine seq_cut (fun a w => ∃ (bar1 : Int) (one1 : Int), Fr 160 [pl 1 (.int .i64 from1), pl 2 (.int .i64 pips1), pl 3 (.pointer (some ⟨g1, 0, none⟩)), pl 6 (.pointer (some ⟨g2, 0, none⟩)), pl 8 (.pointer (some ⟨g3, 0, none⟩)), pl 9 (.int .i64 bar1), pl 10 (.int .i64 one1)] a ∧ Sep w0 B w (blk g1 61 #[.slice A1 b1.length c1, .int .i64 b2, .int .i64 b3, .int .i64 b4] :: blk g2 61 #[.slice none 0 0, .int .i64 0, .int .i64 0, .int .i64 0] :: blk g3 61 #[.slice A2 r1.1.length c2, .int .i64 r1.2.1, .int .i64 r1.2.2.1, .int .i64 r1.2.2.2] :: own 3 (.slice A2 r1.1.length c2) (vI r1.1) :: fs) ∧ ((gameroomref_StepOf_J1 b1 b2 b3 b4 from1 pips1 r1) bar1 one1).bind some = some r) ?_ ?_
  · rintro a w ⟨bar1, one1, hF, hS, hm⟩
    unfold gameroomref_StepOf_J1 at hm
    refine seq_cut (fun a w => Fr 160 [pl 1 (.int .i64 from1), pl 2 (.int .i64 pips1), pl 3 (.pointer (some ⟨g1, 0, none⟩)), pl 6 (.pointer (some ⟨g2, 0, none⟩)), pl 8 (.pointer (some ⟨g3, 0, none⟩)), pl 9 (.int .i64 bar1), pl 10 (.int .i64 one1)] a ∧ Sep w0 B w (blk g1 61 #[.slice A1 b1.length c1, .int .i64 b2, .int .i64 b3, .int .i64 b4] :: blk g2 61 #[.slice none 0 0, .int .i64 0, .int .i64 0, .int .i64 0] :: blk g3 61 #[.slice A2 r1.1.length c2, .int .i64 r1.2.1, .int .i64 r1.2.2.1, .int .i64 r1.2.2.2] :: own 3 (.slice A2 r1.1.length c2) (vI r1.1) :: fs) ∧ ((gameroomref_StepOf_J2 b1 b2 b3 b4 from1 pips1 r1 bar1 one1)).bind some = some r) ?_ ?_
    · rintro a w ⟨hF, hS, hm⟩
      unfold gameroomref_StepOf_J2 at hm
      refine reg [] [] [1, 2, 3, 6, 8, 9, 10, 11] [pl 1 (.int .i64 from1), pl 2 (.int .i64 pips1), pl 3 (.pointer (some ⟨g1, 0, none⟩)), pl 6 (.pointer (some ⟨g2, 0, none⟩)), pl 8 (.pointer (some ⟨g3, 0, none⟩)), pl 9 (.int .i64 bar1), pl 10 (.int .i64 one1), pl 11 (.int .i64 25)] hF hS Fol (by kernel_rfl) (by kernel_rfl) (by kernel_rfl) ?_ (fun a w hF hS => ?_)
      · exact obs_nil
      refine seq_cut (fun a w => ∃ (far1 : Int), Fr 160 [pl 1 (.int .i64 from1), pl 2 (.int .i64 pips1), pl 3 (.pointer (some ⟨g1, 0, none⟩)), pl 6 (.pointer (some ⟨g2, 0, none⟩)), pl 8 (.pointer (some ⟨g3, 0, none⟩)), pl 9 (.int .i64 bar1), pl 10 (.int .i64 one1), pl 11 (.int .i64 far1)] a ∧ Sep w0 B w (blk g1 61 #[.slice A1 b1.length c1, .int .i64 b2, .int .i64 b3, .int .i64 b4] :: blk g2 61 #[.slice none 0 0, .int .i64 0, .int .i64 0, .int .i64 0] :: blk g3 61 #[.slice A2 r1.1.length c2, .int .i64 r1.2.1, .int .i64 r1.2.2.1, .int .i64 r1.2.2.2] :: own 3 (.slice A2 r1.1.length c2) (vI r1.1) :: fs) ∧ ((gameroomref_StepOf_J3 b1 b2 b3 b4 from1 pips1 r1 bar1 one1) far1).bind some = some r) ?_ ?_
      · rintro a w ⟨far1, hF, hS, hm⟩
        unfold gameroomref_StepOf_J3 at hm
        refine seq_cut (fun a w => Fr 160 [pl 1 (.int .i64 from1), pl 2 (.int .i64 pips1), pl 3 (.pointer (some ⟨g1, 0, none⟩)), pl 6 (.pointer (some ⟨g2, 0, none⟩)), pl 8 (.pointer (some ⟨g3, 0, none⟩)), pl 10 (.int .i64 one1), pl 11 (.int .i64 far1)] a ∧ Sep w0 B w (blk g1 61 #[.slice A1 b1.length c1, .int .i64 b2, .int .i64 b3, .int .i64 b4] :: blk g2 61 #[.slice none 0 0, .int .i64 0, .int .i64 0, .int .i64 0] :: blk g3 61 #[.slice A2 r1.1.length c2, .int .i64 r1.2.1, .int .i64 r1.2.2.1, .int .i64 r1.2.2.2] :: own 3 (.slice A2 r1.1.length c2) (vI r1.1) :: fs) ∧ ((gameroomref_StepOf_J4 b1 b2 b3 b4 from1 pips1 r1 one1 far1)).bind some = some r) ?_ ?_
        · rintro a w ⟨hF, hS, hm⟩
          unfold gameroomref_StepOf_J4 at hm
          refine reg [] [] [1, 3, 6, 8, 10, 13] [pl 1 (.int .i64 from1), pl 3 (.pointer (some ⟨g1, 0, none⟩)), pl 6 (.pointer (some ⟨g2, 0, none⟩)), pl 8 (.pointer (some ⟨g3, 0, none⟩)), pl 10 (.int .i64 one1), pl 13 (.int .i64 (w64 (far1 - pips1)))] hF hS Fol (by kernel_rfl) (by kernel_rfl) (by kernel_rfl) ?_ (fun a w hF hS => ?_)
          · exact obs_nil
          refine seq_cut (fun a w => ∃ (to1 : Int), Fr 160 [pl 1 (.int .i64 from1), pl 3 (.pointer (some ⟨g1, 0, none⟩)), pl 6 (.pointer (some ⟨g2, 0, none⟩)), pl 8 (.pointer (some ⟨g3, 0, none⟩)), pl 10 (.int .i64 one1), pl 13 (.int .i64 to1)] a ∧ Sep w0 B w (blk g1 61 #[.slice A1 b1.length c1, .int .i64 b2, .int .i64 b3, .int .i64 b4] :: blk g2 61 #[.slice none 0 0, .int .i64 0, .int .i64 0, .int .i64 0] :: blk g3 61 #[.slice A2 r1.1.length c2, .int .i64 r1.2.1, .int .i64 r1.2.2.1, .int .i64 r1.2.2.2] :: own 3 (.slice A2 r1.1.length c2) (vI r1.1) :: fs) ∧ ((gameroomref_StepOf_J9 b1 b2 b3 b4 from1 r1 one1) to1).bind some = some r) ?_ ?_
          · rintro a w ⟨to1, hF, hS, hm⟩
            unfold gameroomref_StepOf_J9 at hm
            refine seq_cut (fun a w => Fr 160 [pl 1 (.int .i64 from1), pl 3 (.pointer (some ⟨g1, 0, none⟩)), pl 6 (.pointer (some ⟨g2, 0, none⟩)), pl 8 (.pointer (some ⟨g3, 0, none⟩)), pl 10 (.int .i64 one1), pl 13 (.int .i64 to1)] a ∧ Sep w0 B w (blk g1 61 #[.slice A1 b1.length c1, .int .i64 b2, .int .i64 b3, .int .i64 b4] :: blk g2 61 #[.slice none 0 0, .int .i64 0, .int .i64 0, .int .i64 0] :: blk g3 61 #[.slice A2 r1.1.length c2, .int .i64 r1.2.1, .int .i64 r1.2.2.1, .int .i64 r1.2.2.2] :: own 3 (.slice A2 r1.1.length c2) (vI r1.1) :: fs) ∧ ((gameroomref_StepOf_J10 b1 b2 b3 b4 from1 r1 one1 to1)).bind some = some r) ?_ ?_
            · rintro a w ⟨hF, hS, hm⟩
              unfold gameroomref_StepOf_J10 at hm
              refine seq_cut (fun a w => ∃ (out1 : List Int) (out2 : Int) (out3 : Int), Fr 160 [pl 1 (.int .i64 from1), pl 3 (.pointer (some ⟨g1, 0, none⟩)), pl 6 (.pointer (some ⟨g2, 0, none⟩)), pl 8 (.pointer (some ⟨g3, 0, none⟩)), pl 10 (.int .i64 one1), pl 13 (.int .i64 to1)] a ∧ Sep w0 B w (blk g1 61 #[.slice A1 b1.length c1, .int .i64 b2, .int .i64 b3, .int .i64 b4] :: blk g2 61 #[.slice none 0 0, .int .i64 0, .int .i64 0, .int .i64 0] :: blk g3 61 #[.slice A2 r1.1.length c2, .int .i64 out2, .int .i64 out3, .int .i64 r1.2.2.2] :: own 3 (.slice A2 r1.1.length c2) (vI out1) :: fs) ∧ ((gameroomref_StepOf_J11 b4 from1 r1 one1 to1) out1 out2 out3).bind some = some r) ?_ ?_
              · rintro a w ⟨out1, out2, out3, hF, hS, hm⟩
                unfold gameroomref_StepOf_J11 at hm
                refine seqR ?_
                obtain ⟨hp4, hm⟩ := asrt_b hm
                obtain ⟨hp5, hm⟩ := asrt_b hm
                refine at_run 8 [⟨false, [], vS (Instr.loadAt 40 (.pointer (some ⟨g3, 0, none⟩))), .slice A2 r1.1.length c2⟩, ⟨true, [], vS (Instr.indexAt 40 (.slice A2 r1.1.length c2) (.int .i64 to1)), .pointer (some (sAddr A2 to1))⟩, ⟨false, [], vS (Instr.loadAt 3 (.pointer (some (sAddr A2 to1)))), .int .i64 (geti out1 to1)⟩, ⟨true, [], vS (Instr.indexAt 40 (.slice A2 r1.1.length c2) (.int .i64 to1)), .pointer (some (sAddr A2 to1))⟩] [none, some (.slice A2 r1.1.length c2), none, some (.pointer (some (sAddr A2 to1))), some (.int .i64 (geti out1 to1)), none, none, some (.pointer (some (sAddr A2 to1)))] [1, 3, 6, 8, 10, 136, 137] [pl 1 (.int .i64 from1), pl 3 (.pointer (some ⟨g1, 0, none⟩)), pl 6 (.pointer (some ⟨g2, 0, none⟩)), pl 8 (.pointer (some ⟨g3, 0, none⟩)), pl 10 (.int .i64 one1), pl 136 (.int .i64 (w64 ((geti out1 to1) + one1))), pl 137 (.pointer (some (sAddr A2 to1)))] hF hS (by kernel_rfl) (by kernel_rfl) ?_ (fun a w hF hS => ?_)
                · exact obs_cons (ob_load Agg40 (fun _ _ hS => (hS.at_ 2 rfl).cell rfl)) <| obs_cons (ob_ix1 (f := (Value.int .i64)) (m := out1) Und40 hi3 hs3 (hS.at_ 3 rfl).rd ((hS.at_ 3 rfl).len1) (fun _ => hp4)) <| obs_cons (ob_get1 (n := r1.1.length) (m := out1) (Value.int .i64) (0 : Int) Agg3 (fun _ hS => ⟨_, (hS.at_ 3 rfl).rd⟩) (fun _ hS => ((hS.at_ 3 rfl).len1)) (fun _ => hp4)) <| obs_cons (ob_ix1 (f := (Value.int .i64)) (m := out1) Und40 hi3 hs3 (hS.at_ 3 rfl).rd ((hS.at_ 3 rfl).len1) (fun _ => hp5)) <| obs_nil
                obtain ⟨w, hrun, hS⟩ := run_set1 (P := Try.prog) (t := 3) (x := (w64 ((geti out1 to1) + one1))) (Value.int .i64) (hS.at_ 3 rfl) hi3 hs3 rfl rfl hp5
                refine at_skip hF (by kernel_rfl) hrun ?_
                have hS : Sep w0 B w (blk g1 61 #[.slice A1 b1.length c1, .int .i64 b2, .int .i64 b3, .int .i64 b4] :: blk g2 61 #[.slice none 0 0, .int .i64 0, .int .i64 0, .int .i64 0] :: blk g3 61 #[.slice A2 r1.1.length c2, .int .i64 out2, .int .i64 out3, .int .i64 r1.2.2.2] :: own 3 (.slice A2 r1.1.length c2) (vI (out1.set (Int.toNat to1) (w64 ((geti out1 to1) + one1)))) :: fs) := hS
                refine at_end [1, 3, 6, 8, 10] [pl 1 (.int .i64 from1), pl 3 (.pointer (some ⟨g1, 0, none⟩)), pl 6 (.pointer (some ⟨g2, 0, none⟩)), pl 8 (.pointer (some ⟨g3, 0, none⟩)), pl 10 (.int .i64 one1)] hF rfl (by kernel_rfl) (fun hF => ?_)
                refine then_n ?_
                refine seq_cut (fun a w => ∃ (out4 : List Int) (out5 : Int) (out6 : Int), Fr 160 [pl 6 (.pointer (some ⟨g2, 0, none⟩)), pl 8 (.pointer (some ⟨g3, 0, none⟩))] a ∧ Sep w0 B w (blk g2 61 #[.slice none 0 0, .int .i64 0, .int .i64 0, .int .i64 0] :: blk g3 61 #[.slice A2 r1.1.length c2, .int .i64 out5, .int .i64 out6, .int .i64 r1.2.2.2] :: own 3 (.slice A2 r1.1.length c2) (vI out4) :: fs) ∧ ((gameroomref_StepOf_J12 r1) out4 out5 out6).bind some = some r) ?_ ?_
                · rintro a w ⟨out4, out5, out6, hF, hS, hm⟩
                  unfold gameroomref_StepOf_J12 at hm
                  refine seqR ?_
                  refine at_run 1 [⟨false, [], vS (Instr.loadAt 61 (.pointer (some ⟨g3, 0, none⟩))), .agg #[.slice A2 r1.1.length c2, .int .i64 out5, .int .i64 out6, .int .i64 r1.2.2.2]⟩] [some (.agg #[.slice A2 r1.1.length c2, .int .i64 out5, .int .i64 out6, .int .i64 r1.2.2.2])] [6, 159] [pl 6 (.pointer (some ⟨g2, 0, none⟩)), pl 159 (.agg #[.slice A2 r1.1.length c2, .int .i64 out5, .int .i64 out6, .int .i64 r1.2.2.2])] hF hS (by kernel_rfl) (by kernel_rfl) ?_ (fun a w hF hS => ?_)
                  · exact obs_cons (ob_loadA (cs := #[.slice A2 r1.1.length c2, .int .i64 out5, .int .i64 out6, .int .i64 r1.2.2.2]) (by kernel_rfl) (by kernel_rfl) (fun _ _ hS => (hS.at_ 1 rfl).cellsAt 0 (by rfl))) <| obs_nil
                  obtain ⟨w, hrun, hS⟩ := run_putA (P := Try.prog) (t := 61) (us := #[.slice A2 r1.1.length c2, .int .i64 out5, .int .i64 out6, .int .i64 r1.2.2.2]) (o := 0) (hS.at_ 0 rfl) (by kernel_rfl) (all_one (by kernel_rfl)) (Nat.le_of_ble_eq_true (by kernel_rfl))
                  refine at_skip hF (by kernel_rfl) hrun ?_
                  have hS : Sep w0 B w (blk g2 61 #[.slice A2 r1.1.length c2, .int .i64 out5, .int .i64 out6, .int .i64 r1.2.2.2] :: blk g3 61 #[.slice A2 r1.1.length c2, .int .i64 out5, .int .i64 out6, .int .i64 r1.2.2.2] :: own 3 (.slice A2 r1.1.length c2) (vI out4) :: fs) := hS
                  refine at_run 1 [] [] [6, 7] [pl 6 (.pointer (some ⟨g2, 0, none⟩)), pl 7 (.bool true)] hF hS (by kernel_rfl) (by kernel_rfl) ?_ (fun a w hF hS => ?_)
                  · exact obs_nil
                  refine at_end [6, 7] [pl 6 (.pointer (some ⟨g2, 0, none⟩)), pl 7 (.bool true)] hF rfl (by kernel_rfl) (fun hF => ?_)
                  refine then_n ?_
                  refine wp_ret ?_
                  have hl2 := (hS.at_ 2 rfl).len1
                  have hS := (hS.at_ 2 rfl).reN hl2
                  have hS := (hS.at_ 0 rfl).reBlk (congrArg (fun k9 => (#[.slice A2 k9 c2, .int .i64 out5, .int .i64 out6, .int .i64 r1.2.2.2] : Array Value)) hl2)
                  have hS := (hS.at_ 1 rfl).reBlk (congrArg (fun k9 => (#[.slice A2 k9 c2, .int .i64 out5, .int .i64 out6, .int .i64 r1.2.2.2] : Array Value)) hl2)
                  have hS : Sep w0 B w (blk g2 61 #[.slice A2 out4.length c2, .int .i64 out5, .int .i64 out6, .int .i64 r1.2.2.2] :: blk g3 61 #[.slice A2 out4.length c2, .int .i64 out5, .int .i64 out6, .int .i64 r1.2.2.2] :: own 3 (.slice A2 out4.length c2) (vI out4) :: fs) := hS
                  have hld0 := run_loadVarA (P := Try.prog) (t := 61) (cs := #[.slice A2 out4.length c2, .int .i64 out5, .int .i64 out6, .int .i64 r1.2.2.2]) (by kernel_rfl) (by kernel_rfl) ((hS.at_ 0 rfl).cellsAt 0 (by rfl))
                  have hS := hS.pickN 3 [2] (by decide)
                  have hm : some (out4, out5, out6, r1.2.2.2, true) = some r := hm
                  obtain rfl := Option.some.inj hm
                  exact retV (rs := [.cell 6 61, .tmp 7]) (vs := [.agg #[.slice A2 out4.length c2, .int .i64 out5, .int .i64 out6, .int .i64 r1.2.2.2], .bool true]) hF rfl (rv_c (by kernel_rfl) hld0 <| rv_t (by kernel_rfl) <| rv_nil) rfl ⟨_, rfl, A2, c2, rfl, hS⟩
                · refine reg [] [] [1, 3, 6, 8, 10, 139] [pl 1 (.int .i64 from1), pl 3 (.pointer (some ⟨g1, 0, none⟩)), pl 6 (.pointer (some ⟨g2, 0, none⟩)), pl 8 (.pointer (some ⟨g3, 0, none⟩)), pl 10 (.int .i64 one1), pl 139 (.bool (decide ((0 : Int) < from1)))] hF hS Fol (by kernel_rfl) (by kernel_rfl) (by kernel_rfl) ?_ (fun a w hF hS => ?_)
                  · exact obs_nil
                  refine cond_ev (t := 139) (b := decide ((0 : Int) < from1)) hF (by kernel_rfl) (fun hb => ?_) (fun hb => ?_)
                  · replace hm := if_t hm hb
                    refine oneR ?_
                    obtain ⟨hp6, hm⟩ := asrt_b hm
                    obtain ⟨hp7, hm⟩ := asrt_b hm
                    refine at_run 8 [⟨false, [], vS (Instr.loadAt 40 (.pointer (some ⟨g3, 0, none⟩))), .slice A2 r1.1.length c2⟩, ⟨true, [], vS (Instr.indexAt 40 (.slice A2 r1.1.length c2) (.int .i64 from1)), .pointer (some (sAddr A2 from1))⟩, ⟨false, [], vS (Instr.loadAt 3 (.pointer (some (sAddr A2 from1)))), .int .i64 (geti (out1.set (Int.toNat to1) (w64 ((geti out1 to1) + one1))) from1)⟩, ⟨true, [], vS (Instr.indexAt 40 (.slice A2 r1.1.length c2) (.int .i64 from1)), .pointer (some (sAddr A2 from1))⟩] [none, some (.slice A2 r1.1.length c2), none, some (.pointer (some (sAddr A2 from1))), some (.int .i64 (geti (out1.set (Int.toNat to1) (w64 ((geti out1 to1) + one1))) from1)), none, none, some (.pointer (some (sAddr A2 from1)))] [6, 8, 146, 147] [pl 6 (.pointer (some ⟨g2, 0, none⟩)), pl 8 (.pointer (some ⟨g3, 0, none⟩)), pl 146 (.int .i64 (w64 ((geti (out1.set (Int.toNat to1) (w64 ((geti out1 to1) + one1))) from1) - one1))), pl 147 (.pointer (some (sAddr A2 from1)))] hF hS (by kernel_rfl) (by kernel_rfl) ?_ (fun a w hF hS => ?_)
                    · exact obs_cons (ob_load Agg40 (fun _ _ hS => (hS.at_ 2 rfl).cell rfl)) <| obs_cons (ob_ix1 (f := (Value.int .i64)) (m := (out1.set (Int.toNat to1) (w64 ((geti out1 to1) + one1)))) Und40 hi3 hs3 (hS.at_ 3 rfl).rd ((hS.at_ 3 rfl).len1) (fun _ => hp6)) <| obs_cons (ob_get1 (n := r1.1.length) (m := (out1.set (Int.toNat to1) (w64 ((geti out1 to1) + one1)))) (Value.int .i64) (0 : Int) Agg3 (fun _ hS => ⟨_, (hS.at_ 3 rfl).rd⟩) (fun _ hS => ((hS.at_ 3 rfl).len1)) (fun _ => hp6)) <| obs_cons (ob_ix1 (f := (Value.int .i64)) (m := (out1.set (Int.toNat to1) (w64 ((geti out1 to1) + one1)))) Und40 hi3 hs3 (hS.at_ 3 rfl).rd ((hS.at_ 3 rfl).len1) (fun _ => hp7)) <| obs_nil
                    obtain ⟨w, hrun, hS⟩ := run_set1 (P := Try.prog) (t := 3) (x := (w64 ((geti (out1.set (Int.toNat to1) (w64 ((geti out1 to1) + one1))) from1) - one1))) (Value.int .i64) (hS.at_ 3 rfl) hi3 hs3 rfl rfl hp7
                    refine at_skip hF (by kernel_rfl) hrun ?_
                    have hS : Sep w0 B w (blk g1 61 #[.slice A1 b1.length c1, .int .i64 b2, .int .i64 b3, .int .i64 b4] :: blk g2 61 #[.slice none 0 0, .int .i64 0, .int .i64 0, .int .i64 0] :: blk g3 61 #[.slice A2 r1.1.length c2, .int .i64 out2, .int .i64 out3, .int .i64 r1.2.2.2] :: own 3 (.slice A2 r1.1.length c2) (vI ((out1.set (Int.toNat to1) (w64 ((geti out1 to1) + one1))).set (Int.toNat from1) (w64 ((geti (out1.set (Int.toNat to1) (w64 ((geti out1 to1) + one1))) from1) - one1)))) :: fs) := hS
                    refine at_end [6, 8] [pl 6 (.pointer (some ⟨g2, 0, none⟩)), pl 8 (.pointer (some ⟨g3, 0, none⟩))] hF rfl (by kernel_rfl) (fun hF => ?_)
                    refine then_n ?_
                    have hS := hS.pickN 4 [1, 2, 3] (by decide)
                    exact ⟨((out1.set (Int.toNat to1) (w64 ((geti out1 to1) + one1))).set (Int.toNat from1) (w64 ((geti (out1.set (Int.toNat to1) (w64 ((geti out1 to1) + one1))) from1) - one1))), out2, out3, hF.weak [6, 8] (by kernel_rfl), hS, hm⟩
                  · replace hm := if_f hm hb
                    refine reg [⟨false, [], vS (Instr.loadAt 3 (.pointer (some ⟨g1, 3, none⟩))), .int .i64 b4⟩] [none, some (.int .i64 b4), none] [6, 8, 150] [pl 6 (.pointer (some ⟨g2, 0, none⟩)), pl 8 (.pointer (some ⟨g3, 0, none⟩)), pl 150 (.bool (b4 == 0))] hF hS Fol (by kernel_rfl) (by kernel_rfl) (by kernel_rfl) ?_ (fun a w hF hS => ?_)
                    · exact obs_cons (ob_load Agg3 (fun _ _ hS => (hS.at_ 0 rfl).cell rfl)) <| obs_nil
                    refine cond_ev (t := 150) (b := (b4 == 0)) hF (by kernel_rfl) (fun hb => ?_) (fun hb => ?_)
                    · replace hm := if_t hm hb
                      refine oneR ?_
                      refine at_run 4 [⟨false, [], vS (Instr.loadAt 3 (.pointer (some ⟨g3, 1, none⟩))), .int .i64 out2⟩] [none, some (.int .i64 out2), none, none] [6, 8, 153, 154] [pl 6 (.pointer (some ⟨g2, 0, none⟩)), pl 8 (.pointer (some ⟨g3, 0, none⟩)), pl 153 (.int .i64 (w64 (out2 - 1))), pl 154 (.pointer (some ⟨g3, 1, none⟩))] hF hS (by kernel_rfl) (by kernel_rfl) ?_ (fun a w hF hS => ?_)
                      · exact obs_cons (ob_load Agg3 (fun _ _ hS => (hS.at_ 2 rfl).cell rfl)) <| obs_nil
                      obtain ⟨w, hrun, hS⟩ := run_put (P := Try.prog) (t := 3) (u := .int .i64 (w64 (out2 - 1))) (i := 1) (hS.at_ 2 rfl) hi3 hs3 rfl (Nat.lt_of_lt_of_eq (Nat.lt_of_succ_le (Nat.le_of_ble_eq_true (by kernel_rfl))) rfl)
                      refine at_skip hF (by kernel_rfl) hrun ?_
                      have hS : Sep w0 B w (blk g1 61 #[.slice A1 b1.length c1, .int .i64 b2, .int .i64 b3, .int .i64 b4] :: blk g2 61 #[.slice none 0 0, .int .i64 0, .int .i64 0, .int .i64 0] :: blk g3 61 #[.slice A2 r1.1.length c2, .int .i64 (w64 (out2 - 1)), .int .i64 out3, .int .i64 r1.2.2.2] :: own 3 (.slice A2 r1.1.length c2) (vI (out1.set (Int.toNat to1) (w64 ((geti out1 to1) + one1)))) :: fs) := hS
                      refine at_end [6, 8] [pl 6 (.pointer (some ⟨g2, 0, none⟩)), pl 8 (.pointer (some ⟨g3, 0, none⟩))] hF rfl (by kernel_rfl) (fun hF => ?_)
                      refine then_n ?_
                      have hS := hS.pickN 4 [1, 2, 3] (by decide)
                      exact ⟨(out1.set (Int.toNat to1) (w64 ((geti out1 to1) + one1))), (w64 (out2 - 1)), out3, hF.weak [6, 8] (by kernel_rfl), hS, hm⟩
                    · replace hm := if_f hm hb
                      refine oneR ?_
                      refine at_run 4 [⟨false, [], vS (Instr.loadAt 3 (.pointer (some ⟨g3, 2, none⟩))), .int .i64 out3⟩] [none, some (.int .i64 out3), none, none] [6, 8, 157, 158] [pl 6 (.pointer (some ⟨g2, 0, none⟩)), pl 8 (.pointer (some ⟨g3, 0, none⟩)), pl 157 (.int .i64 (w64 (out3 - 1))), pl 158 (.pointer (some ⟨g3, 2, none⟩))] hF hS (by kernel_rfl) (by kernel_rfl) ?_ (fun a w hF hS => ?_)
                      · exact obs_cons (ob_load Agg3 (fun _ _ hS => (hS.at_ 2 rfl).cell rfl)) <| obs_nil
                      obtain ⟨w, hrun, hS⟩ := run_put (P := Try.prog) (t := 3) (u := .int .i64 (w64 (out3 - 1))) (i := 2) (hS.at_ 2 rfl) hi3 hs3 rfl (Nat.lt_of_lt_of_eq (Nat.lt_of_succ_le (Nat.le_of_ble_eq_true (by kernel_rfl))) rfl)
                      refine at_skip hF (by kernel_rfl) hrun ?_
                      have hS : Sep w0 B w (blk g1 61 #[.slice A1 b1.length c1, .int .i64 b2, .int .i64 b3, .int .i64 b4] :: blk g2 61 #[.slice none 0 0, .int .i64 0, .int .i64 0, .int .i64 0] :: blk g3 61 #[.slice A2 r1.1.length c2, .int .i64 out2, .int .i64 (w64 (out3 - 1)), .int .i64 r1.2.2.2] :: own 3 (.slice A2 r1.1.length c2) (vI (out1.set (Int.toNat to1) (w64 ((geti out1 to1) + one1)))) :: fs) := hS
                      refine at_end [6, 8] [pl 6 (.pointer (some ⟨g2, 0, none⟩)), pl 8 (.pointer (some ⟨g3, 0, none⟩))] hF rfl (by kernel_rfl) (fun hF => ?_)
                      refine then_n ?_
                      have hS := hS.pickN 4 [1, 2, 3] (by decide)
                      exact ⟨(out1.set (Int.toNat to1) (w64 ((geti out1 to1) + one1))), out2, (w64 (out3 - 1)), hF.weak [6, 8] (by kernel_rfl), hS, hm⟩
              · obtain ⟨r8, hr8, hm⟩ := call_b hm
                refine reg [⟨false, [], vS (Instr.loadAt 61 (.pointer (some ⟨g1, 0, none⟩))), .agg #[.slice A1 b1.length c1, .int .i64 b2, .int .i64 b3, .int .i64 b4]⟩, ⟨false, [], callFunc 101 #[.agg #[.slice A1 b1.length c1, .int .i64 b2, .int .i64 b3, .int .i64 b4], .int .i64 to1], .int .i64 r8⟩] [some (.agg #[.slice A1 b1.length c1, .int .i64 b2, .int .i64 b3, .int .i64 b4]), none, some (.int .i64 r8), none] [1, 3, 6, 8, 10, 13, 114] [pl 1 (.int .i64 from1), pl 3 (.pointer (some ⟨g1, 0, none⟩)), pl 6 (.pointer (some ⟨g2, 0, none⟩)), pl 8 (.pointer (some ⟨g3, 0, none⟩)), pl 10 (.int .i64 one1), pl 13 (.int .i64 to1), pl 114 (.bool (r8 == (-1)))] hF hS Fol (by kernel_rfl) (by kernel_rfl) (by kernel_rfl) ?_ (fun a w hF hS => ?_)
                · exact obs_cons (ob_loadA (cs := #[.slice A1 b1.length c1, .int .i64 b2, .int .i64 b3, .int .i64 b4]) (by kernel_rfl) (by kernel_rfl) (fun _ _ hS => (hS.at_ 0 rfl).cellsAt 0 (by rfl))) <| obs_cons (ob_call Try.func101 (by kernel_rfl) rfl (fun _ _ hS => gameroomref_menAt_w hr8 hS (fun _ hS => (hr_b1 _ (hS.dropN 4))) _hc_b1 rfl)) <| obs_nil
                refine cond_ev (t := 114) (b := (r8 == (-1))) hF (by kernel_rfl) (fun hb => ?_) (fun hb => ?_)
                · replace hm := if_t hm hb
                  refine seqR ?_
                  obtain ⟨hp3, hm⟩ := asrt_b hm
                  refine at_run 4 [⟨false, [], vS (Instr.loadAt 40 (.pointer (some ⟨g3, 0, none⟩))), .slice A2 r1.1.length c2⟩, ⟨true, [], vS (Instr.indexAt 40 (.slice A2 r1.1.length c2) (.int .i64 to1)), .pointer (some (sAddr A2 to1))⟩] [none, some (.slice A2 r1.1.length c2), none, some (.pointer (some (sAddr A2 to1)))] [1, 3, 6, 8, 10, 13, 118] [pl 1 (.int .i64 from1), pl 3 (.pointer (some ⟨g1, 0, none⟩)), pl 6 (.pointer (some ⟨g2, 0, none⟩)), pl 8 (.pointer (some ⟨g3, 0, none⟩)), pl 10 (.int .i64 one1), pl 13 (.int .i64 to1), pl 118 (.pointer (some (sAddr A2 to1)))] hF hS (by kernel_rfl) (by kernel_rfl) ?_ (fun a w hF hS => ?_)
                  · exact obs_cons (ob_load Agg40 (fun _ _ hS => (hS.at_ 2 rfl).cell rfl)) <| obs_cons (ob_ix1 (f := (Value.int .i64)) (m := r1.1) Und40 hi3 hs3 (hS.at_ 3 rfl).rd rfl (fun _ => hp3)) <| obs_nil
                  obtain ⟨w, hrun, hS⟩ := run_set1 (P := Try.prog) (t := 3) (x := 0) (Value.int .i64) (hS.at_ 3 rfl) hi3 hs3 rfl rfl hp3
                  refine at_skip hF (by kernel_rfl) hrun ?_
                  have hS : Sep w0 B w (blk g1 61 #[.slice A1 b1.length c1, .int .i64 b2, .int .i64 b3, .int .i64 b4] :: blk g2 61 #[.slice none 0 0, .int .i64 0, .int .i64 0, .int .i64 0] :: blk g3 61 #[.slice A2 r1.1.length c2, .int .i64 r1.2.1, .int .i64 r1.2.2.1, .int .i64 r1.2.2.2] :: own 3 (.slice A2 r1.1.length c2) (vI (r1.1.set (Int.toNat to1) 0)) :: fs) := hS
                  refine at_end [1, 3, 6, 8, 10, 13] [pl 1 (.int .i64 from1), pl 3 (.pointer (some ⟨g1, 0, none⟩)), pl 6 (.pointer (some ⟨g2, 0, none⟩)), pl 8 (.pointer (some ⟨g3, 0, none⟩)), pl 10 (.int .i64 one1), pl 13 (.int .i64 to1)] hF rfl (by kernel_rfl) (fun hF => ?_)
                  refine then_n ?_
                  refine reg [⟨false, [], vS (Instr.loadAt 3 (.pointer (some ⟨g1, 3, none⟩))), .int .i64 b4⟩] [none, some (.int .i64 b4), none] [1, 3, 6, 8, 10, 13, 121] [pl 1 (.int .i64 from1), pl 3 (.pointer (some ⟨g1, 0, none⟩)), pl 6 (.pointer (some ⟨g2, 0, none⟩)), pl 8 (.pointer (some ⟨g3, 0, none⟩)), pl 10 (.int .i64 one1), pl 13 (.int .i64 to1), pl 121 (.bool (b4 == 0))] hF hS Fol (by kernel_rfl) (by kernel_rfl) (by kernel_rfl) ?_ (fun a w hF hS => ?_)
                  · exact obs_cons (ob_load Agg3 (fun _ _ hS => (hS.at_ 0 rfl).cell rfl)) <| obs_nil
                  refine cond_ev (t := 121) (b := (b4 == 0)) hF (by kernel_rfl) (fun hb => ?_) (fun hb => ?_)
                  · replace hm := if_t hm hb
                    refine oneR ?_
                    refine at_run 4 [⟨false, [], vS (Instr.loadAt 3 (.pointer (some ⟨g3, 2, none⟩))), .int .i64 r1.2.2.1⟩] [none, some (.int .i64 r1.2.2.1), none, none] [1, 3, 6, 8, 10, 13, 124, 125] [pl 1 (.int .i64 from1), pl 3 (.pointer (some ⟨g1, 0, none⟩)), pl 6 (.pointer (some ⟨g2, 0, none⟩)), pl 8 (.pointer (some ⟨g3, 0, none⟩)), pl 10 (.int .i64 one1), pl 13 (.int .i64 to1), pl 124 (.int .i64 (w64 (r1.2.2.1 + 1))), pl 125 (.pointer (some ⟨g3, 2, none⟩))] hF hS (by kernel_rfl) (by kernel_rfl) ?_ (fun a w hF hS => ?_)
                    · exact obs_cons (ob_load Agg3 (fun _ _ hS => (hS.at_ 2 rfl).cell rfl)) <| obs_nil
                    obtain ⟨w, hrun, hS⟩ := run_put (P := Try.prog) (t := 3) (u := .int .i64 (w64 (r1.2.2.1 + 1))) (i := 2) (hS.at_ 2 rfl) hi3 hs3 rfl (Nat.lt_of_lt_of_eq (Nat.lt_of_succ_le (Nat.le_of_ble_eq_true (by kernel_rfl))) rfl)
                    refine at_skip hF (by kernel_rfl) hrun ?_
                    have hS : Sep w0 B w (blk g1 61 #[.slice A1 b1.length c1, .int .i64 b2, .int .i64 b3, .int .i64 b4] :: blk g2 61 #[.slice none 0 0, .int .i64 0, .int .i64 0, .int .i64 0] :: blk g3 61 #[.slice A2 r1.1.length c2, .int .i64 r1.2.1, .int .i64 (w64 (r1.2.2.1 + 1)), .int .i64 r1.2.2.2] :: own 3 (.slice A2 r1.1.length c2) (vI (r1.1.set (Int.toNat to1) 0)) :: fs) := hS
                    refine at_end [1, 3, 6, 8, 10, 13] [pl 1 (.int .i64 from1), pl 3 (.pointer (some ⟨g1, 0, none⟩)), pl 6 (.pointer (some ⟨g2, 0, none⟩)), pl 8 (.pointer (some ⟨g3, 0, none⟩)), pl 10 (.int .i64 one1), pl 13 (.int .i64 to1)] hF rfl (by kernel_rfl) (fun hF => ?_)
                    refine then_n ?_
                    exact ⟨(r1.1.set (Int.toNat to1) 0), r1.2.1, (w64 (r1.2.2.1 + 1)), hF.weak [1, 3, 6, 8, 10, 13] (by kernel_rfl), hS, hm⟩
                  · replace hm := if_f hm hb
                    refine oneR ?_
                    refine at_run 4 [⟨false, [], vS (Instr.loadAt 3 (.pointer (some ⟨g3, 1, none⟩))), .int .i64 r1.2.1⟩] [none, some (.int .i64 r1.2.1), none, none] [1, 3, 6, 8, 10, 13, 128, 129] [pl 1 (.int .i64 from1), pl 3 (.pointer (some ⟨g1, 0, none⟩)), pl 6 (.pointer (some ⟨g2, 0, none⟩)), pl 8 (.pointer (some ⟨g3, 0, none⟩)), pl 10 (.int .i64 one1), pl 13 (.int .i64 to1), pl 128 (.int .i64 (w64 (r1.2.1 + 1))), pl 129 (.pointer (some ⟨g3, 1, none⟩))] hF hS (by kernel_rfl) (by kernel_rfl) ?_ (fun a w hF hS => ?_)
                    · exact obs_cons (ob_load Agg3 (fun _ _ hS => (hS.at_ 2 rfl).cell rfl)) <| obs_nil
                    obtain ⟨w, hrun, hS⟩ := run_put (P := Try.prog) (t := 3) (u := .int .i64 (w64 (r1.2.1 + 1))) (i := 1) (hS.at_ 2 rfl) hi3 hs3 rfl (Nat.lt_of_lt_of_eq (Nat.lt_of_succ_le (Nat.le_of_ble_eq_true (by kernel_rfl))) rfl)
                    refine at_skip hF (by kernel_rfl) hrun ?_
                    have hS : Sep w0 B w (blk g1 61 #[.slice A1 b1.length c1, .int .i64 b2, .int .i64 b3, .int .i64 b4] :: blk g2 61 #[.slice none 0 0, .int .i64 0, .int .i64 0, .int .i64 0] :: blk g3 61 #[.slice A2 r1.1.length c2, .int .i64 (w64 (r1.2.1 + 1)), .int .i64 r1.2.2.1, .int .i64 r1.2.2.2] :: own 3 (.slice A2 r1.1.length c2) (vI (r1.1.set (Int.toNat to1) 0)) :: fs) := hS
                    refine at_end [1, 3, 6, 8, 10, 13] [pl 1 (.int .i64 from1), pl 3 (.pointer (some ⟨g1, 0, none⟩)), pl 6 (.pointer (some ⟨g2, 0, none⟩)), pl 8 (.pointer (some ⟨g3, 0, none⟩)), pl 10 (.int .i64 one1), pl 13 (.int .i64 to1)] hF rfl (by kernel_rfl) (fun hF => ?_)
                    refine then_n ?_
                    exact ⟨(r1.1.set (Int.toNat to1) 0), (w64 (r1.2.1 + 1)), r1.2.2.1, hF.weak [1, 3, 6, 8, 10, 13] (by kernel_rfl), hS, hm⟩
                · replace hm := if_f hm hb
                  refine wp_skip ?_
                  refine then_n ?_
                  exact ⟨r1.1, r1.2.1, r1.2.2.1, hF.weak [1, 3, 6, 8, 10, 13] (by kernel_rfl), hS, hm⟩
            · obtain ⟨r7, hr7, hm⟩ := call_b hm
              refine reg [⟨false, [], vS (Instr.loadAt 61 (.pointer (some ⟨g1, 0, none⟩))), .agg #[.slice A1 b1.length c1, .int .i64 b2, .int .i64 b3, .int .i64 b4]⟩, ⟨false, [], callFunc 101 #[.agg #[.slice A1 b1.length c1, .int .i64 b2, .int .i64 b3, .int .i64 b4], .int .i64 to1], .int .i64 r7⟩] [some (.agg #[.slice A1 b1.length c1, .int .i64 b2, .int .i64 b3, .int .i64 b4]), none, some (.int .i64 r7), none] [1, 3, 6, 8, 10, 13, 109] [pl 1 (.int .i64 from1), pl 3 (.pointer (some ⟨g1, 0, none⟩)), pl 6 (.pointer (some ⟨g2, 0, none⟩)), pl 8 (.pointer (some ⟨g3, 0, none⟩)), pl 10 (.int .i64 one1), pl 13 (.int .i64 to1), pl 109 (.bool (decide (r7 < (-1))))] hF hS Fol (by kernel_rfl) (by kernel_rfl) (by kernel_rfl) ?_ (fun a w hF hS => ?_)
              · exact obs_cons (ob_loadA (cs := #[.slice A1 b1.length c1, .int .i64 b2, .int .i64 b3, .int .i64 b4]) (by kernel_rfl) (by kernel_rfl) (fun _ _ hS => (hS.at_ 0 rfl).cellsAt 0 (by rfl))) <| obs_cons (ob_call Try.func101 (by kernel_rfl) rfl (fun _ _ hS => gameroomref_menAt_w hr7 hS (fun _ hS => (hr_b1 _ (hS.dropN 4))) _hc_b1 rfl)) <| obs_nil
              refine cond_ev (t := 109) (b := decide (r7 < (-1))) hF (by kernel_rfl) (fun hb => ?_) (fun hb => ?_)
              · replace hm := if_t hm hb
                refine seqR ?_
                refine at_run 1 [⟨false, [], vS (Instr.loadAt 61 (.pointer (some ⟨g3, 0, none⟩))), .agg #[.slice A2 r1.1.length c2, .int .i64 r1.2.1, .int .i64 r1.2.2.1, .int .i64 r1.2.2.2]⟩] [some (.agg #[.slice A2 r1.1.length c2, .int .i64 r1.2.1, .int .i64 r1.2.2.1, .int .i64 r1.2.2.2])] [6, 110] [pl 6 (.pointer (some ⟨g2, 0, none⟩)), pl 110 (.agg #[.slice A2 r1.1.length c2, .int .i64 r1.2.1, .int .i64 r1.2.2.1, .int .i64 r1.2.2.2])] hF hS (by kernel_rfl) (by kernel_rfl) ?_ (fun a w hF hS => ?_)
                · exact obs_cons (ob_loadA (cs := #[.slice A2 r1.1.length c2, .int .i64 r1.2.1, .int .i64 r1.2.2.1, .int .i64 r1.2.2.2]) (by kernel_rfl) (by kernel_rfl) (fun _ _ hS => (hS.at_ 2 rfl).cellsAt 0 (by rfl))) <| obs_nil
                obtain ⟨w, hrun, hS⟩ := run_putA (P := Try.prog) (t := 61) (us := #[.slice A2 r1.1.length c2, .int .i64 r1.2.1, .int .i64 r1.2.2.1, .int .i64 r1.2.2.2]) (o := 0) (hS.at_ 1 rfl) (by kernel_rfl) (all_one (by kernel_rfl)) (Nat.le_of_ble_eq_true (by kernel_rfl))
                refine at_skip hF (by kernel_rfl) hrun ?_
                have hS : Sep w0 B w (blk g1 61 #[.slice A1 b1.length c1, .int .i64 b2, .int .i64 b3, .int .i64 b4] :: blk g2 61 #[.slice A2 r1.1.length c2, .int .i64 r1.2.1, .int .i64 r1.2.2.1, .int .i64 r1.2.2.2] :: blk g3 61 #[.slice A2 r1.1.length c2, .int .i64 r1.2.1, .int .i64 r1.2.2.1, .int .i64 r1.2.2.2] :: own 3 (.slice A2 r1.1.length c2) (vI r1.1) :: fs) := hS
                refine at_run 1 [] [] [6, 7] [pl 6 (.pointer (some ⟨g2, 0, none⟩)), pl 7 (.bool false)] hF hS (by kernel_rfl) (by kernel_rfl) ?_ (fun a w hF hS => ?_)
                · exact obs_nil
                refine at_end [6, 7] [pl 6 (.pointer (some ⟨g2, 0, none⟩)), pl 7 (.bool false)] hF rfl (by kernel_rfl) (fun hF => ?_)
                refine then_n ?_
                refine wp_ret ?_
                refine then_r ?_
                have hld0 := run_loadVarA (P := Try.prog) (t := 61) (cs := #[.slice A2 r1.1.length c2, .int .i64 r1.2.1, .int .i64 r1.2.2.1, .int .i64 r1.2.2.2]) (by kernel_rfl) (by kernel_rfl) ((hS.at_ 1 rfl).cellsAt 0 (by rfl))
                have hS := hS.pickN 4 [3] (by decide)
                have hm : some (r1.1, r1.2.1, r1.2.2.1, r1.2.2.2, false) = some r := hm
                obtain rfl := Option.some.inj hm
                exact retV (rs := [.cell 6 61, .tmp 7]) (vs := [.agg #[.slice A2 r1.1.length c2, .int .i64 r1.2.1, .int .i64 r1.2.2.1, .int .i64 r1.2.2.2], .bool false]) hF rfl (rv_c (by kernel_rfl) hld0 <| rv_t (by kernel_rfl) <| rv_nil) rfl ⟨_, rfl, A2, c2, rfl, hS⟩
              · replace hm := if_f hm hb
                refine wp_skip ?_
                refine then_n ?_
                exact ⟨hF.weak [1, 3, 6, 8, 10, 13] (by kernel_rfl), hS, hm⟩
          · refine reg [⟨false, [], vS (Instr.loadAt 3 (.pointer (some ⟨g1, 3, none⟩))), .int .i64 b4⟩] [none, some (.int .i64 b4), none] [1, 3, 6, 8, 10, 13, 103] [pl 1 (.int .i64 from1), pl 3 (.pointer (some ⟨g1, 0, none⟩)), pl 6 (.pointer (some ⟨g2, 0, none⟩)), pl 8 (.pointer (some ⟨g3, 0, none⟩)), pl 10 (.int .i64 one1), pl 13 (.int .i64 (w64 (far1 - pips1))), pl 103 (.bool (b4 == 1))] hF hS Fol (by kernel_rfl) (by kernel_rfl) (by kernel_rfl) ?_ (fun a w hF hS => ?_)
            · exact obs_cons (ob_load Agg3 (fun _ _ hS => (hS.at_ 0 rfl).cell rfl)) <| obs_nil
            refine cond_ev (t := 103) (b := (b4 == 1)) hF (by kernel_rfl) (fun hb => ?_) (fun hb => ?_)
            · replace hm := if_t hm hb
              refine reg1 [] [] [1, 3, 6, 8, 10, 13] [pl 1 (.int .i64 from1), pl 3 (.pointer (some ⟨g1, 0, none⟩)), pl 6 (.pointer (some ⟨g2, 0, none⟩)), pl 8 (.pointer (some ⟨g3, 0, none⟩)), pl 10 (.int .i64 one1), pl 13 (.int .i64 (w64 (25 - (w64 (far1 - pips1)))))] hF hS Fol (by kernel_rfl) (by kernel_rfl) (by kernel_rfl) ?_ (fun a w hF hS => ?_)
              · exact obs_nil
              refine then_n ?_
              exact ⟨(w64 (25 - (w64 (far1 - pips1)))), hF.weak [1, 3, 6, 8, 10, 13] (by kernel_rfl), hS, hm⟩
            · replace hm := if_f hm hb
              refine wp_skip ?_
              refine then_n ?_
              exact ⟨(w64 (far1 - pips1)), hF.weak [1, 3, 6, 8, 10, 13] (by kernel_rfl), hS, hm⟩
        · refine reg [] [] [1, 2, 3, 6, 8, 9, 10, 11, 56] [pl 1 (.int .i64 from1), pl 2 (.int .i64 pips1), pl 3 (.pointer (some ⟨g1, 0, none⟩)), pl 6 (.pointer (some ⟨g2, 0, none⟩)), pl 8 (.pointer (some ⟨g3, 0, none⟩)), pl 9 (.int .i64 bar1), pl 10 (.int .i64 one1), pl 11 (.int .i64 far1), pl 56 (.bool (decide (far1 ≤ pips1)))] hF hS Fol (by kernel_rfl) (by kernel_rfl) (by kernel_rfl) ?_ (fun a w hF hS => ?_)
          · exact obs_nil
          refine cond_ev (t := 56) (b := decide (far1 ≤ pips1)) hF (by kernel_rfl) (fun hb => ?_) (fun hb => ?_)
          · replace hm := if_t hm hb
            refine seq_cut (fun a w => Fr 160 [pl 1 (.int .i64 from1), pl 6 (.pointer (some ⟨g2, 0, none⟩)), pl 8 (.pointer (some ⟨g3, 0, none⟩)), pl 9 (.int .i64 bar1), pl 10 (.int .i64 one1)] a ∧ Sep w0 B w (blk g2 61 #[.slice none 0 0, .int .i64 0, .int .i64 0, .int .i64 0] :: blk g3 61 #[.slice A2 r1.1.length c2, .int .i64 r1.2.1, .int .i64 r1.2.2.1, .int .i64 r1.2.2.2] :: own 3 (.slice A2 r1.1.length c2) (vI r1.1) :: fs) ∧ ((gameroomref_StepOf_J5 from1 r1 bar1 one1)).bind some = some r) ?_ ?_
            · rintro a w ⟨hF, hS, hm⟩
              unfold gameroomref_StepOf_J5 at hm
              refine seq_cut (fun a w => Fr 160 [pl 1 (.int .i64 from1), pl 6 (.pointer (some ⟨g2, 0, none⟩)), pl 8 (.pointer (some ⟨g3, 0, none⟩)), pl 10 (.int .i64 one1)] a ∧ Sep w0 B w (blk g2 61 #[.slice none 0 0, .int .i64 0, .int .i64 0, .int .i64 0] :: blk g3 61 #[.slice A2 r1.1.length c2, .int .i64 r1.2.1, .int .i64 r1.2.2.1, .int .i64 r1.2.2.2] :: own 3 (.slice A2 r1.1.length c2) (vI r1.1) :: fs) ∧ ((gameroomref_StepOf_J8 from1 r1 one1)).bind some = some r) ?_ ?_
              · rintro a w ⟨hF, hS, hm⟩
                unfold gameroomref_StepOf_J8 at hm
                refine seqR ?_
                obtain ⟨hp1, hm⟩ := asrt_b hm
                obtain ⟨hp2, hm⟩ := asrt_b hm
                refine at_run 8 [⟨false, [], vS (Instr.loadAt 40 (.pointer (some ⟨g3, 0, none⟩))), .slice A2 r1.1.length c2⟩, ⟨true, [], vS (Instr.indexAt 40 (.slice A2 r1.1.length c2) (.int .i64 from1)), .pointer (some (sAddr A2 from1))⟩, ⟨false, [], vS (Instr.loadAt 3 (.pointer (some (sAddr A2 from1)))), .int .i64 (geti r1.1 from1)⟩, ⟨true, [], vS (Instr.indexAt 40 (.slice A2 r1.1.length c2) (.int .i64 from1)), .pointer (some (sAddr A2 from1))⟩] [none, some (.slice A2 r1.1.length c2), none, some (.pointer (some (sAddr A2 from1))), some (.int .i64 (geti r1.1 from1)), none, none, some (.pointer (some (sAddr A2 from1)))] [6, 8, 95, 96] [pl 6 (.pointer (some ⟨g2, 0, none⟩)), pl 8 (.pointer (some ⟨g3, 0, none⟩)), pl 95 (.int .i64 (w64 ((geti r1.1 from1) - one1))), pl 96 (.pointer (some (sAddr A2 from1)))] hF hS (by kernel_rfl) (by kernel_rfl) ?_ (fun a w hF hS => ?_)
                · exact obs_cons (ob_load Agg40 (fun _ _ hS => (hS.at_ 1 rfl).cell rfl)) <| obs_cons (ob_ix1 (f := (Value.int .i64)) (m := r1.1) Und40 hi3 hs3 (hS.at_ 2 rfl).rd rfl (fun _ => hp1)) <| obs_cons (ob_get1 (n := r1.1.length) (m := r1.1) (Value.int .i64) (0 : Int) Agg3 (fun _ hS => ⟨_, (hS.at_ 2 rfl).rd⟩) (fun _ hS => rfl) (fun _ => hp1)) <| obs_cons (ob_ix1 (f := (Value.int .i64)) (m := r1.1) Und40 hi3 hs3 (hS.at_ 2 rfl).rd rfl (fun _ => hp2)) <| obs_nil
                obtain ⟨w, hrun, hS⟩ := run_set1 (P := Try.prog) (t := 3) (x := (w64 ((geti r1.1 from1) - one1))) (Value.int .i64) (hS.at_ 2 rfl) hi3 hs3 rfl rfl hp2
                refine at_skip hF (by kernel_rfl) hrun ?_
                have hS : Sep w0 B w (blk g2 61 #[.slice none 0 0, .int .i64 0, .int .i64 0, .int .i64 0] :: blk g3 61 #[.slice A2 r1.1.length c2, .int .i64 r1.2.1, .int .i64 r1.2.2.1, .int .i64 r1.2.2.2] :: own 3 (.slice A2 r1.1.length c2) (vI (r1.1.set (Int.toNat from1) (w64 ((geti r1.1 from1) - one1)))) :: fs) := hS
                refine at_end [6, 8] [pl 6 (.pointer (some ⟨g2, 0, none⟩)), pl 8 (.pointer (some ⟨g3, 0, none⟩))] hF rfl (by kernel_rfl) (fun hF => ?_)
                refine then_n ?_
                refine seqR ?_
                refine at_run 1 [⟨false, [], vS (Instr.loadAt 61 (.pointer (some ⟨g3, 0, none⟩))), .agg #[.slice A2 r1.1.length c2, .int .i64 r1.2.1, .int .i64 r1.2.2.1, .int .i64 r1.2.2.2]⟩] [some (.agg #[.slice A2 r1.1.length c2, .int .i64 r1.2.1, .int .i64 r1.2.2.1, .int .i64 r1.2.2.2])] [6, 97] [pl 6 (.pointer (some ⟨g2, 0, none⟩)), pl 97 (.agg #[.slice A2 r1.1.length c2, .int .i64 r1.2.1, .int .i64 r1.2.2.1, .int .i64 r1.2.2.2])] hF hS (by kernel_rfl) (by kernel_rfl) ?_ (fun a w hF hS => ?_)
                · exact obs_cons (ob_loadA (cs := #[.slice A2 r1.1.length c2, .int .i64 r1.2.1, .int .i64 r1.2.2.1, .int .i64 r1.2.2.2]) (by kernel_rfl) (by kernel_rfl) (fun _ _ hS => (hS.at_ 1 rfl).cellsAt 0 (by rfl))) <| obs_nil
                obtain ⟨w, hrun, hS⟩ := run_putA (P := Try.prog) (t := 61) (us := #[.slice A2 r1.1.length c2, .int .i64 r1.2.1, .int .i64 r1.2.2.1, .int .i64 r1.2.2.2]) (o := 0) (hS.at_ 0 rfl) (by kernel_rfl) (all_one (by kernel_rfl)) (Nat.le_of_ble_eq_true (by kernel_rfl))
                refine at_skip hF (by kernel_rfl) hrun ?_
                have hS : Sep w0 B w (blk g2 61 #[.slice A2 r1.1.length c2, .int .i64 r1.2.1, .int .i64 r1.2.2.1, .int .i64 r1.2.2.2] :: blk g3 61 #[.slice A2 r1.1.length c2, .int .i64 r1.2.1, .int .i64 r1.2.2.1, .int .i64 r1.2.2.2] :: own 3 (.slice A2 r1.1.length c2) (vI (r1.1.set (Int.toNat from1) (w64 ((geti r1.1 from1) - one1)))) :: fs) := hS
                refine at_run 1 [] [] [6, 7] [pl 6 (.pointer (some ⟨g2, 0, none⟩)), pl 7 (.bool true)] hF hS (by kernel_rfl) (by kernel_rfl) ?_ (fun a w hF hS => ?_)
                · exact obs_nil
                refine at_end [6, 7] [pl 6 (.pointer (some ⟨g2, 0, none⟩)), pl 7 (.bool true)] hF rfl (by kernel_rfl) (fun hF => ?_)
                refine then_n ?_
                refine wp_ret ?_
                refine then_r ?_
                have hl1 := (hS.at_ 2 rfl).len1
                have hS := (hS.at_ 2 rfl).reN hl1
                have hS := (hS.at_ 0 rfl).reBlk (congrArg (fun k9 => (#[.slice A2 k9 c2, .int .i64 r1.2.1, .int .i64 r1.2.2.1, .int .i64 r1.2.2.2] : Array Value)) hl1)
                have hS := (hS.at_ 1 rfl).reBlk (congrArg (fun k9 => (#[.slice A2 k9 c2, .int .i64 r1.2.1, .int .i64 r1.2.2.1, .int .i64 r1.2.2.2] : Array Value)) hl1)
                have hS : Sep w0 B w (blk g2 61 #[.slice A2 ((r1.1.set (Int.toNat from1) (w64 ((geti r1.1 from1) - one1))).length) c2, .int .i64 r1.2.1, .int .i64 r1.2.2.1, .int .i64 r1.2.2.2] :: blk g3 61 #[.slice A2 ((r1.1.set (Int.toNat from1) (w64 ((geti r1.1 from1) - one1))).length) c2, .int .i64 r1.2.1, .int .i64 r1.2.2.1, .int .i64 r1.2.2.2] :: own 3 (.slice A2 ((r1.1.set (Int.toNat from1) (w64 ((geti r1.1 from1) - one1))).length) c2) (vI (r1.1.set (Int.toNat from1) (w64 ((geti r1.1 from1) - one1)))) :: fs) := hS
                have hld0 := run_loadVarA (P := Try.prog) (t := 61) (cs := #[.slice A2 ((r1.1.set (Int.toNat from1) (w64 ((geti r1.1 from1) - one1))).length) c2, .int .i64 r1.2.1, .int .i64 r1.2.2.1, .int .i64 r1.2.2.2]) (by kernel_rfl) (by kernel_rfl) ((hS.at_ 0 rfl).cellsAt 0 (by rfl))
                have hS := hS.pickN 3 [2] (by decide)
                have hm : some ((r1.1.set (Int.toNat from1) (w64 ((geti r1.1 from1) - one1))), r1.2.1, r1.2.2.1, r1.2.2.2, true) = some r := hm
                obtain rfl := Option.some.inj hm
                exact retV (rs := [.cell 6 61, .tmp 7]) (vs := [.agg #[.slice A2 ((r1.1.set (Int.toNat from1) (w64 ((geti r1.1 from1) - one1))).length) c2, .int .i64 r1.2.1, .int .i64 r1.2.2.1, .int .i64 r1.2.2.2], .bool true]) hF rfl (rv_c (by kernel_rfl) hld0 <| rv_t (by kernel_rfl) <| rv_nil) rfl ⟨_, rfl, A2, c2, rfl, hS⟩
              · refine reg [] [] [1, 6, 8, 10, 87] [pl 1 (.int .i64 from1), pl 6 (.pointer (some ⟨g2, 0, none⟩)), pl 8 (.pointer (some ⟨g3, 0, none⟩)), pl 10 (.int .i64 one1), pl 87 (.bool (decide ((0 : Int) < bar1)))] hF hS Fol (by kernel_rfl) (by kernel_rfl) (by kernel_rfl) ?_ (fun a w hF hS => ?_)
                · exact obs_nil
                refine cond_ev (t := 87) (b := decide ((0 : Int) < bar1)) hF (by kernel_rfl) (fun hb => ?_) (fun hb => ?_)
                · replace hm := if_t hm hb
                  refine seqR ?_
                  refine at_run 1 [⟨false, [], vS (Instr.loadAt 61 (.pointer (some ⟨g3, 0, none⟩))), .agg #[.slice A2 r1.1.length c2, .int .i64 r1.2.1, .int .i64 r1.2.2.1, .int .i64 r1.2.2.2]⟩] [some (.agg #[.slice A2 r1.1.length c2, .int .i64 r1.2.1, .int .i64 r1.2.2.1, .int .i64 r1.2.2.2])] [6, 88] [pl 6 (.pointer (some ⟨g2, 0, none⟩)), pl 88 (.agg #[.slice A2 r1.1.length c2, .int .i64 r1.2.1, .int .i64 r1.2.2.1, .int .i64 r1.2.2.2])] hF hS (by kernel_rfl) (by kernel_rfl) ?_ (fun a w hF hS => ?_)
                  · exact obs_cons (ob_loadA (cs := #[.slice A2 r1.1.length c2, .int .i64 r1.2.1, .int .i64 r1.2.2.1, .int .i64 r1.2.2.2]) (by kernel_rfl) (by kernel_rfl) (fun _ _ hS => (hS.at_ 1 rfl).cellsAt 0 (by rfl))) <| obs_nil
                  obtain ⟨w, hrun, hS⟩ := run_putA (P := Try.prog) (t := 61) (us := #[.slice A2 r1.1.length c2, .int .i64 r1.2.1, .int .i64 r1.2.2.1, .int .i64 r1.2.2.2]) (o := 0) (hS.at_ 0 rfl) (by kernel_rfl) (all_one (by kernel_rfl)) (Nat.le_of_ble_eq_true (by kernel_rfl))
                  refine at_skip hF (by kernel_rfl) hrun ?_
                  have hS : Sep w0 B w (blk g2 61 #[.slice A2 r1.1.length c2, .int .i64 r1.2.1, .int .i64 r1.2.2.1, .int .i64 r1.2.2.2] :: blk g3 61 #[.slice A2 r1.1.length c2, .int .i64 r1.2.1, .int .i64 r1.2.2.1, .int .i64 r1.2.2.2] :: own 3 (.slice A2 r1.1.length c2) (vI r1.1) :: fs) := hS
                  refine at_run 1 [] [] [6, 7] [pl 6 (.pointer (some ⟨g2, 0, none⟩)), pl 7 (.bool false)] hF hS (by kernel_rfl) (by kernel_rfl) ?_ (fun a w hF hS => ?_)
                  · exact obs_nil
                  refine at_end [6, 7] [pl 6 (.pointer (some ⟨g2, 0, none⟩)), pl 7 (.bool false)] hF rfl (by kernel_rfl) (fun hF => ?_)
                  refine then_n ?_
                  refine wp_ret ?_
                  refine then_r (then_r ?_)
                  have hld0 := run_loadVarA (P := Try.prog) (t := 61) (cs := #[.slice A2 r1.1.length c2, .int .i64 r1.2.1, .int .i64 r1.2.2.1, .int .i64 r1.2.2.2]) (by kernel_rfl) (by kernel_rfl) ((hS.at_ 0 rfl).cellsAt 0 (by rfl))
                  have hS := hS.pickN 3 [2] (by decide)
                  have hm : some (r1.1, r1.2.1, r1.2.2.1, r1.2.2.2, false) = some r := hm
                  obtain rfl := Option.some.inj hm
                  exact retV (rs := [.cell 6 61, .tmp 7]) (vs := [.agg #[.slice A2 r1.1.length c2, .int .i64 r1.2.1, .int .i64 r1.2.2.1, .int .i64 r1.2.2.2], .bool false]) hF rfl (rv_c (by kernel_rfl) hld0 <| rv_t (by kernel_rfl) <| rv_nil) rfl ⟨_, rfl, A2, c2, rfl, hS⟩
                · replace hm := if_f hm hb
                  refine wp_skip ?_
                  refine then_n ?_
                  exact ⟨hF.weak [1, 6, 8, 10] (by kernel_rfl), hS, hm⟩
            · refine reg [] [] [1, 2, 3, 6, 8, 9, 10, 11, 12] [pl 1 (.int .i64 from1), pl 2 (.int .i64 pips1), pl 3 (.pointer (some ⟨g1, 0, none⟩)), pl 6 (.pointer (some ⟨g2, 0, none⟩)), pl 8 (.pointer (some ⟨g3, 0, none⟩)), pl 9 (.int .i64 bar1), pl 10 (.int .i64 one1), pl 11 (.int .i64 far1), pl 12 (.int .i64 1)] hF hS Fol (by kernel_rfl) (by kernel_rfl) (by kernel_rfl) ?_ (fun a w hF hS => ?_)
              · exact obs_nil
              refine wp_block ?_
              refine wp_loop_model (S := Int) (R := (Fl Unit (List Int × Int × Int × Int × Bool))) (gameroomref_StepOf_L1 b1 b2 b3 b4 pips1 r1 far1) (fun x => ((gameroomref_StepOf_K1 from1 r1 bar1 one1) x).bind some) r (fun (x : Int) a w => Fr 160 [pl 1 (.int .i64 from1), pl 2 (.int .i64 pips1), pl 3 (.pointer (some ⟨g1, 0, none⟩)), pl 6 (.pointer (some ⟨g2, 0, none⟩)), pl 8 (.pointer (some ⟨g3, 0, none⟩)), pl 9 (.int .i64 bar1), pl 10 (.int .i64 one1), pl 11 (.int .i64 far1), pl 12 (.int .i64 x)] a ∧ Sep w0 B w (blk g1 61 #[.slice A1 b1.length c1, .int .i64 b2, .int .i64 b3, .int .i64 b4] :: blk g2 61 #[.slice none 0 0, .int .i64 0, .int .i64 0, .int .i64 0] :: blk g3 61 #[.slice A2 r1.1.length c2, .int .i64 r1.2.1, .int .i64 r1.2.2.1, .int .i64 r1.2.2.2] :: own 3 (.slice A2 r1.1.length c2) (vI r1.1) :: fs)) (assoc_b hm) ⟨hF.weak [1, 2, 3, 6, 8, 9, 10, 11, 12] (by kernel_rfl), hS⟩ ?_
              clear hF hS hm
              rintro nn1 p1 a w ⟨hF, hS⟩ hm
              generalize hφ1 : stK (gameroomref_StepOf_L1 b1 b2 b3 b4 pips1 r1 far1) nn1 (fun x => ((gameroomref_StepOf_K1 from1 r1 bar1 one1) x).bind some) = φ1 at hm
              unfold gameroomref_StepOf_L1 at hm
              dsimp only at hm
              refine seq_cut (fun a w => Fr 160 [pl 1 (.int .i64 from1), pl 2 (.int .i64 pips1), pl 3 (.pointer (some ⟨g1, 0, none⟩)), pl 6 (.pointer (some ⟨g2, 0, none⟩)), pl 8 (.pointer (some ⟨g3, 0, none⟩)), pl 9 (.int .i64 bar1), pl 10 (.int .i64 one1), pl 11 (.int .i64 far1), pl 12 (.int .i64 p1)] a ∧ Sep w0 B w (blk g1 61 #[.slice A1 b1.length c1, .int .i64 b2, .int .i64 b3, .int .i64 b4] :: blk g2 61 #[.slice none 0 0, .int .i64 0, .int .i64 0, .int .i64 0] :: blk g3 61 #[.slice A2 r1.1.length c2, .int .i64 r1.2.1, .int .i64 r1.2.2.1, .int .i64 r1.2.2.2] :: own 3 (.slice A2 r1.1.length c2) (vI r1.1) :: fs) ∧ ((gameroomref_StepOf_J6 b1 b2 b3 b4 pips1 r1 far1 p1)).bind φ1 = some r) ?_ ?_
              · rintro a w ⟨hF, hS, hm⟩
                unfold gameroomref_StepOf_J6 at hm
                refine seq_cut (fun a w => Fr 160 [pl 1 (.int .i64 from1), pl 2 (.int .i64 pips1), pl 3 (.pointer (some ⟨g1, 0, none⟩)), pl 6 (.pointer (some ⟨g2, 0, none⟩)), pl 8 (.pointer (some ⟨g3, 0, none⟩)), pl 9 (.int .i64 bar1), pl 10 (.int .i64 one1), pl 11 (.int .i64 far1), pl 12 (.int .i64 p1)] a ∧ Sep w0 B w (blk g1 61 #[.slice A1 b1.length c1, .int .i64 b2, .int .i64 b3, .int .i64 b4] :: blk g2 61 #[.slice none 0 0, .int .i64 0, .int .i64 0, .int .i64 0] :: blk g3 61 #[.slice A2 r1.1.length c2, .int .i64 r1.2.1, .int .i64 r1.2.2.1, .int .i64 r1.2.2.2] :: own 3 (.slice A2 r1.1.length c2) (vI r1.1) :: fs) ∧ ((gameroomref_StepOf_J7 p1)).bind φ1 = some r) ?_ ?_
                · rintro a w ⟨hF, hS, hm⟩
                  unfold gameroomref_StepOf_J7 at hm
                  refine reg1 [] [] [1, 2, 3, 6, 8, 9, 10, 11, 12] [pl 1 (.int .i64 from1), pl 2 (.int .i64 pips1), pl 3 (.pointer (some ⟨g1, 0, none⟩)), pl 6 (.pointer (some ⟨g2, 0, none⟩)), pl 8 (.pointer (some ⟨g3, 0, none⟩)), pl 9 (.int .i64 bar1), pl 10 (.int .i64 one1), pl 11 (.int .i64 far1), pl 12 (.int .i64 (w64 (p1 + 1)))] hF hS Fol (by kernel_rfl) (by kernel_rfl) (by kernel_rfl) ?_ (fun a w hF hS => ?_)
                  · exact obs_nil
                  refine then_n ?_
                  rw [← hφ1] at hm
                  exact ⟨(w64 (p1 + 1)), ⟨hF.weak [1, 2, 3, 6, 8, 9, 10, 11, 12] (by kernel_rfl), hS⟩, hm⟩
                · refine wp_block ?_
                  obtain ⟨r4, hr4, hm⟩ := call_b hm
                  obtain ⟨r5, hr5, hm⟩ := call_b hm
                  obtain ⟨r6, hr6, hm⟩ := call_b hm
                  refine reg [⟨false, [], vS (Instr.loadAt 61 (.pointer (some ⟨g1, 0, none⟩))), .agg #[.slice A1 b1.length c1, .int .i64 b2, .int .i64 b3, .int .i64 b4]⟩, ⟨false, [], callFunc 101 #[.agg #[.slice A1 b1.length c1, .int .i64 b2, .int .i64 b3, .int .i64 b4], .int .i64 p1], .int .i64 r4⟩, ⟨false, [(decide ((0 : Int) < r4), true)], vS (Instr.loadAt 3 (.pointer (some ⟨g1, 3, none⟩))), .int .i64 b4⟩, ⟨false, [(decide ((0 : Int) < r4), true)], callFunc 102 #[.int .i64 b4, .int .i64 p1], .int .i64 r5⟩, ⟨false, [(decide (far1 < pips1), true), (decide ((6 : Int) < r5), false), (decide ((0 : Int) < r4), true)], vS (Instr.loadAt 3 (.pointer (some ⟨g1, 3, none⟩))), .int .i64 b4⟩, ⟨false, [(decide (far1 < pips1), true), (decide ((6 : Int) < r5), false), (decide ((0 : Int) < r4), true)], callFunc 102 #[.int .i64 b4, .int .i64 p1], .int .i64 r6⟩] [some (.agg #[.slice A1 b1.length c1, .int .i64 b2, .int .i64 b3, .int .i64 b4]), none, some (.int .i64 r4), none, none, none, some (.int .i64 b4), none, some (.int .i64 r5), none, none, none, none, none, none, none, some (.int .i64 b4), none, some (.int .i64 r6), none, none, none, none, none] [1, 2, 3, 6, 8, 9, 10, 11, 12, 84] [pl 1 (.int .i64 from1), pl 2 (.int .i64 pips1), pl 3 (.pointer (some ⟨g1, 0, none⟩)), pl 6 (.pointer (some ⟨g2, 0, none⟩)), pl 8 (.pointer (some ⟨g3, 0, none⟩)), pl 9 (.int .i64 bar1), pl 10 (.int .i64 one1), pl 11 (.int .i64 far1), pl 12 (.int .i64 p1), pl 84 (.bool ((decide ((0 : Int) < r4)) && ((decide ((6 : Int) < r5)) || ((decide (far1 < pips1)) && (decide (far1 < r6))))))] hF hS Fol (by kernel_rfl) (by kernel_rfl) (by kernel_rfl) ?_ (fun a w hF hS => ?_)
                  · exact obs_cons (ob_loadA (cs := #[.slice A1 b1.length c1, .int .i64 b2, .int .i64 b3, .int .i64 b4]) (by kernel_rfl) (by kernel_rfl) (fun _ _ hS => (hS.at_ 0 rfl).cellsAt 0 (by rfl))) <| obs_cons (ob_call Try.func101 (by kernel_rfl) rfl (fun _ _ hS => gameroomref_menAt_w hr4 hS (fun _ hS => (hr_b1 _ (hS.dropN 4))) _hc_b1 rfl)) <| obs_cons (ob_load Agg3 (fun _ _ hS => (hS.at_ 0 rfl).cell rfl)) <| obs_cons (ob_call Try.func102 (by kernel_rfl) rfl (fun hy _ hS => gameroomref_homeward_w (ite_some hr5 (by rw [show (decide ((0 : Int) < r4)) = true from hy (decide ((0 : Int) < r4), true) (by simp)]; try rfl)) hS )) <| obs_cons (ob_load Agg3 (fun _ _ hS => (hS.at_ 0 rfl).cell rfl)) <| obs_cons (ob_call Try.func102 (by kernel_rfl) rfl (fun hy _ hS => gameroomref_homeward_w (ite_some hr6 (by rw [show (decide (far1 < pips1)) = true from hy (decide (far1 < pips1), true) (by simp), show (decide ((6 : Int) < r5)) = false from hy (decide ((6 : Int) < r5), false) (by simp), show (decide ((0 : Int) < r4)) = true from hy (decide ((0 : Int) < r4), true) (by simp)]; try rfl)) hS )) <| obs_nil
                  refine cond_ev (t := 84) (b := (decide ((0 : Int) < r4)) && ((decide ((6 : Int) < r5)) || ((decide (far1 < pips1)) && (decide (far1 < r6))))) hF (by kernel_rfl) (fun hb => ?_) (fun hb => ?_)
                  · replace hm := if_t hm hb
                    refine seqR ?_
                    refine at_run 1 [⟨false, [], vS (Instr.loadAt 61 (.pointer (some ⟨g3, 0, none⟩))), .agg #[.slice A2 r1.1.length c2, .int .i64 r1.2.1, .int .i64 r1.2.2.1, .int .i64 r1.2.2.2]⟩] [some (.agg #[.slice A2 r1.1.length c2, .int .i64 r1.2.1, .int .i64 r1.2.2.1, .int .i64 r1.2.2.2])] [6, 85] [pl 6 (.pointer (some ⟨g2, 0, none⟩)), pl 85 (.agg #[.slice A2 r1.1.length c2, .int .i64 r1.2.1, .int .i64 r1.2.2.1, .int .i64 r1.2.2.2])] hF hS (by kernel_rfl) (by kernel_rfl) ?_ (fun a w hF hS => ?_)
                    · exact obs_cons (ob_loadA (cs := #[.slice A2 r1.1.length c2, .int .i64 r1.2.1, .int .i64 r1.2.2.1, .int .i64 r1.2.2.2]) (by kernel_rfl) (by kernel_rfl) (fun _ _ hS => (hS.at_ 2 rfl).cellsAt 0 (by rfl))) <| obs_nil
                    obtain ⟨w, hrun, hS⟩ := run_putA (P := Try.prog) (t := 61) (us := #[.slice A2 r1.1.length c2, .int .i64 r1.2.1, .int .i64 r1.2.2.1, .int .i64 r1.2.2.2]) (o := 0) (hS.at_ 1 rfl) (by kernel_rfl) (all_one (by kernel_rfl)) (Nat.le_of_ble_eq_true (by kernel_rfl))
                    refine at_skip hF (by kernel_rfl) hrun ?_
                    have hS : Sep w0 B w (blk g1 61 #[.slice A1 b1.length c1, .int .i64 b2, .int .i64 b3, .int .i64 b4] :: blk g2 61 #[.slice A2 r1.1.length c2, .int .i64 r1.2.1, .int .i64 r1.2.2.1, .int .i64 r1.2.2.2] :: blk g3 61 #[.slice A2 r1.1.length c2, .int .i64 r1.2.1, .int .i64 r1.2.2.1, .int .i64 r1.2.2.2] :: own 3 (.slice A2 r1.1.length c2) (vI r1.1) :: fs) := hS
                    refine at_run 1 [] [] [6, 7] [pl 6 (.pointer (some ⟨g2, 0, none⟩)), pl 7 (.bool false)] hF hS (by kernel_rfl) (by kernel_rfl) ?_ (fun a w hF hS => ?_)
                    · exact obs_nil
                    refine at_end [6, 7] [pl 6 (.pointer (some ⟨g2, 0, none⟩)), pl 7 (.bool false)] hF rfl (by kernel_rfl) (fun hF => ?_)
                    refine then_n ?_
                    refine wp_ret ?_
                    refine block_r (then_r (then_r (block_r (then_r (then_r ?_)))))
                    rw [← hφ1] at hm
                    replace hm := done_b hm
                    unfold gameroomref_StepOf_K1 at hm
                    try dsimp only at hm
                    have hld0 := run_loadVarA (P := Try.prog) (t := 61) (cs := #[.slice A2 r1.1.length c2, .int .i64 r1.2.1, .int .i64 r1.2.2.1, .int .i64 r1.2.2.2]) (by kernel_rfl) (by kernel_rfl) ((hS.at_ 1 rfl).cellsAt 0 (by rfl))
                    have hS := hS.pickN 4 [3] (by decide)
                    have hm : some (r1.1, r1.2.1, r1.2.2.1, r1.2.2.2, false) = some r := hm
                    obtain rfl := Option.some.inj hm
                    exact retV (rs := [.cell 6 61, .tmp 7]) (vs := [.agg #[.slice A2 r1.1.length c2, .int .i64 r1.2.1, .int .i64 r1.2.2.1, .int .i64 r1.2.2.2], .bool false]) hF rfl (rv_c (by kernel_rfl) hld0 <| rv_t (by kernel_rfl) <| rv_nil) rfl ⟨_, rfl, A2, c2, rfl, hS⟩
                  · replace hm := if_f hm hb
                    refine wp_skip ?_
                    refine block_n ?_
                    refine then_n ?_
                    exact ⟨hF.weak [1, 2, 3, 6, 8, 9, 10, 11, 12] (by kernel_rfl), hS, hm⟩
              · refine reg [] [] [1, 2, 3, 6, 8, 9, 10, 11, 12, 58] [pl 1 (.int .i64 from1), pl 2 (.int .i64 pips1), pl 3 (.pointer (some ⟨g1, 0, none⟩)), pl 6 (.pointer (some ⟨g2, 0, none⟩)), pl 8 (.pointer (some ⟨g3, 0, none⟩)), pl 9 (.int .i64 bar1), pl 10 (.int .i64 one1), pl 11 (.int .i64 far1), pl 12 (.int .i64 p1), pl 58 (.bool (decide (p1 < 25)))] hF hS Fol (by kernel_rfl) (by kernel_rfl) (by kernel_rfl) ?_ (fun a w hF hS => ?_)
                · exact obs_nil
                refine cond_ev (t := 58) (b := decide (p1 < 25)) hF (by kernel_rfl) (fun hb => ?_) (fun hb => ?_)
                · replace hm := if_t hm hb
                  refine wp_skip ?_
                  refine then_n ?_
                  exact ⟨hF.weak [1, 2, 3, 6, 8, 9, 10, 11, 12] (by kernel_rfl), hS, hm⟩
                · replace hm := if_f hm hb
                  refine wp_exit ?_
                  refine then_e (then_e (block_e (then_n ?_)))
                  have hS := hS.pickN 4 [1, 2, 3] (by decide)
                  rw [← hφ1] at hm
                  replace hm := done_b hm
                  unfold gameroomref_StepOf_K1 at hm
                  try dsimp only at hm
                  have hm : ((gameroomref_StepOf_J5 from1 r1 bar1 one1)).bind some = some r := hm
                  exact ⟨hF.weak [1, 6, 8, 9, 10] (by kernel_rfl), hS, hm⟩
          · replace hm := if_f hm hb
            refine wp_skip ?_
            refine then_n ?_
            exact ⟨hF.weak [1, 2, 3, 6, 8, 10, 11] (by kernel_rfl), hS, hm⟩
      · refine reg [] [] [1, 2, 3, 6, 8, 9, 10, 11, 49] [pl 1 (.int .i64 from1), pl 2 (.int .i64 pips1), pl 3 (.pointer (some ⟨g1, 0, none⟩)), pl 6 (.pointer (some ⟨g2, 0, none⟩)), pl 8 (.pointer (some ⟨g3, 0, none⟩)), pl 9 (.int .i64 bar1), pl 10 (.int .i64 one1), pl 11 (.int .i64 25), pl 49 (.bool (decide ((0 : Int) < from1)))] hF hS Fol (by kernel_rfl) (by kernel_rfl) (by kernel_rfl) ?_ (fun a w hF hS => ?_)
        · exact obs_nil
        refine cond_ev (t := 49) (b := decide ((0 : Int) < from1)) hF (by kernel_rfl) (fun hb => ?_) (fun hb => ?_)
        · replace hm := if_t hm hb
          obtain ⟨r3, hr3, hm⟩ := call_b hm
          refine reg1 [⟨false, [], vS (Instr.loadAt 3 (.pointer (some ⟨g1, 3, none⟩))), .int .i64 b4⟩, ⟨false, [], callFunc 102 #[.int .i64 b4, .int .i64 from1], .int .i64 r3⟩] [none, some (.int .i64 b4), none, some (.int .i64 r3), none] [1, 2, 3, 6, 8, 9, 10, 11] [pl 1 (.int .i64 from1), pl 2 (.int .i64 pips1), pl 3 (.pointer (some ⟨g1, 0, none⟩)), pl 6 (.pointer (some ⟨g2, 0, none⟩)), pl 8 (.pointer (some ⟨g3, 0, none⟩)), pl 9 (.int .i64 bar1), pl 10 (.int .i64 one1), pl 11 (.int .i64 r3)] hF hS Fol (by kernel_rfl) (by kernel_rfl) (by kernel_rfl) ?_ (fun a w hF hS => ?_)
          · exact obs_cons (ob_load Agg3 (fun _ _ hS => (hS.at_ 0 rfl).cell rfl)) <| obs_cons (ob_call Try.func102 (by kernel_rfl) rfl (fun _ _ hS => gameroomref_homeward_w hr3 hS )) <| obs_nil
          refine then_n ?_
          exact ⟨r3, hF.weak [1, 2, 3, 6, 8, 9, 10, 11] (by kernel_rfl), hS, hm⟩
        · replace hm := if_f hm hb
          refine wp_skip ?_
          refine then_n ?_
          exact ⟨25, hF.weak [1, 2, 3, 6, 8, 9, 10, 11] (by kernel_rfl), hS, hm⟩
    · obtain ⟨r2, hr2, hm⟩ := call_b hm
      refine reg [⟨false, [(decide ((0 : Int) < from1), true), (((decide ((0 : Int) < bar1)) && (from1 != 0)) || ((bar1 == 0) && (from1 == 0)), false)], vS (Instr.loadAt 61 (.pointer (some ⟨g1, 0, none⟩))), .agg #[.slice A1 b1.length c1, .int .i64 b2, .int .i64 b3, .int .i64 b4]⟩, ⟨false, [(decide ((0 : Int) < from1), true), (((decide ((0 : Int) < bar1)) && (from1 != 0)) || ((bar1 == 0) && (from1 == 0)), false)], callFunc 101 #[.agg #[.slice A1 b1.length c1, .int .i64 b2, .int .i64 b3, .int .i64 b4], .int .i64 from1], .int .i64 r2⟩] [none, none, none, none, none, none, none, none, none, none, none, none, none, none, none, none, none, none, some (.agg #[.slice A1 b1.length c1, .int .i64 b2, .int .i64 b3, .int .i64 b4]), none, some (.int .i64 r2), none, none, none] [1, 2, 3, 6, 8, 9, 10, 46] [pl 1 (.int .i64 from1), pl 2 (.int .i64 pips1), pl 3 (.pointer (some ⟨g1, 0, none⟩)), pl 6 (.pointer (some ⟨g2, 0, none⟩)), pl 8 (.pointer (some ⟨g3, 0, none⟩)), pl 9 (.int .i64 bar1), pl 10 (.int .i64 one1), pl 46 (.bool ((((decide ((0 : Int) < bar1)) && (from1 != 0)) || ((bar1 == 0) && (from1 == 0))) || ((decide ((0 : Int) < from1)) && (decide (r2 < 1)))))] hF hS Fol (by kernel_rfl) (by kernel_rfl) (by kernel_rfl) ?_ (fun a w hF hS => ?_)
      · exact obs_cons (ob_loadA (cs := #[.slice A1 b1.length c1, .int .i64 b2, .int .i64 b3, .int .i64 b4]) (by kernel_rfl) (by kernel_rfl) (fun _ _ hS => (hS.at_ 0 rfl).cellsAt 0 (by rfl))) <| obs_cons (ob_call Try.func101 (by kernel_rfl) rfl (fun hy _ hS => gameroomref_menAt_w (ite_some hr2 (by rw [show (decide ((0 : Int) < from1)) = true from hy (decide ((0 : Int) < from1), true) (by simp), show (((decide ((0 : Int) < bar1)) && (from1 != 0)) || ((bar1 == 0) && (from1 == 0))) = false from hy (((decide ((0 : Int) < bar1)) && (from1 != 0)) || ((bar1 == 0) && (from1 == 0)), false) (by simp)]; try rfl)) hS (fun _ hS => (hr_b1 _ (hS.dropN 4))) _hc_b1 rfl)) <| obs_nil
      refine cond_ev (t := 46) (b := (((decide ((0 : Int) < bar1)) && (from1 != 0)) || ((bar1 == 0) && (from1 == 0))) || ((decide ((0 : Int) < from1)) && (decide (r2 < 1)))) hF (by kernel_rfl) (fun hb => ?_) (fun hb => ?_)
      · replace hm := if_t hm hb
        refine seqR ?_
        refine at_run 1 [⟨false, [], vS (Instr.loadAt 61 (.pointer (some ⟨g3, 0, none⟩))), .agg #[.slice A2 r1.1.length c2, .int .i64 r1.2.1, .int .i64 r1.2.2.1, .int .i64 r1.2.2.2]⟩] [some (.agg #[.slice A2 r1.1.length c2, .int .i64 r1.2.1, .int .i64 r1.2.2.1, .int .i64 r1.2.2.2])] [6, 47] [pl 6 (.pointer (some ⟨g2, 0, none⟩)), pl 47 (.agg #[.slice A2 r1.1.length c2, .int .i64 r1.2.1, .int .i64 r1.2.2.1, .int .i64 r1.2.2.2])] hF hS (by kernel_rfl) (by kernel_rfl) ?_ (fun a w hF hS => ?_)
        · exact obs_cons (ob_loadA (cs := #[.slice A2 r1.1.length c2, .int .i64 r1.2.1, .int .i64 r1.2.2.1, .int .i64 r1.2.2.2]) (by kernel_rfl) (by kernel_rfl) (fun _ _ hS => (hS.at_ 2 rfl).cellsAt 0 (by rfl))) <| obs_nil
        obtain ⟨w, hrun, hS⟩ := run_putA (P := Try.prog) (t := 61) (us := #[.slice A2 r1.1.length c2, .int .i64 r1.2.1, .int .i64 r1.2.2.1, .int .i64 r1.2.2.2]) (o := 0) (hS.at_ 1 rfl) (by kernel_rfl) (all_one (by kernel_rfl)) (Nat.le_of_ble_eq_true (by kernel_rfl))
        refine at_skip hF (by kernel_rfl) hrun ?_
        have hS : Sep w0 B w (blk g1 61 #[.slice A1 b1.length c1, .int .i64 b2, .int .i64 b3, .int .i64 b4] :: blk g2 61 #[.slice A2 r1.1.length c2, .int .i64 r1.2.1, .int .i64 r1.2.2.1, .int .i64 r1.2.2.2] :: blk g3 61 #[.slice A2 r1.1.length c2, .int .i64 r1.2.1, .int .i64 r1.2.2.1, .int .i64 r1.2.2.2] :: own 3 (.slice A2 r1.1.length c2) (vI r1.1) :: fs) := hS
        refine at_run 1 [] [] [6, 7] [pl 6 (.pointer (some ⟨g2, 0, none⟩)), pl 7 (.bool false)] hF hS (by kernel_rfl) (by kernel_rfl) ?_ (fun a w hF hS => ?_)
        · exact obs_nil
        refine at_end [6, 7] [pl 6 (.pointer (some ⟨g2, 0, none⟩)), pl 7 (.bool false)] hF rfl (by kernel_rfl) (fun hF => ?_)
        refine then_n ?_
        refine wp_ret ?_
        refine then_r ?_
        have hld0 := run_loadVarA (P := Try.prog) (t := 61) (cs := #[.slice A2 r1.1.length c2, .int .i64 r1.2.1, .int .i64 r1.2.2.1, .int .i64 r1.2.2.2]) (by kernel_rfl) (by kernel_rfl) ((hS.at_ 1 rfl).cellsAt 0 (by rfl))
        have hS := hS.pickN 4 [3] (by decide)
        have hm : some (r1.1, r1.2.1, r1.2.2.1, r1.2.2.2, false) = some r := hm
        obtain rfl := Option.some.inj hm
        exact retV (rs := [.cell 6 61, .tmp 7]) (vs := [.agg #[.slice A2 r1.1.length c2, .int .i64 r1.2.1, .int .i64 r1.2.2.1, .int .i64 r1.2.2.2], .bool false]) hF rfl (rv_c (by kernel_rfl) hld0 <| rv_t (by kernel_rfl) <| rv_nil) rfl ⟨_, rfl, A2, c2, rfl, hS⟩
      · replace hm := if_f hm hb
        refine wp_skip ?_
        refine then_n ?_
        exact ⟨hF.weak [1, 2, 3, 6, 8, 9, 10] (by kernel_rfl), hS, hm⟩
  · refine reg [⟨false, [], vS (Instr.loadAt 3 (.pointer (some ⟨g1, 3, none⟩))), .int .i64 b4⟩] [none, some (.int .i64 b4), none] [1, 2, 3, 6, 8, 9, 10, 20] [pl 1 (.int .i64 from1), pl 2 (.int .i64 pips1), pl 3 (.pointer (some ⟨g1, 0, none⟩)), pl 6 (.pointer (some ⟨g2, 0, none⟩)), pl 8 (.pointer (some ⟨g3, 0, none⟩)), pl 9 (.int .i64 b2), pl 10 (.int .i64 1), pl 20 (.bool (b4 == 1))] hF hS Fol (by kernel_rfl) (by kernel_rfl) (by kernel_rfl) ?_ (fun a w hF hS => ?_)
    · exact obs_cons (ob_load Agg3 (fun _ _ hS => (hS.at_ 3 rfl).cell rfl)) <| obs_nil
    refine cond_ev (t := 20) (b := (b4 == 1)) hF (by kernel_rfl) (fun hb => ?_) (fun hb => ?_)
    · replace hm := if_t hm hb
      refine reg [⟨false, [], vS (Instr.loadAt 3 (.pointer (some ⟨g1, 2, none⟩))), .int .i64 b3⟩] [none, some (.int .i64 b3), none] [1, 2, 3, 6, 8, 9] [pl 1 (.int .i64 from1), pl 2 (.int .i64 pips1), pl 3 (.pointer (some ⟨g1, 0, none⟩)), pl 6 (.pointer (some ⟨g2, 0, none⟩)), pl 8 (.pointer (some ⟨g3, 0, none⟩)), pl 9 (.int .i64 b3)] hF hS Fol (by kernel_rfl) (by kernel_rfl) (by kernel_rfl) ?_ (fun a w hF hS => ?_)
      · exact obs_cons (ob_load Agg3 (fun _ _ hS => (hS.at_ 3 rfl).cell rfl)) <| obs_nil
      refine reg1 [] [] [1, 2, 3, 6, 8, 9, 10] [pl 1 (.int .i64 from1), pl 2 (.int .i64 pips1), pl 3 (.pointer (some ⟨g1, 0, none⟩)), pl 6 (.pointer (some ⟨g2, 0, none⟩)), pl 8 (.pointer (some ⟨g3, 0, none⟩)), pl 9 (.int .i64 b3), pl 10 (.int .i64 (-1))] hF hS Fol (by kernel_rfl) (by kernel_rfl) (by kernel_rfl) ?_ (fun a w hF hS => ?_)
      · exact obs_nil
      refine then_n ?_
      have hS := hS.pickN 4 [3, 2, 0, 1] (by decide)
      exact ⟨b3, (-1), hF.weak [1, 2, 3, 6, 8, 9, 10] (by kernel_rfl), hS, hm⟩
    · replace hm := if_f hm hb
      refine wp_skip ?_
      refine then_n ?_
      have hS := hS.pickN 4 [3, 2, 0, 1] (by decide)
      exact ⟨b2, 1, hF.weak [1, 2, 3, 6, 8, 9, 10] (by kernel_rfl), hS, hm⟩

noncomputable def gameroomref_SameGammon_J4 (i1 : Int) : Option (St Int (Fl Unit Bool)) :=
  some (.next (w64 (i1 + 1)))

noncomputable def gameroomref_SameGammon_J3 (a1 : List Int) (b1 : List Int) (i1 : Int) : Option (St Int (Fl Unit Bool)) :=
  asrt (0 ≤ i1 ∧ i1 < (a1.length : Int)) <| asrt (0 ≤ i1 ∧ i1 < (b1.length : Int)) <| if ((geti a1 i1) != (geti b1 i1)) then (some (.done (.ret false))) else ((gameroomref_SameGammon_J4 i1))

noncomputable def gameroomref_SameGammon_J2 : Option Bool :=
  some true

noncomputable def gameroomref_SameGammon_K1 : (Fl Unit Bool) → Option Bool :=
  fun (x : (Fl Unit Bool)) => match x with | .go _ => gameroomref_SameGammon_J2 | .ret x => some x

noncomputable def gameroomref_SameGammon_L1 (a1 : List Int) (b1 : List Int) : Int → Option (St Int (Fl Unit Bool)) :=
  fun (x : Int) => match x with | i1 => if (decide (i1 < (a1.length : Int))) then ((gameroomref_SameGammon_J3 a1 b1 i1)) else (some (.done (.go ())))

noncomputable def gameroomref_SameGammon_J1 (a1 : List Int) (b1 : List Int) : Option Bool :=
  (loop (gameroomref_SameGammon_L1 a1 b1) 0).bind gameroomref_SameGammon_K1

noncomputable def gameroomref_SameGammon_m (a1 : List Int) (a2 : Int) (a3 : Int) (a4 : Int) (b1 : List Int) (b2 : Int) (b3 : Int) (b4 : Int) : Option Bool :=
  if (((((a1.length : Int) != (b1.length : Int)) || (a2 != b2)) || (a3 != b3)) || (a4 != b4)) then (some false) else ((gameroomref_SameGammon_J1 a1 b1))

set_option maxRecDepth 100000 in
set_option maxHeartbeats 4000000 in
theorem gameroomref_SameGammon_w {A1 : Option Addr} {c1 : Nat} {n1 : Nat} {a1 : List Int} {a2 : Int} {a3 : Int} {a4 : Int} {A2 : Option Addr} {c2 : Nat} {n2 : Nat} {b1 : List Int} {b2 : Int} {b3 : Int} {b4 : Int} {r : Bool} {w0 w : World} {B : Nat} {fs : List HP} (hm : gameroomref_SameGammon_m a1 a2 a3 a4 b1 b2 b3 b4 = some r) (hS : Sep w0 B w (fs)) (hr_a1 : RdF w0 B fs A1 (vI a1)) (_hc_a1 : a1.length ≤ c1) (_hn_a1 : n1 = a1.length) (hr_b1 : RdF w0 B fs A2 (vI b1)) (_hc_b1 : b1.length ≤ c2) (_hn_b1 : n2 = b1.length) :
    Calls Try.prog 46 #[.agg #[.slice A1 n1 c1, .int .i64 a2, .int .i64 a3, .int .i64 a4], .agg #[.slice A2 n2 c2, .int .i64 b2, .int .i64 b3, .int .i64 b4]] w fun e w' => e = .returned (.bool r) ∧ Sep w0 B w' (fs) := by
  obtain ⟨i3, hi3, hz3, hs3, hb3⟩ := info_parts Info3
  obtain rfl := _hn_a1
  obtain rfl := _hn_b1
  unfold gameroomref_SameGammon_m at hm
  replace hm := start_b hm
  refine enter (l := [.agg #[.slice A1 a1.length c1, .int .i64 a2, .int .i64 a3, .int .i64 a4], .agg #[.slice A2 b1.length c2, .int .i64 b2, .int .i64 b3, .int .i64 b4]]) (n := 52) Try.func46 rfl rfl (by simp) (fun a hF => ?_)
  refine seqR ?_
  refine at_do (d := 2) (s := vS (Instr.box 61 (.agg #[.slice A1 a1.length c1, .int .i64 a2, .int .i64 a3, .int .i64 a4]))) (v := .pointer (some ⟨w.heap.size, 0, none⟩)) (w' := w.alloc (.cells #[.slice A1 a1.length c1, .int .i64 a2, .int .i64 a3, .int .i64 a4] 61)) hF (by kernel_rfl) (by kernel_rfl) (by kernel_rfl) (fun a hF => ?_)
  have hS : Sep w0 B (w.alloc (.cells #[.slice A1 a1.length c1, .int .i64 a2, .int .i64 a3, .int .i64 a4] 61)) (blk w.heap.size 61 #[.slice A1 a1.length c1, .int .i64 a2, .int .i64 a3, .int .i64 a4] :: (fs)) := hS.box 61 #[.slice A1 a1.length c1, .int .i64 a2, .int .i64 a3, .int .i64 a4]
  generalize w.heap.size = g1 at hF hS
  generalize w.alloc (.cells #[.slice A1 a1.length c1, .int .i64 a2, .int .i64 a3, .int .i64 a4] 61) = w at hS ⊢
  refine at_do (d := 3) (s := vS (Instr.box 61 (.agg #[.slice A2 b1.length c2, .int .i64 b2, .int .i64 b3, .int .i64 b4]))) (v := .pointer (some ⟨w.heap.size, 0, none⟩)) (w' := w.alloc (.cells #[.slice A2 b1.length c2, .int .i64 b2, .int .i64 b3, .int .i64 b4] 61)) hF (by kernel_rfl) (by kernel_rfl) (by kernel_rfl) (fun a hF => ?_)
  have hS : Sep w0 B (w.alloc (.cells #[.slice A2 b1.length c2, .int .i64 b2, .int .i64 b3, .int .i64 b4] 61)) (blk w.heap.size 61 #[.slice A2 b1.length c2, .int .i64 b2, .int .i64 b3, .int .i64 b4] :: (blk g1 61 #[.slice A1 a1.length c1, .int .i64 a2, .int .i64 a3, .int .i64 a4] :: fs)) := hS.box 61 #[.slice A2 b1.length c2, .int .i64 b2, .int .i64 b3, .int .i64 b4]
  generalize w.heap.size = g2 at hF hS
  generalize w.alloc (.cells #[.slice A2 b1.length c2, .int .i64 b2, .int .i64 b3, .int .i64 b4] 61) = w at hS ⊢
  refine at_run 1 [] [] [2, 3] [pl 2 (.pointer (some ⟨g1, 0, none⟩)), pl 3 (.pointer (some ⟨g2, 0, none⟩))] hF hS (by kernel_rfl) (by kernel_rfl) ?_ (fun a w hF hS => ?_)
  · exact obs_nil
  refine at_end [2, 3] [pl 2 (.pointer (some ⟨g1, 0, none⟩)), pl 3 (.pointer (some ⟨g2, 0, none⟩))] hF rfl (by kernel_rfl) (fun hF => ?_)
  refine then_n ?_
  refine seq_cut (fun a w => Fr 52 [pl 2 (.pointer (some ⟨g1, 0, none⟩)), pl 3 (.pointer (some ⟨g2, 0, none⟩))] a ∧ Sep w0 B w (blk g1 61 #[.slice A1 a1.length c1, .int .i64 a2, .int .i64 a3, .int .i64 a4] :: blk g2 61 #[.slice A2 b1.length c2, .int .i64 b2, .int .i64 b3, .int .i64 b4] :: fs) ∧ ((gameroomref_SameGammon_J1 a1 b1)).bind some = some r) ?_ ?_
  · rintro a w ⟨hF, hS, hm⟩
    unfold gameroomref_SameGammon_J1 at hm
    refine seq_cut (fun a w => Fr 52 [] a ∧ Sep w0 B w (fs) ∧ (gameroomref_SameGammon_J2).bind some = some r) ?_ ?_
    · rintro a w ⟨hF, hS, hm⟩
      unfold gameroomref_SameGammon_J2 at hm
      refine reg [] [] [4] [pl 4 (.bool true)] hF hS Fol (by kernel_rfl) (by kernel_rfl) (by kernel_rfl) ?_ (fun a w hF hS => ?_)
      · exact obs_nil
      refine wp_ret ?_
      have hm : some true = some r := hm
      obtain rfl := Option.some.inj hm
      exact retV (rs := [.tmp 4]) (vs := [.bool true]) hF rfl (rv_t (by kernel_rfl) <| rv_nil) rfl ⟨rfl, hS⟩
    · refine reg [] [] [2, 3, 5] [pl 2 (.pointer (some ⟨g1, 0, none⟩)), pl 3 (.pointer (some ⟨g2, 0, none⟩)), pl 5 (.int .i64 0)] hF hS Fol (by kernel_rfl) (by kernel_rfl) (by kernel_rfl) ?_ (fun a w hF hS => ?_)
      · exact obs_nil
      refine wp_block ?_
      refine wp_loop_model (S := Int) (R := (Fl Unit Bool)) (gameroomref_SameGammon_L1 a1 b1) (fun x => (gameroomref_SameGammon_K1 x).bind some) r (fun (x : Int) a w => Fr 52 [pl 2 (.pointer (some ⟨g1, 0, none⟩)), pl 3 (.pointer (some ⟨g2, 0, none⟩)), pl 5 (.int .i64 x)] a ∧ Sep w0 B w (blk g1 61 #[.slice A1 a1.length c1, .int .i64 a2, .int .i64 a3, .int .i64 a4] :: blk g2 61 #[.slice A2 b1.length c2, .int .i64 b2, .int .i64 b3, .int .i64 b4] :: fs)) (assoc_b hm) ⟨hF.weak [2, 3, 5] (by kernel_rfl), hS⟩ ?_
      clear hF hS hm
      rintro nn1 i1 a w ⟨hF, hS⟩ hm
      generalize hφ1 : stK (gameroomref_SameGammon_L1 a1 b1) nn1 (fun x => (gameroomref_SameGammon_K1 x).bind some) = φ1 at hm
      unfold gameroomref_SameGammon_L1 at hm
      dsimp only at hm
      refine seq_cut (fun a w => Fr 52 [pl 2 (.pointer (some ⟨g1, 0, none⟩)), pl 3 (.pointer (some ⟨g2, 0, none⟩)), pl 5 (.int .i64 i1)] a ∧ Sep w0 B w (blk g1 61 #[.slice A1 a1.length c1, .int .i64 a2, .int .i64 a3, .int .i64 a4] :: blk g2 61 #[.slice A2 b1.length c2, .int .i64 b2, .int .i64 b3, .int .i64 b4] :: fs) ∧ ((gameroomref_SameGammon_J3 a1 b1 i1)).bind φ1 = some r) ?_ ?_
      · rintro a w ⟨hF, hS, hm⟩
        unfold gameroomref_SameGammon_J3 at hm
        refine seq_cut (fun a w => Fr 52 [pl 2 (.pointer (some ⟨g1, 0, none⟩)), pl 3 (.pointer (some ⟨g2, 0, none⟩)), pl 5 (.int .i64 i1)] a ∧ Sep w0 B w (blk g1 61 #[.slice A1 a1.length c1, .int .i64 a2, .int .i64 a3, .int .i64 a4] :: blk g2 61 #[.slice A2 b1.length c2, .int .i64 b2, .int .i64 b3, .int .i64 b4] :: fs) ∧ ((gameroomref_SameGammon_J4 i1)).bind φ1 = some r) ?_ ?_
        · rintro a w ⟨hF, hS, hm⟩
          unfold gameroomref_SameGammon_J4 at hm
          refine reg1 [] [] [2, 3, 5] [pl 2 (.pointer (some ⟨g1, 0, none⟩)), pl 3 (.pointer (some ⟨g2, 0, none⟩)), pl 5 (.int .i64 (w64 (i1 + 1)))] hF hS Fol (by kernel_rfl) (by kernel_rfl) (by kernel_rfl) ?_ (fun a w hF hS => ?_)
          · exact obs_nil
          refine then_n ?_
          rw [← hφ1] at hm
          exact ⟨(w64 (i1 + 1)), ⟨hF.weak [2, 3, 5] (by kernel_rfl), hS⟩, hm⟩
        · refine wp_block ?_
          obtain ⟨hp1, hm⟩ := asrt_b hm
          obtain ⟨hp2, hm⟩ := asrt_b hm
          refine reg [⟨false, [], vS (Instr.loadAt 40 (.pointer (some ⟨g1, 0, none⟩))), .slice A1 a1.length c1⟩, ⟨true, [], vS (Instr.indexAt 40 (.slice A1 a1.length c1) (.int .i64 i1)), .pointer (some (sAddr A1 i1))⟩, ⟨false, [], vS (Instr.loadAt 3 (.pointer (some (sAddr A1 i1)))), .int .i64 (geti a1 i1)⟩, ⟨false, [], vS (Instr.loadAt 40 (.pointer (some ⟨g2, 0, none⟩))), .slice A2 b1.length c2⟩, ⟨true, [], vS (Instr.indexAt 40 (.slice A2 b1.length c2) (.int .i64 i1)), .pointer (some (sAddr A2 i1))⟩, ⟨false, [], vS (Instr.loadAt 3 (.pointer (some (sAddr A2 i1)))), .int .i64 (geti b1 i1)⟩] [none, some (.slice A1 a1.length c1), none, some (.pointer (some (sAddr A1 i1))), some (.int .i64 (geti a1 i1)), none, some (.slice A2 b1.length c2), none, some (.pointer (some (sAddr A2 i1))), some (.int .i64 (geti b1 i1)), none] [2, 3, 5, 51] [pl 2 (.pointer (some ⟨g1, 0, none⟩)), pl 3 (.pointer (some ⟨g2, 0, none⟩)), pl 5 (.int .i64 i1), pl 51 (.bool ((geti a1 i1) != (geti b1 i1)))] hF hS Fol (by kernel_rfl) (by kernel_rfl) (by kernel_rfl) ?_ (fun a w hF hS => ?_)
          · exact obs_cons (ob_load Agg40 (fun _ _ hS => (hS.at_ 0 rfl).cell rfl)) <| obs_cons (ob_ix1 (f := (Value.int .i64)) (m := a1) Und40 hi3 hs3 (hr_a1 _ (hS.dropN 2)) rfl (fun _ => hp1)) <| obs_cons (ob_get1 (n := a1.length) (m := a1) (Value.int .i64) (0 : Int) Agg3 (fun _ hS => ⟨_, (hr_a1 _ (hS.dropN 2))⟩) (fun _ hS => rfl) (fun _ => hp1)) <| obs_cons (ob_load Agg40 (fun _ _ hS => (hS.at_ 1 rfl).cell rfl)) <| obs_cons (ob_ix1 (f := (Value.int .i64)) (m := b1) Und40 hi3 hs3 (hr_b1 _ (hS.dropN 2)) rfl (fun _ => hp2)) <| obs_cons (ob_get1 (n := b1.length) (m := b1) (Value.int .i64) (0 : Int) Agg3 (fun _ hS => ⟨_, (hr_b1 _ (hS.dropN 2))⟩) (fun _ hS => rfl) (fun _ => hp2)) <| obs_nil
          refine cond_ev (t := 51) (b := ((geti a1 i1) != (geti b1 i1))) hF (by kernel_rfl) (fun hb => ?_) (fun hb => ?_)
          · replace hm := if_t hm hb
            refine reg [] [] [4] [pl 4 (.bool false)] hF hS Fol (by kernel_rfl) (by kernel_rfl) (by kernel_rfl) ?_ (fun a w hF hS => ?_)
            · exact obs_nil
            refine wp_ret ?_
            refine block_r (then_r (then_r (block_r (then_r ?_))))
            rw [← hφ1] at hm
            replace hm := done_b hm
            unfold gameroomref_SameGammon_K1 at hm
            try dsimp only at hm
            have hS := hS.pickN 2 [] (by decide)
            have hm : some false = some r := hm
            obtain rfl := Option.some.inj hm
            exact retV (rs := [.tmp 4]) (vs := [.bool false]) hF rfl (rv_t (by kernel_rfl) <| rv_nil) rfl ⟨rfl, hS⟩
          · replace hm := if_f hm hb
            refine wp_skip ?_
            refine block_n ?_
            refine then_n ?_
            exact ⟨hF.weak [2, 3, 5] (by kernel_rfl), hS, hm⟩
      · refine reg [⟨false, [], vS (Instr.loadAt 40 (.pointer (some ⟨g1, 0, none⟩))), .slice A1 a1.length c1⟩] [none, none, some (.slice A1 a1.length c1), none, none] [2, 3, 5, 38] [pl 2 (.pointer (some ⟨g1, 0, none⟩)), pl 3 (.pointer (some ⟨g2, 0, none⟩)), pl 5 (.int .i64 i1), pl 38 (.bool (decide (i1 < (a1.length : Int))))] hF hS Fol (by kernel_rfl) (by kernel_rfl) (by kernel_rfl) ?_ (fun a w hF hS => ?_)
        · exact obs_cons (ob_load Agg40 (fun _ _ hS => (hS.at_ 0 rfl).cell rfl)) <| obs_nil
        refine cond_ev (t := 38) (b := decide (i1 < (a1.length : Int))) hF (by kernel_rfl) (fun hb => ?_) (fun hb => ?_)
        · replace hm := if_t hm hb
          refine wp_skip ?_
          refine then_n ?_
          exact ⟨hF.weak [2, 3, 5] (by kernel_rfl), hS, hm⟩
        · replace hm := if_f hm hb
          refine wp_exit ?_
          refine then_e (then_e (block_e (then_n ?_)))
          have hS := hS.pickN 2 [] (by decide)
          rw [← hφ1] at hm
          replace hm := done_b hm
          unfold gameroomref_SameGammon_K1 at hm
          try dsimp only at hm
          have hm : (gameroomref_SameGammon_J2).bind some = some r := hm
          exact ⟨hF.weak [] (by kernel_rfl), hS, hm⟩
  · refine reg [⟨false, [], vS (Instr.loadAt 40 (.pointer (some ⟨g1, 0, none⟩))), .slice A1 a1.length c1⟩, ⟨false, [], vS (Instr.loadAt 40 (.pointer (some ⟨g2, 0, none⟩))), .slice A2 b1.length c2⟩, ⟨false, [(((a1.length : Int) != (b1.length : Int)), false)], vS (Instr.loadAt 3 (.pointer (some ⟨g1, 1, none⟩))), .int .i64 a2⟩, ⟨false, [(((a1.length : Int) != (b1.length : Int)), false)], vS (Instr.loadAt 3 (.pointer (some ⟨g2, 1, none⟩))), .int .i64 b2⟩, ⟨false, [(((a1.length : Int) != (b1.length : Int)) || (a2 != b2), false)], vS (Instr.loadAt 3 (.pointer (some ⟨g1, 2, none⟩))), .int .i64 a3⟩, ⟨false, [(((a1.length : Int) != (b1.length : Int)) || (a2 != b2), false)], vS (Instr.loadAt 3 (.pointer (some ⟨g2, 2, none⟩))), .int .i64 b3⟩, ⟨false, [((((a1.length : Int) != (b1.length : Int)) || (a2 != b2)) || (a3 != b3), false)], vS (Instr.loadAt 3 (.pointer (some ⟨g1, 3, none⟩))), .int .i64 a4⟩, ⟨false, [((((a1.length : Int) != (b1.length : Int)) || (a2 != b2)) || (a3 != b3), false)], vS (Instr.loadAt 3 (.pointer (some ⟨g2, 3, none⟩))), .int .i64 b4⟩] [none, some (.slice A1 a1.length c1), none, none, some (.slice A2 b1.length c2), none, none, none, none, some (.int .i64 a2), none, some (.int .i64 b2), none, none, none, none, some (.int .i64 a3), none, some (.int .i64 b3), none, none, none, none, some (.int .i64 a4), none, some (.int .i64 b4), none, none] [2, 3, 33] [pl 2 (.pointer (some ⟨g1, 0, none⟩)), pl 3 (.pointer (some ⟨g2, 0, none⟩)), pl 33 (.bool (((((a1.length : Int) != (b1.length : Int)) || (a2 != b2)) || (a3 != b3)) || (a4 != b4)))] hF hS Fol (by kernel_rfl) (by kernel_rfl) (by kernel_rfl) ?_ (fun a w hF hS => ?_)
    · exact obs_cons (ob_load Agg40 (fun _ _ hS => (hS.at_ 1 rfl).cell rfl)) <| obs_cons (ob_load Agg40 (fun _ _ hS => (hS.at_ 0 rfl).cell rfl)) <| obs_cons (ob_load Agg3 (fun _ _ hS => (hS.at_ 1 rfl).cell rfl)) <| obs_cons (ob_load Agg3 (fun _ _ hS => (hS.at_ 0 rfl).cell rfl)) <| obs_cons (ob_load Agg3 (fun _ _ hS => (hS.at_ 1 rfl).cell rfl)) <| obs_cons (ob_load Agg3 (fun _ _ hS => (hS.at_ 0 rfl).cell rfl)) <| obs_cons (ob_load Agg3 (fun _ _ hS => (hS.at_ 1 rfl).cell rfl)) <| obs_cons (ob_load Agg3 (fun _ _ hS => (hS.at_ 0 rfl).cell rfl)) <| obs_nil
    refine cond_ev (t := 33) (b := ((((a1.length : Int) != (b1.length : Int)) || (a2 != b2)) || (a3 != b3)) || (a4 != b4)) hF (by kernel_rfl) (fun hb => ?_) (fun hb => ?_)
    · replace hm := if_t hm hb
      refine reg [] [] [4] [pl 4 (.bool false)] hF hS Fol (by kernel_rfl) (by kernel_rfl) (by kernel_rfl) ?_ (fun a w hF hS => ?_)
      · exact obs_nil
      refine wp_ret ?_
      refine then_r ?_
      have hS := hS.pickN 2 [] (by decide)
      have hm : some false = some r := hm
      obtain rfl := Option.some.inj hm
      exact retV (rs := [.tmp 4]) (vs := [.bool false]) hF rfl (rv_t (by kernel_rfl) <| rv_nil) rfl ⟨rfl, hS⟩
    · replace hm := if_f hm hb
      refine wp_skip ?_
      refine then_n ?_
      have hS := hS.pickN 2 [1, 0] (by decide)
      exact ⟨hF.weak [2, 3] (by kernel_rfl), hS, hm⟩

noncomputable def gameroomlaw_GammonSteps_J4 (r4 : (List Int × Int × Int × Int × Int)) (r8 : (List Int × Int × Int × Int × Bool)) : Option Bool :=
  ((if (r4.2.2.2.2 == 0) then gameroomref_SameGammon_m r4.1 r4.2.1 r4.2.2.1 r4.2.2.2.1 r8.1 r8.2.1 r8.2.2.1 r8.2.2.2.1 else some false)).bind fun r10 => some ((r4.2.2.2.2 == 0) && r10)

noncomputable def gameroomlaw_GammonSteps_J3 (b1 : List Int) (b2 : Int) (b3 : Int) (b4 : Int) (from1 : Int) (pips1 : Int) (r4 : (List Int × Int × Int × Int × Int)) : Option Bool :=
  (gameroomref_StepOf_m b1 b2 b3 b4 from1 pips1).bind fun r8 => if (!r8.2.2.2.2) then (((if (r4.2.2.2.2 == 8) then gameroomlaw_noGammon_m r4.1 r4.2.1 r4.2.2.1 r4.2.2.2.1 else some false)).bind fun r9 => some ((r4.2.2.2.2 == 8) && r9)) else ((gameroomlaw_GammonSteps_J4 r4 r8))

noncomputable def gameroomlaw_GammonSteps_J2 (b1 : List Int) (b2 : Int) (b3 : Int) (b4 : Int) (from1 : Int) (pips1 : Int) (r4 : (List Int × Int × Int × Int × Int)) : Option Bool :=
  if ((((decide (from1 < 0)) || (decide ((24 : Int) < from1))) || (decide (pips1 < 1))) || (decide ((6 : Int) < pips1))) then (((if (r4.2.2.2.2 == 3) then gameroomlaw_noGammon_m r4.1 r4.2.1 r4.2.2.1 r4.2.2.2.1 else some false)).bind fun r7 => some ((r4.2.2.2.2 == 3) && r7)) else ((gameroomlaw_GammonSteps_J3 b1 b2 b3 b4 from1 pips1 r4))

noncomputable def gameroomlaw_GammonSteps_J1 (b1 : List Int) (b2 : Int) (b3 : Int) (b4 : Int) (from1 : Int) (pips1 : Int) (r2 : Bool) (r4 : (List Int × Int × Int × Int × Int)) : Option Bool :=
  if (!r2) then (some false) else ((gameroomlaw_GammonSteps_J2 b1 b2 b3 b4 from1 pips1 r4))

noncomputable def gameroomlaw_GammonSteps_m (b1 : List Int) (b2 : Int) (b3 : Int) (b4 : Int) (from1 : Int) (pips1 : Int) : Option Bool :=
  (gameroomref_GammonOf_m b1 b2 b3 b4).bind fun r1 => (gammon_May_m r1.1 r1.2.1 r1.2.2.1 r1.2.2.2).bind fun r2 => (gameroomref_GammonOf_m b1 b2 b3 b4).bind fun r3 => (gammon_Step_m r3.1 r3.2.1 r3.2.2.1 r3.2.2.2 from1 pips1).bind fun r4 => (gameroomref_GammonMay_m b1 b2 b3 b4).bind fun r5 => if (!r5) then (((if ((!r2) && (r4.2.2.2.2 == 12)) then gameroomlaw_noGammon_m r4.1 r4.2.1 r4.2.2.1 r4.2.2.2.1 else some false)).bind fun r6 => some (((!r2) && (r4.2.2.2.2 == 12)) && r6)) else ((gameroomlaw_GammonSteps_J1 b1 b2 b3 b4 from1 pips1 r2 r4))

set_option maxRecDepth 100000 in
set_option maxHeartbeats 4000000 in
theorem gameroomlaw_GammonSteps_w {A1 : Option Addr} {c1 : Nat} {n1 : Nat} {b1 : List Int} {b2 : Int} {b3 : Int} {b4 : Int} {from1 : Int} {pips1 : Int} {r : Bool} {w0 w : World} {B : Nat} {fs : List HP} (hm : gameroomlaw_GammonSteps_m b1 b2 b3 b4 from1 pips1 = some r) (hS : Sep w0 B w (fs)) (hr_b1 : RdF w0 B fs A1 (vI b1)) (_hc_b1 : b1.length ≤ c1) (_hn_b1 : n1 = b1.length) :
    Calls Try.prog 7 #[.agg #[.slice A1 n1 c1, .int .i64 b2, .int .i64 b3, .int .i64 b4], .int .i64 from1, .int .i64 pips1] w fun e w' => e = .returned (.bool r) ∧ Sep w0 B w' (fs) := by
  obtain ⟨i3, hi3, hz3, hs3, hb3⟩ := info_parts Info3
  obtain rfl := _hn_b1
  unfold gameroomlaw_GammonSteps_m at hm
  replace hm := start_b hm
  refine enter (l := [.agg #[.slice A1 b1.length c1, .int .i64 b2, .int .i64 b3, .int .i64 b4], .int .i64 from1, .int .i64 pips1]) (n := 80) Try.func7 rfl rfl (by simp) (fun a hF => ?_)
  refine seqR ?_
  refine at_do (d := 3) (s := vS (Instr.box 61 (.agg #[.slice A1 b1.length c1, .int .i64 b2, .int .i64 b3, .int .i64 b4]))) (v := .pointer (some ⟨w.heap.size, 0, none⟩)) (w' := w.alloc (.cells #[.slice A1 b1.length c1, .int .i64 b2, .int .i64 b3, .int .i64 b4] 61)) hF (by kernel_rfl) (by kernel_rfl) (by kernel_rfl) (fun a hF => ?_)
  have hS : Sep w0 B (w.alloc (.cells #[.slice A1 b1.length c1, .int .i64 b2, .int .i64 b3, .int .i64 b4] 61)) (blk w.heap.size 61 #[.slice A1 b1.length c1, .int .i64 b2, .int .i64 b3, .int .i64 b4] :: (fs)) := hS.box 61 #[.slice A1 b1.length c1, .int .i64 b2, .int .i64 b3, .int .i64 b4]
  generalize w.heap.size = g1 at hF hS
  generalize w.alloc (.cells #[.slice A1 b1.length c1, .int .i64 b2, .int .i64 b3, .int .i64 b4] 61) = w at hS ⊢
  refine at_run 1 [] [] [1, 2, 3] [pl 1 (.int .i64 from1), pl 2 (.int .i64 pips1), pl 3 (.pointer (some ⟨g1, 0, none⟩))] hF hS (by kernel_rfl) (by kernel_rfl) ?_ (fun a w hF hS => ?_)
  · exact obs_nil
  refine at_end [1, 2, 3] [pl 1 (.int .i64 from1), pl 2 (.int .i64 pips1), pl 3 (.pointer (some ⟨g1, 0, none⟩))] hF rfl (by kernel_rfl) (fun hF => ?_)
  refine then_n ?_
  refine seqR ?_
  obtain ⟨r1, hr1, hm⟩ := call_b hm
  obtain ⟨r2, hr2, hm⟩ := call_b hm
  refine at_run 1 [⟨false, [], vS (Instr.loadAt 61 (.pointer (some ⟨g1, 0, none⟩))), .agg #[.slice A1 b1.length c1, .int .i64 b2, .int .i64 b3, .int .i64 b4]⟩] [some (.agg #[.slice A1 b1.length c1, .int .i64 b2, .int .i64 b3, .int .i64 b4])] [1, 2, 3, 12] [pl 1 (.int .i64 from1), pl 2 (.int .i64 pips1), pl 3 (.pointer (some ⟨g1, 0, none⟩)), pl 12 (.agg #[.slice A1 b1.length c1, .int .i64 b2, .int .i64 b3, .int .i64 b4])] hF hS (by kernel_rfl) (by kernel_rfl) ?_ (fun a w hF hS => ?_)
  · exact obs_cons (ob_loadA (cs := #[.slice A1 b1.length c1, .int .i64 b2, .int .i64 b3, .int .i64 b4]) (by kernel_rfl) (by kernel_rfl) (fun _ _ hS => (hS.at_ 0 rfl).cellsAt 0 (by rfl))) <| obs_nil
  refine at_call (f := 41) (args := #[.agg #[.slice A1 b1.length c1, .int .i64 b2, .int .i64 b3, .int .i64 b4]]) (d := 13) hF (by kernel_rfl) (by kernel_rfl) Try.func41 (by kernel_rfl) rfl (gameroomref_GammonOf_w hr1 hS (fun _ hS => (hr_b1 _ (hS.dropN 1))) _hc_b1 rfl) (fun v a w hR hF => ?_)
  clear hS
  obtain ⟨A2, c2, rfl, hS⟩ := hR
  have hS : Sep w0 B w (own 3 (.slice A2 r1.1.length c2) (vI r1.1) :: blk g1 61 #[.slice A1 b1.length c1, .int .i64 b2, .int .i64 b3, .int .i64 b4] :: fs) := hS
  refine at_run 2 [⟨false, [], callFunc 40 #[.agg #[.slice A2 r1.1.length c2, .int .i64 r1.2.1, .int .i64 r1.2.2.1, .int .i64 r1.2.2.2]], .bool r2⟩] [some (.bool r2), none] [1, 2, 3, 7] [pl 1 (.int .i64 from1), pl 2 (.int .i64 pips1), pl 3 (.pointer (some ⟨g1, 0, none⟩)), pl 7 (.bool r2)] hF hS (by kernel_rfl) (by kernel_rfl) ?_ (fun a w hF hS => ?_)
  · exact obs_cons (ob_call Try.func40 (by kernel_rfl) rfl (fun _ _ hS => gammon_May_w hr2 hS (fun _ hS => (hS.at_ 0 rfl).rd) ((hS.at_ 0 rfl).cap1) rfl)) <| obs_nil
  refine at_end [1, 2, 3, 7] [pl 1 (.int .i64 from1), pl 2 (.int .i64 pips1), pl 3 (.pointer (some ⟨g1, 0, none⟩)), pl 7 (.bool r2)] hF rfl (by kernel_rfl) (fun hF => ?_)
  refine then_n ?_
  refine seqR ?_
  obtain ⟨r3, hr3, hm⟩ := call_b hm
  obtain ⟨r4, hr4, hm⟩ := call_b hm
  refine at_run 1 [⟨false, [], vS (Instr.loadAt 61 (.pointer (some ⟨g1, 0, none⟩))), .agg #[.slice A1 b1.length c1, .int .i64 b2, .int .i64 b3, .int .i64 b4]⟩] [some (.agg #[.slice A1 b1.length c1, .int .i64 b2, .int .i64 b3, .int .i64 b4])] [1, 2, 3, 7, 16] [pl 1 (.int .i64 from1), pl 2 (.int .i64 pips1), pl 3 (.pointer (some ⟨g1, 0, none⟩)), pl 7 (.bool r2), pl 16 (.agg #[.slice A1 b1.length c1, .int .i64 b2, .int .i64 b3, .int .i64 b4])] hF hS (by kernel_rfl) (by kernel_rfl) ?_ (fun a w hF hS => ?_)
  · exact obs_cons (ob_loadA (cs := #[.slice A1 b1.length c1, .int .i64 b2, .int .i64 b3, .int .i64 b4]) (by kernel_rfl) (by kernel_rfl) (fun _ _ hS => (hS.at_ 1 rfl).cellsAt 0 (by rfl))) <| obs_nil
  refine at_call (f := 41) (args := #[.agg #[.slice A1 b1.length c1, .int .i64 b2, .int .i64 b3, .int .i64 b4]]) (d := 17) hF (by kernel_rfl) (by kernel_rfl) Try.func41 (by kernel_rfl) rfl (gameroomref_GammonOf_w hr3 hS (fun _ hS => (hr_b1 _ (hS.dropN 2))) _hc_b1 rfl) (fun v a w hR hF => ?_)
  clear hS
  obtain ⟨A3, c3, rfl, hS⟩ := hR
  have hS : Sep w0 B w (own 3 (.slice A3 r3.1.length c3) (vI r3.1) :: own 3 (.slice A2 r1.1.length c2) (vI r1.1) :: blk g1 61 #[.slice A1 b1.length c1, .int .i64 b2, .int .i64 b3, .int .i64 b4] :: fs) := hS
  refine at_run 2 [] [] [1, 2, 3, 7, 17, 18, 19] [pl 1 (.int .i64 from1), pl 2 (.int .i64 pips1), pl 3 (.pointer (some ⟨g1, 0, none⟩)), pl 7 (.bool r2), pl 17 (.agg #[.slice A3 r3.1.length c3, .int .i64 r3.2.1, .int .i64 r3.2.2.1, .int .i64 r3.2.2.2]), pl 18 (.int .i64 from1), pl 19 (.int .i64 pips1)] hF hS (by kernel_rfl) (by kernel_rfl) ?_ (fun a w hF hS => ?_)
  · exact obs_nil
  refine at_call (f := 42) (args := #[.agg #[.slice A3 r3.1.length c3, .int .i64 r3.2.1, .int .i64 r3.2.2.1, .int .i64 r3.2.2.2], .int .i64 from1, .int .i64 pips1]) (d := 20) hF (by kernel_rfl) (by kernel_rfl) Try.func42 (by kernel_rfl) rfl (gammon_Step_w hr4 hS (fun _ hS => (hS.at_ 0 rfl).rd) ((hS.at_ 0 rfl).cap1) rfl) (fun v a w hR hF => ?_)
  clear hS
  obtain ⟨A4, c4, rfl, hS⟩ := hR
  have hS : Sep w0 B w (own 3 (.slice A4 r4.1.length c4) (vI r4.1) :: own 3 (.slice A3 r3.1.length c3) (vI r3.1) :: own 3 (.slice A2 r1.1.length c2) (vI r1.1) :: blk g1 61 #[.slice A1 b1.length c1, .int .i64 b2, .int .i64 b3, .int .i64 b4] :: fs) := hS
  refine at_run 3 [] [] [1, 2, 3, 7, 21, 22] [pl 1 (.int .i64 from1), pl 2 (.int .i64 pips1), pl 3 (.pointer (some ⟨g1, 0, none⟩)), pl 7 (.bool r2), pl 21 (.agg #[.slice A4 r4.1.length c4, .int .i64 r4.2.1, .int .i64 r4.2.2.1, .int .i64 r4.2.2.2.1]), pl 22 (.int .i64 r4.2.2.2.2)] hF hS (by kernel_rfl) (by kernel_rfl) ?_ (fun a w hF hS => ?_)
  · exact obs_nil
  refine at_do (d := 8) (s := vS (Instr.alloc 61 true (.tuple #[]))) (v := .pointer (some ⟨w.heap.size, 0, none⟩)) (w' := w.alloc (.cells #[.slice none 0 0, .int .i64 0, .int .i64 0, .int .i64 0] 61)) hF (by kernel_rfl) (by kernel_rfl) (by kernel_rfl) (fun a hF => ?_)
  have hS : Sep w0 B (w.alloc (.cells #[.slice none 0 0, .int .i64 0, .int .i64 0, .int .i64 0] 61)) (blk w.heap.size 61 #[.slice none 0 0, .int .i64 0, .int .i64 0, .int .i64 0] :: (own 3 (.slice A4 r4.1.length c4) (vI r4.1) :: own 3 (.slice A3 r3.1.length c3) (vI r3.1) :: own 3 (.slice A2 r1.1.length c2) (vI r1.1) :: blk g1 61 #[.slice A1 b1.length c1, .int .i64 b2, .int .i64 b3, .int .i64 b4] :: fs)) := hS.box 61 #[.slice none 0 0, .int .i64 0, .int .i64 0, .int .i64 0]
  generalize w.heap.size = g2 at hF hS
  generalize w.alloc (.cells #[.slice none 0 0, .int .i64 0, .int .i64 0, .int .i64 0] 61) = w at hS ⊢
  obtain ⟨w, hrun, hS⟩ := run_putA (P := Try.prog) (t := 61) (us := #[.slice A4 r4.1.length c4, .int .i64 r4.2.1, .int .i64 r4.2.2.1, .int .i64 r4.2.2.2.1]) (o := 0) (hS.at_ 0 rfl) (by kernel_rfl) (all_one (by kernel_rfl)) (Nat.le_of_ble_eq_true (by kernel_rfl))
  refine at_skip hF (by kernel_rfl) hrun ?_
  have hS : Sep w0 B w (blk g2 61 #[.slice A4 r4.1.length c4, .int .i64 r4.2.1, .int .i64 r4.2.2.1, .int .i64 r4.2.2.2.1] :: own 3 (.slice A4 r4.1.length c4) (vI r4.1) :: own 3 (.slice A3 r3.1.length c3) (vI r3.1) :: own 3 (.slice A2 r1.1.length c2) (vI r1.1) :: blk g1 61 #[.slice A1 b1.length c1, .int .i64 b2, .int .i64 b3, .int .i64 b4] :: fs) := hS
  refine at_run 1 [] [] [1, 2, 3, 7, 8, 9] [pl 1 (.int .i64 from1), pl 2 (.int .i64 pips1), pl 3 (.pointer (some ⟨g1, 0, none⟩)), pl 7 (.bool r2), pl 8 (.pointer (some ⟨g2, 0, none⟩)), pl 9 (.int .i64 r4.2.2.2.2)] hF hS (by kernel_rfl) (by kernel_rfl) ?_ (fun a w hF hS => ?_)
  · exact obs_nil
  refine at_end [1, 2, 3, 7, 8, 9] [pl 1 (.int .i64 from1), pl 2 (.int .i64 pips1), pl 3 (.pointer (some ⟨g1, 0, none⟩)), pl 7 (.bool r2), pl 8 (.pointer (some ⟨g2, 0, none⟩)), pl 9 (.int .i64 r4.2.2.2.2)] hF rfl (by kernel_rfl) (fun hF => ?_)
  refine then_n ?_
  refine seq_cut (fun a w => Fr 80 [pl 1 (.int .i64 from1), pl 2 (.int .i64 pips1), pl 3 (.pointer (some ⟨g1, 0, none⟩)), pl 7 (.bool r2), pl 8 (.pointer (some ⟨g2, 0, none⟩)), pl 9 (.int .i64 r4.2.2.2.2)] a ∧ Sep w0 B w (blk g1 61 #[.slice A1 b1.length c1, .int .i64 b2, .int .i64 b3, .int .i64 b4] :: blk g2 61 #[.slice A4 r4.1.length c4, .int .i64 r4.2.1, .int .i64 r4.2.2.1, .int .i64 r4.2.2.2.1] :: own 3 (.slice A4 r4.1.length c4) (vI r4.1) :: fs) ∧ ((gameroomlaw_GammonSteps_J1 b1 b2 b3 b4 from1 pips1 r2 r4)).bind some = some r) ?_ ?_
  · rintro a w ⟨hF, hS, hm⟩
    unfold gameroomlaw_GammonSteps_J1 at hm
    refine seq_cut (fun a w => Fr 80 [pl 1 (.int .i64 from1), pl 2 (.int .i64 pips1), pl 3 (.pointer (some ⟨g1, 0, none⟩)), pl 8 (.pointer (some ⟨g2, 0, none⟩)), pl 9 (.int .i64 r4.2.2.2.2)] a ∧ Sep w0 B w (blk g1 61 #[.slice A1 b1.length c1, .int .i64 b2, .int .i64 b3, .int .i64 b4] :: blk g2 61 #[.slice A4 r4.1.length c4, .int .i64 r4.2.1, .int .i64 r4.2.2.1, .int .i64 r4.2.2.2.1] :: own 3 (.slice A4 r4.1.length c4) (vI r4.1) :: fs) ∧ ((gameroomlaw_GammonSteps_J2 b1 b2 b3 b4 from1 pips1 r4)).bind some = some r) ?_ ?_
    · rintro a w ⟨hF, hS, hm⟩
      unfold gameroomlaw_GammonSteps_J2 at hm
      refine seq_cut (fun a w => Fr 80 [pl 1 (.int .i64 from1), pl 2 (.int .i64 pips1), pl 3 (.pointer (some ⟨g1, 0, none⟩)), pl 8 (.pointer (some ⟨g2, 0, none⟩)), pl 9 (.int .i64 r4.2.2.2.2)] a ∧ Sep w0 B w (blk g1 61 #[.slice A1 b1.length c1, .int .i64 b2, .int .i64 b3, .int .i64 b4] :: blk g2 61 #[.slice A4 r4.1.length c4, .int .i64 r4.2.1, .int .i64 r4.2.2.1, .int .i64 r4.2.2.2.1] :: own 3 (.slice A4 r4.1.length c4) (vI r4.1) :: fs) ∧ ((gameroomlaw_GammonSteps_J3 b1 b2 b3 b4 from1 pips1 r4)).bind some = some r) ?_ ?_
      · rintro a w ⟨hF, hS, hm⟩
        unfold gameroomlaw_GammonSteps_J3 at hm
        refine seqR ?_
        obtain ⟨r8, hr8, hm⟩ := call_b hm
        refine at_run 3 [⟨false, [], vS (Instr.loadAt 61 (.pointer (some ⟨g1, 0, none⟩))), .agg #[.slice A1 b1.length c1, .int .i64 b2, .int .i64 b3, .int .i64 b4]⟩] [some (.agg #[.slice A1 b1.length c1, .int .i64 b2, .int .i64 b3, .int .i64 b4]), none, none] [8, 9, 59, 60, 61] [pl 8 (.pointer (some ⟨g2, 0, none⟩)), pl 9 (.int .i64 r4.2.2.2.2), pl 59 (.agg #[.slice A1 b1.length c1, .int .i64 b2, .int .i64 b3, .int .i64 b4]), pl 60 (.int .i64 from1), pl 61 (.int .i64 pips1)] hF hS (by kernel_rfl) (by kernel_rfl) ?_ (fun a w hF hS => ?_)
        · exact obs_cons (ob_loadA (cs := #[.slice A1 b1.length c1, .int .i64 b2, .int .i64 b3, .int .i64 b4]) (by kernel_rfl) (by kernel_rfl) (fun _ _ hS => (hS.at_ 0 rfl).cellsAt 0 (by rfl))) <| obs_nil
        refine at_call (f := 45) (args := #[.agg #[.slice A1 b1.length c1, .int .i64 b2, .int .i64 b3, .int .i64 b4], .int .i64 from1, .int .i64 pips1]) (d := 62) hF (by kernel_rfl) (by kernel_rfl) Try.func45 (by kernel_rfl) rfl (gameroomref_StepOf_w hr8 hS (fun _ hS => (hr_b1 _ (hS.dropN 3))) _hc_b1 rfl) (fun v a w hR hF => ?_)
        clear hS
        obtain ⟨A5, c5, rfl, hS⟩ := hR
        have hS : Sep w0 B w (own 3 (.slice A5 r8.1.length c5) (vI r8.1) :: blk g1 61 #[.slice A1 b1.length c1, .int .i64 b2, .int .i64 b3, .int .i64 b4] :: blk g2 61 #[.slice A4 r4.1.length c4, .int .i64 r4.2.1, .int .i64 r4.2.2.1, .int .i64 r4.2.2.2.1] :: own 3 (.slice A4 r4.1.length c4) (vI r4.1) :: fs) := hS
        refine at_run 3 [] [] [8, 9, 63, 64] [pl 8 (.pointer (some ⟨g2, 0, none⟩)), pl 9 (.int .i64 r4.2.2.2.2), pl 63 (.agg #[.slice A5 r8.1.length c5, .int .i64 r8.2.1, .int .i64 r8.2.2.1, .int .i64 r8.2.2.2.1]), pl 64 (.bool r8.2.2.2.2)] hF hS (by kernel_rfl) (by kernel_rfl) ?_ (fun a w hF hS => ?_)
        · exact obs_nil
        refine at_do (d := 10) (s := vS (Instr.alloc 61 true (.tuple #[]))) (v := .pointer (some ⟨w.heap.size, 0, none⟩)) (w' := w.alloc (.cells #[.slice none 0 0, .int .i64 0, .int .i64 0, .int .i64 0] 61)) hF (by kernel_rfl) (by kernel_rfl) (by kernel_rfl) (fun a hF => ?_)
        have hS : Sep w0 B (w.alloc (.cells #[.slice none 0 0, .int .i64 0, .int .i64 0, .int .i64 0] 61)) (blk w.heap.size 61 #[.slice none 0 0, .int .i64 0, .int .i64 0, .int .i64 0] :: (own 3 (.slice A5 r8.1.length c5) (vI r8.1) :: blk g1 61 #[.slice A1 b1.length c1, .int .i64 b2, .int .i64 b3, .int .i64 b4] :: blk g2 61 #[.slice A4 r4.1.length c4, .int .i64 r4.2.1, .int .i64 r4.2.2.1, .int .i64 r4.2.2.2.1] :: own 3 (.slice A4 r4.1.length c4) (vI r4.1) :: fs)) := hS.box 61 #[.slice none 0 0, .int .i64 0, .int .i64 0, .int .i64 0]
        generalize w.heap.size = g3 at hF hS
        generalize w.alloc (.cells #[.slice none 0 0, .int .i64 0, .int .i64 0, .int .i64 0] 61) = w at hS ⊢
        obtain ⟨w, hrun, hS⟩ := run_putA (P := Try.prog) (t := 61) (us := #[.slice A5 r8.1.length c5, .int .i64 r8.2.1, .int .i64 r8.2.2.1, .int .i64 r8.2.2.2.1]) (o := 0) (hS.at_ 0 rfl) (by kernel_rfl) (all_one (by kernel_rfl)) (Nat.le_of_ble_eq_true (by kernel_rfl))
        refine at_skip hF (by kernel_rfl) hrun ?_
        have hS : Sep w0 B w (blk g3 61 #[.slice A5 r8.1.length c5, .int .i64 r8.2.1, .int .i64 r8.2.2.1, .int .i64 r8.2.2.2.1] :: own 3 (.slice A5 r8.1.length c5) (vI r8.1) :: blk g1 61 #[.slice A1 b1.length c1, .int .i64 b2, .int .i64 b3, .int .i64 b4] :: blk g2 61 #[.slice A4 r4.1.length c4, .int .i64 r4.2.1, .int .i64 r4.2.2.1, .int .i64 r4.2.2.2.1] :: own 3 (.slice A4 r4.1.length c4) (vI r4.1) :: fs) := hS
        refine at_run 1 [] [] [8, 9, 10, 11] [pl 8 (.pointer (some ⟨g2, 0, none⟩)), pl 9 (.int .i64 r4.2.2.2.2), pl 10 (.pointer (some ⟨g3, 0, none⟩)), pl 11 (.bool r8.2.2.2.2)] hF hS (by kernel_rfl) (by kernel_rfl) ?_ (fun a w hF hS => ?_)
        · exact obs_nil
        refine at_end [8, 9, 10, 11] [pl 8 (.pointer (some ⟨g2, 0, none⟩)), pl 9 (.int .i64 r4.2.2.2.2), pl 10 (.pointer (some ⟨g3, 0, none⟩)), pl 11 (.bool r8.2.2.2.2)] hF rfl (by kernel_rfl) (fun hF => ?_)
        refine then_n ?_
        refine seq_cut (fun a w => Fr 80 [pl 8 (.pointer (some ⟨g2, 0, none⟩)), pl 9 (.int .i64 r4.2.2.2.2), pl 10 (.pointer (some ⟨g3, 0, none⟩))] a ∧ Sep w0 B w (blk g2 61 #[.slice A4 r4.1.length c4, .int .i64 r4.2.1, .int .i64 r4.2.2.1, .int .i64 r4.2.2.2.1] :: own 3 (.slice A4 r4.1.length c4) (vI r4.1) :: blk g3 61 #[.slice A5 r8.1.length c5, .int .i64 r8.2.1, .int .i64 r8.2.2.1, .int .i64 r8.2.2.2.1] :: own 3 (.slice A5 r8.1.length c5) (vI r8.1) :: fs) ∧ ((gameroomlaw_GammonSteps_J4 r4 r8)).bind some = some r) ?_ ?_
        · rintro a w ⟨hF, hS, hm⟩
          unfold gameroomlaw_GammonSteps_J4 at hm
          obtain ⟨r10, hr10, hm⟩ := call_b hm
          refine reg [⟨false, [((r4.2.2.2.2 == 0), true)], vS (Instr.loadAt 61 (.pointer (some ⟨g2, 0, none⟩))), .agg #[.slice A4 r4.1.length c4, .int .i64 r4.2.1, .int .i64 r4.2.2.1, .int .i64 r4.2.2.2.1]⟩, ⟨false, [((r4.2.2.2.2 == 0), true)], vS (Instr.loadAt 61 (.pointer (some ⟨g3, 0, none⟩))), .agg #[.slice A5 r8.1.length c5, .int .i64 r8.2.1, .int .i64 r8.2.2.1, .int .i64 r8.2.2.2.1]⟩, ⟨false, [((r4.2.2.2.2 == 0), true)], callFunc 46 #[.agg #[.slice A4 r4.1.length c4, .int .i64 r4.2.1, .int .i64 r4.2.2.1, .int .i64 r4.2.2.2.1], .agg #[.slice A5 r8.1.length c5, .int .i64 r8.2.1, .int .i64 r8.2.2.1, .int .i64 r8.2.2.2.1]], .bool r10⟩] [none, none, none, some (.agg #[.slice A4 r4.1.length c4, .int .i64 r4.2.1, .int .i64 r4.2.2.1, .int .i64 r4.2.2.2.1]), some (.agg #[.slice A5 r8.1.length c5, .int .i64 r8.2.1, .int .i64 r8.2.2.1, .int .i64 r8.2.2.2.1]), some (.bool r10), none, none] [6] [pl 6 (.bool ((r4.2.2.2.2 == 0) && r10))] hF hS Fol (by kernel_rfl) (by kernel_rfl) (by kernel_rfl) ?_ (fun a w hF hS => ?_)
          · exact obs_cons (ob_loadA (cs := #[.slice A4 r4.1.length c4, .int .i64 r4.2.1, .int .i64 r4.2.2.1, .int .i64 r4.2.2.2.1]) (by kernel_rfl) (by kernel_rfl) (fun _ _ hS => (hS.at_ 0 rfl).cellsAt 0 (by rfl))) <| obs_cons (ob_loadA (cs := #[.slice A5 r8.1.length c5, .int .i64 r8.2.1, .int .i64 r8.2.2.1, .int .i64 r8.2.2.2.1]) (by kernel_rfl) (by kernel_rfl) (fun _ _ hS => (hS.at_ 2 rfl).cellsAt 0 (by rfl))) <| obs_cons (ob_call Try.func46 (by kernel_rfl) rfl (fun hy _ hS => gameroomref_SameGammon_w (ite_some hr10 (by rw [show (r4.2.2.2.2 == 0) = true from hy ((r4.2.2.2.2 == 0), true) (by simp)]; try rfl)) hS (fun _ hS => (hS.at_ 1 rfl).rd) ((hS.at_ 1 rfl).cap1) rfl (fun _ hS => (hS.at_ 3 rfl).rd) ((hS.at_ 3 rfl).cap1) rfl)) <| obs_nil
          refine wp_ret ?_
          have hS := hS.pickN 4 [] (by decide)
          have hm : some ((r4.2.2.2.2 == 0) && r10) = some r := hm
          obtain rfl := Option.some.inj hm
          exact retV (rs := [.tmp 6]) (vs := [.bool ((r4.2.2.2.2 == 0) && r10)]) hF rfl (rv_t (by kernel_rfl) <| rv_nil) rfl ⟨rfl, hS⟩
        · refine reg [] [] [8, 9, 10, 66] [pl 8 (.pointer (some ⟨g2, 0, none⟩)), pl 9 (.int .i64 r4.2.2.2.2), pl 10 (.pointer (some ⟨g3, 0, none⟩)), pl 66 (.bool (!r8.2.2.2.2))] hF hS Fol (by kernel_rfl) (by kernel_rfl) (by kernel_rfl) ?_ (fun a w hF hS => ?_)
          · exact obs_nil
          refine cond_ev (t := 66) (b := !r8.2.2.2.2) hF (by kernel_rfl) (fun hb => ?_) (fun hb => ?_)
          · replace hm := if_t hm hb
            obtain ⟨r9, hr9, hm⟩ := call_b hm
            refine reg [⟨false, [((r4.2.2.2.2 == 8), true)], vS (Instr.loadAt 61 (.pointer (some ⟨g2, 0, none⟩))), .agg #[.slice A4 r4.1.length c4, .int .i64 r4.2.1, .int .i64 r4.2.2.1, .int .i64 r4.2.2.2.1]⟩, ⟨false, [((r4.2.2.2.2 == 8), true)], callFunc 44 #[.agg #[.slice A4 r4.1.length c4, .int .i64 r4.2.1, .int .i64 r4.2.2.1, .int .i64 r4.2.2.2.1]], .bool r9⟩] [none, none, none, some (.agg #[.slice A4 r4.1.length c4, .int .i64 r4.2.1, .int .i64 r4.2.2.1, .int .i64 r4.2.2.2.1]), some (.bool r9), none, none] [6] [pl 6 (.bool ((r4.2.2.2.2 == 8) && r9))] hF hS Fol (by kernel_rfl) (by kernel_rfl) (by kernel_rfl) ?_ (fun a w hF hS => ?_)
            · exact obs_cons (ob_loadA (cs := #[.slice A4 r4.1.length c4, .int .i64 r4.2.1, .int .i64 r4.2.2.1, .int .i64 r4.2.2.2.1]) (by kernel_rfl) (by kernel_rfl) (fun _ _ hS => (hS.at_ 3 rfl).cellsAt 0 (by rfl))) <| obs_cons (ob_call Try.func44 (by kernel_rfl) rfl (fun hy _ hS => gameroomlaw_noGammon_w (ite_some hr9 (by rw [show (r4.2.2.2.2 == 8) = true from hy ((r4.2.2.2.2 == 8), true) (by simp)]; try rfl)) hS (fun _ hS => (hS.at_ 4 rfl).rd) ((hS.at_ 4 rfl).cap1) rfl)) <| obs_nil
            refine wp_ret ?_
            refine then_r ?_
            have hS := hS.pickN 5 [] (by decide)
            have hm : some ((r4.2.2.2.2 == 8) && r9) = some r := hm
            obtain rfl := Option.some.inj hm
            exact retV (rs := [.tmp 6]) (vs := [.bool ((r4.2.2.2.2 == 8) && r9)]) hF rfl (rv_t (by kernel_rfl) <| rv_nil) rfl ⟨rfl, hS⟩
          · replace hm := if_f hm hb
            refine wp_skip ?_
            refine then_n ?_
            have hS := hS.pickN 5 [3, 4, 0, 1] (by decide)
            exact ⟨hF.weak [8, 9, 10] (by kernel_rfl), hS, hm⟩
      · refine reg [] [] [1, 2, 3, 8, 9, 51] [pl 1 (.int .i64 from1), pl 2 (.int .i64 pips1), pl 3 (.pointer (some ⟨g1, 0, none⟩)), pl 8 (.pointer (some ⟨g2, 0, none⟩)), pl 9 (.int .i64 r4.2.2.2.2), pl 51 (.bool ((((decide (from1 < 0)) || (decide ((24 : Int) < from1))) || (decide (pips1 < 1))) || (decide ((6 : Int) < pips1))))] hF hS Fol (by kernel_rfl) (by kernel_rfl) (by kernel_rfl) ?_ (fun a w hF hS => ?_)
        · exact obs_nil
        refine cond_ev (t := 51) (b := (((decide (from1 < 0)) || (decide ((24 : Int) < from1))) || (decide (pips1 < 1))) || (decide ((6 : Int) < pips1))) hF (by kernel_rfl) (fun hb => ?_) (fun hb => ?_)
        · replace hm := if_t hm hb
          obtain ⟨r7, hr7, hm⟩ := call_b hm
          refine reg [⟨false, [((r4.2.2.2.2 == 3), true)], vS (Instr.loadAt 61 (.pointer (some ⟨g2, 0, none⟩))), .agg #[.slice A4 r4.1.length c4, .int .i64 r4.2.1, .int .i64 r4.2.2.1, .int .i64 r4.2.2.2.1]⟩, ⟨false, [((r4.2.2.2.2 == 3), true)], callFunc 44 #[.agg #[.slice A4 r4.1.length c4, .int .i64 r4.2.1, .int .i64 r4.2.2.1, .int .i64 r4.2.2.2.1]], .bool r7⟩] [none, none, none, some (.agg #[.slice A4 r4.1.length c4, .int .i64 r4.2.1, .int .i64 r4.2.2.1, .int .i64 r4.2.2.2.1]), some (.bool r7), none, none] [6] [pl 6 (.bool ((r4.2.2.2.2 == 3) && r7))] hF hS Fol (by kernel_rfl) (by kernel_rfl) (by kernel_rfl) ?_ (fun a w hF hS => ?_)
          · exact obs_cons (ob_loadA (cs := #[.slice A4 r4.1.length c4, .int .i64 r4.2.1, .int .i64 r4.2.2.1, .int .i64 r4.2.2.2.1]) (by kernel_rfl) (by kernel_rfl) (fun _ _ hS => (hS.at_ 1 rfl).cellsAt 0 (by rfl))) <| obs_cons (ob_call Try.func44 (by kernel_rfl) rfl (fun hy _ hS => gameroomlaw_noGammon_w (ite_some hr7 (by rw [show (r4.2.2.2.2 == 3) = true from hy ((r4.2.2.2.2 == 3), true) (by simp)]; try rfl)) hS (fun _ hS => (hS.at_ 2 rfl).rd) ((hS.at_ 2 rfl).cap1) rfl)) <| obs_nil
          refine wp_ret ?_
          refine then_r ?_
          have hS := hS.pickN 3 [] (by decide)
          have hm : some ((r4.2.2.2.2 == 3) && r7) = some r := hm
          obtain rfl := Option.some.inj hm
          exact retV (rs := [.tmp 6]) (vs := [.bool ((r4.2.2.2.2 == 3) && r7)]) hF rfl (rv_t (by kernel_rfl) <| rv_nil) rfl ⟨rfl, hS⟩
        · replace hm := if_f hm hb
          refine wp_skip ?_
          refine then_n ?_
          exact ⟨hF.weak [1, 2, 3, 8, 9] (by kernel_rfl), hS, hm⟩
    · refine reg [] [] [1, 2, 3, 8, 9, 37] [pl 1 (.int .i64 from1), pl 2 (.int .i64 pips1), pl 3 (.pointer (some ⟨g1, 0, none⟩)), pl 8 (.pointer (some ⟨g2, 0, none⟩)), pl 9 (.int .i64 r4.2.2.2.2), pl 37 (.bool (!r2))] hF hS Fol (by kernel_rfl) (by kernel_rfl) (by kernel_rfl) ?_ (fun a w hF hS => ?_)
      · exact obs_nil
      refine cond_ev (t := 37) (b := !r2) hF (by kernel_rfl) (fun hb => ?_) (fun hb => ?_)
      · replace hm := if_t hm hb
        refine reg [] [] [6] [pl 6 (.bool false)] hF hS Fol (by kernel_rfl) (by kernel_rfl) (by kernel_rfl) ?_ (fun a w hF hS => ?_)
        · exact obs_nil
        refine wp_ret ?_
        refine then_r ?_
        have hS := hS.pickN 3 [] (by decide)
        have hm : some false = some r := hm
        obtain rfl := Option.some.inj hm
        exact retV (rs := [.tmp 6]) (vs := [.bool false]) hF rfl (rv_t (by kernel_rfl) <| rv_nil) rfl ⟨rfl, hS⟩
      · replace hm := if_f hm hb
        refine wp_skip ?_
        refine then_n ?_
        exact ⟨hF.weak [1, 2, 3, 8, 9] (by kernel_rfl), hS, hm⟩
  · obtain ⟨r5, hr5, hm⟩ := call_b hm
    refine reg [⟨false, [], vS (Instr.loadAt 61 (.pointer (some ⟨g1, 0, none⟩))), .agg #[.slice A1 b1.length c1, .int .i64 b2, .int .i64 b3, .int .i64 b4]⟩, ⟨false, [], callFunc 43 #[.agg #[.slice A1 b1.length c1, .int .i64 b2, .int .i64 b3, .int .i64 b4]], .bool r5⟩] [some (.agg #[.slice A1 b1.length c1, .int .i64 b2, .int .i64 b3, .int .i64 b4]), some (.bool r5), none] [1, 2, 3, 7, 8, 9, 25] [pl 1 (.int .i64 from1), pl 2 (.int .i64 pips1), pl 3 (.pointer (some ⟨g1, 0, none⟩)), pl 7 (.bool r2), pl 8 (.pointer (some ⟨g2, 0, none⟩)), pl 9 (.int .i64 r4.2.2.2.2), pl 25 (.bool (!r5))] hF hS Fol (by kernel_rfl) (by kernel_rfl) (by kernel_rfl) ?_ (fun a w hF hS => ?_)
    · exact obs_cons (ob_loadA (cs := #[.slice A1 b1.length c1, .int .i64 b2, .int .i64 b3, .int .i64 b4]) (by kernel_rfl) (by kernel_rfl) (fun _ _ hS => (hS.at_ 4 rfl).cellsAt 0 (by rfl))) <| obs_cons (ob_call Try.func43 (by kernel_rfl) rfl (fun _ _ hS => gameroomref_GammonMay_w hr5 hS (fun _ hS => (hr_b1 _ (hS.dropN 5))) _hc_b1 rfl)) <| obs_nil
    refine cond_ev (t := 25) (b := !r5) hF (by kernel_rfl) (fun hb => ?_) (fun hb => ?_)
    · replace hm := if_t hm hb
      obtain ⟨r6, hr6, hm⟩ := call_b hm
      refine reg [⟨false, [((!r2) && (r4.2.2.2.2 == 12), true)], vS (Instr.loadAt 61 (.pointer (some ⟨g2, 0, none⟩))), .agg #[.slice A4 r4.1.length c4, .int .i64 r4.2.1, .int .i64 r4.2.2.1, .int .i64 r4.2.2.2.1]⟩, ⟨false, [((!r2) && (r4.2.2.2.2 == 12), true)], callFunc 44 #[.agg #[.slice A4 r4.1.length c4, .int .i64 r4.2.1, .int .i64 r4.2.2.1, .int .i64 r4.2.2.2.1]], .bool r6⟩] [none, none, none, none, none, none, none, some (.agg #[.slice A4 r4.1.length c4, .int .i64 r4.2.1, .int .i64 r4.2.2.1, .int .i64 r4.2.2.2.1]), some (.bool r6), none, none] [6] [pl 6 (.bool (((!r2) && (r4.2.2.2.2 == 12)) && r6))] hF hS Fol (by kernel_rfl) (by kernel_rfl) (by kernel_rfl) ?_ (fun a w hF hS => ?_)
      · exact obs_cons (ob_loadA (cs := #[.slice A4 r4.1.length c4, .int .i64 r4.2.1, .int .i64 r4.2.2.1, .int .i64 r4.2.2.2.1]) (by kernel_rfl) (by kernel_rfl) (fun _ _ hS => (hS.at_ 0 rfl).cellsAt 0 (by rfl))) <| obs_cons (ob_call Try.func44 (by kernel_rfl) rfl (fun hy _ hS => gameroomlaw_noGammon_w (ite_some hr6 (by rw [show ((!r2) && (r4.2.2.2.2 == 12)) = true from hy ((!r2) && (r4.2.2.2.2 == 12), true) (by simp)]; try rfl)) hS (fun _ hS => (hS.at_ 1 rfl).rd) ((hS.at_ 1 rfl).cap1) rfl)) <| obs_nil
      refine wp_ret ?_
      refine then_r ?_
      have hS := hS.pickN 5 [] (by decide)
      have hm : some (((!r2) && (r4.2.2.2.2 == 12)) && r6) = some r := hm
      obtain rfl := Option.some.inj hm
      exact retV (rs := [.tmp 6]) (vs := [.bool (((!r2) && (r4.2.2.2.2 == 12)) && r6)]) hF rfl (rv_t (by kernel_rfl) <| rv_nil) rfl ⟨rfl, hS⟩
    · replace hm := if_f hm hb
      refine wp_skip ?_
      refine then_n ?_
      have hS := hS.pickN 5 [4, 0, 1] (by decide)
      exact ⟨hF.weak [1, 2, 3, 7, 8, 9] (by kernel_rfl), hS, hm⟩

end Go.Proofs.Ytbmhcapeikebgaa
