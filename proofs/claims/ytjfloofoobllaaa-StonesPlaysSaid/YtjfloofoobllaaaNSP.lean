/-
  Models and walks, printed by our own program (wip/gen).
-/
import Derived.Test.YtjfloofoobllaaaFB
import Derived.Test.YtjfloofoobllaaaFE
import Derived.Test.YtjfloofoobllaaaLibPl
import Derived.Test.YtjfloofoobllaaaLibSu
import Derived.Test.YtjfloofoobllaaaFM
import Derived.Test.YtjfloofoobllaaaLibSt
import Derived.Test.YtjfloofoobllaaaSH
import Derived.Test.YtjfloofoobllaaaNSPd
namespace Go.Proofs.Ytjfloofoobllaaa
open Go Go.GL Go.RowKit

noncomputable def gameroomlaw_StonesPlays_J2  (g1 : Int) (g2 : Int) (g3 : List Int) (l1 : List Int) (r3 : (Int × Int × List Int × List Int × Int × Int)) : Option Bool :=
  (gameroomref_PlayStones_m g1 g2 g3 l1).bind fun r6 => ((if (((r3.2.2.2.2.2 == r6.2.2.2.2.2) && (r3.2.2.2.2.1 == r6.2.2.2.2.1)) && (((geti r3.2.2.2.1 0) == (geti r6.2.2.2.1 0)) && ((geti r3.2.2.2.1 1) == (geti r6.2.2.2.1 1)))) then gameroomref_SameGrid_m r3.1 r3.2.1 r3.2.2.1 r6.1 r6.2.1 r6.2.2.1 else some false)).bind fun r7 => some ((((r3.2.2.2.2.2 == r6.2.2.2.2.2) && (r3.2.2.2.2.1 == r6.2.2.2.2.1)) && (((geti r3.2.2.2.1 0) == (geti r6.2.2.2.1 0)) && ((geti r3.2.2.2.1 1) == (geti r6.2.2.2.1 1)))) && r7)

noncomputable def gameroomlaw_StonesPlays_J1  (g1 : Int) (g2 : Int) (g3 : List Int) (l1 : List Int) (r3 : (Int × Int × List Int × List Int × Int × Int)) (no1 : Int) : Option Bool :=
  if (no1 != 0) then (((if (r3.2.2.2.2.2 == no1) then gameroomlaw_noGrid_m r3.1 r3.2.1 r3.2.2.1 else some false)).bind fun r5 => asrt ((((r3.2.2.2.2.2 == no1) && r5) && (r3.2.2.2.2.1 == 0)) = true → 0 ≤ (0 : Int) ∧ (0 : Int) < 2) <| asrt (((((r3.2.2.2.2.2 == no1) && r5) && (r3.2.2.2.2.1 == 0)) && ((geti r3.2.2.2.1 0) == 0)) = true → 0 ≤ (1 : Int) ∧ (1 : Int) < 2) <| some (((((r3.2.2.2.2.2 == no1) && r5) && (r3.2.2.2.2.1 == 0)) && ((geti r3.2.2.2.1 0) == 0)) && ((geti r3.2.2.2.1 1) == 0))) else ((gameroomlaw_StonesPlays_J2 g1 g2 g3 l1 r3))

noncomputable def gameroomlaw_StonesPlays_m  (g1 : Int) (g2 : Int) (g3 : List Int) (l1 : List Int) : Option Bool :=
  (gameroomref_GridOf_m g1 g2 g3).bind fun r1 => (gameroomlaw_ints_m l1).bind fun r2 => (stones_Play_m r1.1 r1.2.1 r1.2.2 r2).bind fun r3 => (gameroomref_GridMay_m g1 g2 g3).bind fun r4 => if (!r4) then ((gameroomlaw_StonesPlays_J1 g1 g2 g3 l1 r3) 12) else (if (decide ((200 : Int) < (l1.length : Int))) then ((gameroomlaw_StonesPlays_J1 g1 g2 g3 l1 r3) 11) else ((gameroomlaw_StonesPlays_J1 g1 g2 g3 l1 r3) 0))

set_option maxRecDepth 100000 in
set_option maxHeartbeats 4000000 in
theorem gameroomlaw_StonesPlays_w  {g1 : Int} {g2 : Int} {A1 : Option Addr} {c1 : Nat} {n1 : Nat} {g3 : List Int} {A2 : Option Addr} {c2 : Nat} {n2 : Nat} {l1 : List Int} {r : Bool} {w0 w : World} {B : Nat} {fs : List HP} (hm : gameroomlaw_StonesPlays_m g1 g2 g3 l1 = some r) (hS : Sep w0 B w (fs)) (hr_g3 : RdF w0 B fs A1 (vI g3)) (_hc_g3 : g3.length ≤ c1) (_hn_g3 : n1 = g3.length) (hr_l1 : RdF w0 B fs A2 (vI l1)) (_hc_l1 : l1.length ≤ c2) (_hn_l1 : n2 = l1.length) :
    Calls Try.prog 3 #[.agg #[.int .i64 g1, .int .i64 g2, .slice A1 n1 c1], .slice A2 n2 c2] w fun e w' => e = .returned (.bool r) ∧ Sep w0 B w' (fs) := by
  obtain ⟨i3, hi3, hz3, hs3, hb3⟩ := info_parts Info3
  obtain rfl := _hn_g3
  obtain rfl := _hn_l1
  unfold gameroomlaw_StonesPlays_m at hm
  replace hm := start_b hm
  refine enter (l := [.agg #[.int .i64 g1, .int .i64 g2, .slice A1 g3.length c1], .slice A2 l1.length c2]) (n := 79) Try.func3 rfl rfl (by simp) (fun a hF => ?_)
  refine seqR ?_
  refine at_do (d := 2) (s := vS (Instr.box 24 (.agg #[.int .i64 g1, .int .i64 g2, .slice A1 g3.length c1]))) (v := .pointer (some ⟨w.heap.size, 0, none⟩)) (w' := w.alloc (.cells #[.int .i64 g1, .int .i64 g2, .slice A1 g3.length c1] 24)) hF (by kernel_rfl) (by kernel_rfl) (by kernel_rfl) (fun a hF => ?_)
  have hS : Sep w0 B (w.alloc (.cells #[.int .i64 g1, .int .i64 g2, .slice A1 g3.length c1] 24)) (blk w.heap.size 24 #[.int .i64 g1, .int .i64 g2, .slice A1 g3.length c1] :: (fs)) := hS.box 24 #[.int .i64 g1, .int .i64 g2, .slice A1 g3.length c1]
  generalize w.heap.size = g4 at hF hS
  generalize w.alloc (.cells #[.int .i64 g1, .int .i64 g2, .slice A1 g3.length c1] 24) = w at hS ⊢
  refine at_run 1 [] [] [1, 2] [pl 1 (.slice A2 l1.length c2), pl 2 (.pointer (some ⟨g4, 0, none⟩))] hF hS (by kernel_rfl) (by kernel_rfl) ?_ (fun a w hF hS => ?_)
  · exact obs_nil
  refine at_end [1, 2] [pl 1 (.slice A2 l1.length c2), pl 2 (.pointer (some ⟨g4, 0, none⟩))] hF rfl (by kernel_rfl) (fun hF => ?_)
  refine then_n ?_
  refine seqR ?_
  obtain ⟨r1, hr1, hm⟩ := call_b hm
  obtain ⟨r2, hr2, hm⟩ := call_b hm
  obtain ⟨r3, hr3, hm⟩ := call_b hm
  refine at_run 1 [⟨false, [], vS (Instr.loadAt 24 (.pointer (some ⟨g4, 0, none⟩))), .agg #[.int .i64 g1, .int .i64 g2, .slice A1 g3.length c1]⟩] [some (.agg #[.int .i64 g1, .int .i64 g2, .slice A1 g3.length c1])] [1, 2, 15] [pl 1 (.slice A2 l1.length c2), pl 2 (.pointer (some ⟨g4, 0, none⟩)), pl 15 (.agg #[.int .i64 g1, .int .i64 g2, .slice A1 g3.length c1])] hF hS (by kernel_rfl) (by kernel_rfl) ?_ (fun a w hF hS => ?_)
  · exact obs_cons (ob_loadA (cs := #[.int .i64 g1, .int .i64 g2, .slice A1 g3.length c1]) (by kernel_rfl) (by kernel_rfl) (fun _ _ hS => (hS.at_ 0 rfl).cellsAt 0 (by rfl))) <| obs_nil
  refine at_call (f := 9) (args := #[.agg #[.int .i64 g1, .int .i64 g2, .slice A1 g3.length c1]]) (d := 16) hF (by kernel_rfl) (by kernel_rfl) Try.func9 (by kernel_rfl) rfl (gameroomref_GridOf_w hr1 hS (fun _ hS => (hr_g3 _ (hS.dropN 1))) _hc_g3 rfl) (fun v a w hR hF => ?_)
  clear hS
  obtain ⟨A3, c3, rfl, hS⟩ := hR
  have hS : Sep w0 B w (own 3 (.slice A3 r1.2.2.length c3) (vI r1.2.2) :: blk g4 24 #[.int .i64 g1, .int .i64 g2, .slice A1 g3.length c1] :: fs) := hS
  refine at_run 1 [] [] [1, 2, 16, 17] [pl 1 (.slice A2 l1.length c2), pl 2 (.pointer (some ⟨g4, 0, none⟩)), pl 16 (.agg #[.int .i64 r1.1, .int .i64 r1.2.1, .slice A3 r1.2.2.length c3]), pl 17 (.slice A2 l1.length c2)] hF hS (by kernel_rfl) (by kernel_rfl) ?_ (fun a w hF hS => ?_)
  · exact obs_nil
  refine at_call (f := 10) (args := #[.slice A2 l1.length c2]) (d := 18) hF (by kernel_rfl) (by kernel_rfl) Try.func10 (by kernel_rfl) rfl (gameroomlaw_ints_w hr2 hS (fun _ hS => (hr_l1 _ (hS.dropN 2))) _hc_l1 rfl) (fun v a w hR hF => ?_)
  clear hS
  obtain ⟨A4, c4, rfl, hS⟩ := hR
  have hS : Sep w0 B w (own 3 (.slice A4 r2.length c4) (vI r2) :: own 3 (.slice A3 r1.2.2.length c3) (vI r1.2.2) :: blk g4 24 #[.int .i64 g1, .int .i64 g2, .slice A1 g3.length c1] :: fs) := hS
  refine at_call (f := 8) (args := #[.agg #[.int .i64 r1.1, .int .i64 r1.2.1, .slice A3 r1.2.2.length c3], .slice A4 r2.length c4]) (d := 19) hF (by kernel_rfl) (by kernel_rfl) Try.func8 (by kernel_rfl) rfl (stones_Play_w hr3 hS (fun _ hS => (hS.at_ 1 rfl).rd) ((hS.at_ 1 rfl).cap1) rfl (fun _ hS => (hS.at_ 0 rfl).rd) ((hS.at_ 0 rfl).cap1) rfl) (fun v a w hR hF => ?_)
  clear hS
  obtain ⟨A5, c5, rfl, hS⟩ := hR
  have hS : Sep w0 B w (own 3 (.slice A5 r3.2.2.1.length c5) (vI r3.2.2.1) :: own 3 (.slice A4 r2.length c4) (vI r2) :: own 3 (.slice A3 r1.2.2.length c3) (vI r1.2.2) :: blk g4 24 #[.int .i64 g1, .int .i64 g2, .slice A1 g3.length c1] :: fs) := hS
  refine at_run 5 [] [] [1, 2, 20, 21, 22, 23] [pl 1 (.slice A2 l1.length c2), pl 2 (.pointer (some ⟨g4, 0, none⟩)), pl 20 (.agg #[.int .i64 r3.1, .int .i64 r3.2.1, .slice A5 r3.2.2.1.length c5]), pl 21 (.agg (List.toArray (([] : List Value) ++ (arr1 (Value.int .i64) (0 : Int) 2 r3.2.2.2.1 ++ ([] : List Value))))), pl 22 (.int .i64 r3.2.2.2.2.1), pl 23 (.int .i64 r3.2.2.2.2.2)] hF hS (by kernel_rfl) (by kernel_rfl) ?_ (fun a w hF hS => ?_)
  · exact obs_nil
  refine at_do (d := 5) (s := vS (Instr.alloc 24 true (.tuple #[]))) (v := .pointer (some ⟨w.heap.size, 0, none⟩)) (w' := w.alloc (.cells #[.int .i64 0, .int .i64 0, .slice none 0 0] 24)) hF (by kernel_rfl) (by kernel_rfl) (by kernel_rfl) (fun a hF => ?_)
  have hS : Sep w0 B (w.alloc (.cells #[.int .i64 0, .int .i64 0, .slice none 0 0] 24)) (blk w.heap.size 24 #[.int .i64 0, .int .i64 0, .slice none 0 0] :: (own 3 (.slice A5 r3.2.2.1.length c5) (vI r3.2.2.1) :: own 3 (.slice A4 r2.length c4) (vI r2) :: own 3 (.slice A3 r1.2.2.length c3) (vI r1.2.2) :: blk g4 24 #[.int .i64 g1, .int .i64 g2, .slice A1 g3.length c1] :: fs)) := hS.box 24 #[.int .i64 0, .int .i64 0, .slice none 0 0]
  generalize w.heap.size = g5 at hF hS
  generalize w.alloc (.cells #[.int .i64 0, .int .i64 0, .slice none 0 0] 24) = w at hS ⊢
  refine at_do (d := 6) (s := vS (Instr.alloc 25 true (.tuple #[]))) (v := .pointer (some ⟨w.heap.size, 0, none⟩)) (w' := w.alloc (.cells (List.toArray (([] : List Value) ++ (arr1 (Value.int .i64) (0 : Int) 2 (List.replicate 2 (0 : Int)) ++ ([] : List Value)))) 25)) hF (by kernel_rfl) (by kernel_rfl) (by kernel_rfl) (fun a hF => ?_)
  have hS : Sep w0 B (w.alloc (.cells (List.toArray (([] : List Value) ++ (arr1 (Value.int .i64) (0 : Int) 2 (List.replicate 2 (0 : Int)) ++ ([] : List Value)))) 25)) (blk w.heap.size 25 (List.toArray (([] : List Value) ++ (arr1 (Value.int .i64) (0 : Int) 2 (List.replicate 2 (0 : Int)) ++ ([] : List Value)))) :: (blk g5 24 #[.int .i64 0, .int .i64 0, .slice none 0 0] :: own 3 (.slice A5 r3.2.2.1.length c5) (vI r3.2.2.1) :: own 3 (.slice A4 r2.length c4) (vI r2) :: own 3 (.slice A3 r1.2.2.length c3) (vI r1.2.2) :: blk g4 24 #[.int .i64 g1, .int .i64 g2, .slice A1 g3.length c1] :: fs)) := hS.box 25 (List.toArray (([] : List Value) ++ (arr1 (Value.int .i64) (0 : Int) 2 (List.replicate 2 (0 : Int)) ++ ([] : List Value))))
  generalize w.heap.size = g6 at hF hS
  generalize w.alloc (.cells (List.toArray (([] : List Value) ++ (arr1 (Value.int .i64) (0 : Int) 2 (List.replicate 2 (0 : Int)) ++ ([] : List Value)))) 25) = w at hS ⊢
  obtain ⟨w, hrun, hS⟩ := run_putA (P := Try.prog) (t := 24) (us := #[.int .i64 r3.1, .int .i64 r3.2.1, .slice A5 r3.2.2.1.length c5]) (o := 0) (hS.at_ 1 rfl) (by kernel_rfl) (all_one (by kernel_rfl)) (Nat.le_of_ble_eq_true (by kernel_rfl))
  refine at_skip hF (by kernel_rfl) hrun ?_
  have hS : Sep w0 B w (blk g6 25 (List.toArray (([] : List Value) ++ (arr1 (Value.int .i64) (0 : Int) 2 (List.replicate 2 (0 : Int)) ++ ([] : List Value)))) :: blk g5 24 #[.int .i64 r3.1, .int .i64 r3.2.1, .slice A5 r3.2.2.1.length c5] :: own 3 (.slice A5 r3.2.2.1.length c5) (vI r3.2.2.1) :: own 3 (.slice A4 r2.length c4) (vI r2) :: own 3 (.slice A3 r1.2.2.length c3) (vI r1.2.2) :: blk g4 24 #[.int .i64 g1, .int .i64 g2, .slice A1 g3.length c1] :: fs) := hS
  obtain ⟨w, hrun, hS⟩ := run_putA (P := Try.prog) (t := 25) (us := (List.toArray (([] : List Value) ++ (arr1 (Value.int .i64) (0 : Int) 2 r3.2.2.2.1 ++ ([] : List Value))))) (o := 0) (hS.at_ 0 rfl) (by kernel_rfl) (all_one (by kernel_rfl)) (Nat.le_of_ble_eq_true (by kernel_rfl))
  refine at_skip hF (by kernel_rfl) hrun ?_
  have hS : Sep w0 B w (blk g6 25 (List.toArray (([] : List Value) ++ (arr1 (Value.int .i64) (0 : Int) 2 r3.2.2.2.1 ++ ([] : List Value)))) :: blk g5 24 #[.int .i64 r3.1, .int .i64 r3.2.1, .slice A5 r3.2.2.1.length c5] :: own 3 (.slice A5 r3.2.2.1.length c5) (vI r3.2.2.1) :: own 3 (.slice A4 r2.length c4) (vI r2) :: own 3 (.slice A3 r1.2.2.length c3) (vI r1.2.2) :: blk g4 24 #[.int .i64 g1, .int .i64 g2, .slice A1 g3.length c1] :: fs) := hS
  refine at_run 2 [] [] [1, 2, 5, 6, 7, 8] [pl 1 (.slice A2 l1.length c2), pl 2 (.pointer (some ⟨g4, 0, none⟩)), pl 5 (.pointer (some ⟨g5, 0, none⟩)), pl 6 (.pointer (some ⟨g6, 0, none⟩)), pl 7 (.int .i64 r3.2.2.2.2.1), pl 8 (.int .i64 r3.2.2.2.2.2)] hF hS (by kernel_rfl) (by kernel_rfl) ?_ (fun a w hF hS => ?_)
  · exact obs_nil
  refine at_end [1, 2, 5, 6, 7, 8] [pl 1 (.slice A2 l1.length c2), pl 2 (.pointer (some ⟨g4, 0, none⟩)), pl 5 (.pointer (some ⟨g5, 0, none⟩)), pl 6 (.pointer (some ⟨g6, 0, none⟩)), pl 7 (.int .i64 r3.2.2.2.2.1), pl 8 (.int .i64 r3.2.2.2.2.2)] hF rfl (by kernel_rfl) (fun hF => ?_)
  refine then_n ?_
  refine reg [] [] [1, 2, 5, 6, 7, 8, 9] [pl 1 (.slice A2 l1.length c2), pl 2 (.pointer (some ⟨g4, 0, none⟩)), pl 5 (.pointer (some ⟨g5, 0, none⟩)), pl 6 (.pointer (some ⟨g6, 0, none⟩)), pl 7 (.int .i64 r3.2.2.2.2.1), pl 8 (.int .i64 r3.2.2.2.2.2), pl 9 (.int .i64 0)] hF hS Fol (by kernel_rfl) (by kernel_rfl) (by kernel_rfl) ?_ (fun a w hF hS => ?_)
  · exact obs_nil
  refine seq_cut (fun a w => ∃ (no1 : Int), Fr 79 [pl 1 (.slice A2 l1.length c2), pl 2 (.pointer (some ⟨g4, 0, none⟩)), pl 5 (.pointer (some ⟨g5, 0, none⟩)), pl 6 (.pointer (some ⟨g6, 0, none⟩)), pl 7 (.int .i64 r3.2.2.2.2.1), pl 8 (.int .i64 r3.2.2.2.2.2), pl 9 (.int .i64 no1)] a ∧ Sep w0 B w (blk g4 24 #[.int .i64 g1, .int .i64 g2, .slice A1 g3.length c1] :: blk g5 24 #[.int .i64 r3.1, .int .i64 r3.2.1, .slice A5 r3.2.2.1.length c5] :: own 3 (.slice A5 r3.2.2.1.length c5) (vI r3.2.2.1) :: blk g6 25 (List.toArray (([] : List Value) ++ (arr1 (Value.int .i64) (0 : Int) 2 r3.2.2.2.1 ++ ([] : List Value)))) :: fs) ∧ ((gameroomlaw_StonesPlays_J1 g1 g2 g3 l1 r3) no1).bind some = some r) ?_ ?_
  · rintro a w ⟨no1, hF, hS, hm⟩
    unfold gameroomlaw_StonesPlays_J1 at hm
    refine seq_cut (fun a w => Fr 79 [pl 1 (.slice A2 l1.length c2), pl 2 (.pointer (some ⟨g4, 0, none⟩)), pl 5 (.pointer (some ⟨g5, 0, none⟩)), pl 6 (.pointer (some ⟨g6, 0, none⟩)), pl 7 (.int .i64 r3.2.2.2.2.1), pl 8 (.int .i64 r3.2.2.2.2.2)] a ∧ Sep w0 B w (blk g4 24 #[.int .i64 g1, .int .i64 g2, .slice A1 g3.length c1] :: blk g5 24 #[.int .i64 r3.1, .int .i64 r3.2.1, .slice A5 r3.2.2.1.length c5] :: own 3 (.slice A5 r3.2.2.1.length c5) (vI r3.2.2.1) :: blk g6 25 (List.toArray (([] : List Value) ++ (arr1 (Value.int .i64) (0 : Int) 2 r3.2.2.2.1 ++ ([] : List Value)))) :: fs) ∧ ((gameroomlaw_StonesPlays_J2 g1 g2 g3 l1 r3)).bind some = some r) ?_ ?_
    · rintro a w ⟨hF, hS, hm⟩
      unfold gameroomlaw_StonesPlays_J2 at hm
      refine seqR ?_
      obtain ⟨r6, hr6, hm⟩ := call_b hm
      refine at_run 2 [⟨false, [], vS (Instr.loadAt 24 (.pointer (some ⟨g4, 0, none⟩))), .agg #[.int .i64 g1, .int .i64 g2, .slice A1 g3.length c1]⟩] [some (.agg #[.int .i64 g1, .int .i64 g2, .slice A1 g3.length c1]), none] [5, 6, 7, 8, 54, 55] [pl 5 (.pointer (some ⟨g5, 0, none⟩)), pl 6 (.pointer (some ⟨g6, 0, none⟩)), pl 7 (.int .i64 r3.2.2.2.2.1), pl 8 (.int .i64 r3.2.2.2.2.2), pl 54 (.agg #[.int .i64 g1, .int .i64 g2, .slice A1 g3.length c1]), pl 55 (.slice A2 l1.length c2)] hF hS (by kernel_rfl) (by kernel_rfl) ?_ (fun a w hF hS => ?_)
      · exact obs_cons (ob_loadA (cs := #[.int .i64 g1, .int .i64 g2, .slice A1 g3.length c1]) (by kernel_rfl) (by kernel_rfl) (fun _ _ hS => (hS.at_ 0 rfl).cellsAt 0 (by rfl))) <| obs_nil
      refine at_call (f := 13) (args := #[.agg #[.int .i64 g1, .int .i64 g2, .slice A1 g3.length c1], .slice A2 l1.length c2]) (d := 56) hF (by kernel_rfl) (by kernel_rfl) Try.func13 (by kernel_rfl) rfl (gameroomref_PlayStones_w hr6 hS (fun _ hS => (hr_g3 _ (hS.dropN 4))) _hc_g3 rfl (fun _ hS => (hr_l1 _ (hS.dropN 4))) _hc_l1 rfl) (fun v a w hR hF => ?_)
      clear hS
      obtain ⟨pg1, A6, c6, rfl, hp3, hc1, hS⟩ := hR
      have hS : Sep w0 B w (pg1 :: blk g4 24 #[.int .i64 g1, .int .i64 g2, .slice A1 g3.length c1] :: blk g5 24 #[.int .i64 r3.1, .int .i64 r3.2.1, .slice A5 r3.2.2.1.length c5] :: own 3 (.slice A5 r3.2.2.1.length c5) (vI r3.2.2.1) :: blk g6 25 (List.toArray (([] : List Value) ++ (arr1 (Value.int .i64) (0 : Int) 2 r3.2.2.2.1 ++ ([] : List Value)))) :: fs) := hS
      refine at_run 5 [] [] [5, 6, 7, 8, 57, 58, 59, 60] [pl 5 (.pointer (some ⟨g5, 0, none⟩)), pl 6 (.pointer (some ⟨g6, 0, none⟩)), pl 7 (.int .i64 r3.2.2.2.2.1), pl 8 (.int .i64 r3.2.2.2.2.2), pl 57 (.agg #[.int .i64 r6.1, .int .i64 r6.2.1, .slice A6 r6.2.2.1.length c6]), pl 58 (.agg (List.toArray (([] : List Value) ++ (arr1 (Value.int .i64) (0 : Int) 2 r6.2.2.2.1 ++ ([] : List Value))))), pl 59 (.int .i64 r6.2.2.2.2.1), pl 60 (.int .i64 r6.2.2.2.2.2)] hF hS (by kernel_rfl) (by kernel_rfl) ?_ (fun a w hF hS => ?_)
      · exact obs_nil
      refine at_do (d := 10) (s := vS (Instr.alloc 24 true (.tuple #[]))) (v := .pointer (some ⟨w.heap.size, 0, none⟩)) (w' := w.alloc (.cells #[.int .i64 0, .int .i64 0, .slice none 0 0] 24)) hF (by kernel_rfl) (by kernel_rfl) (by kernel_rfl) (fun a hF => ?_)
      have hS : Sep w0 B (w.alloc (.cells #[.int .i64 0, .int .i64 0, .slice none 0 0] 24)) (blk w.heap.size 24 #[.int .i64 0, .int .i64 0, .slice none 0 0] :: (pg1 :: blk g4 24 #[.int .i64 g1, .int .i64 g2, .slice A1 g3.length c1] :: blk g5 24 #[.int .i64 r3.1, .int .i64 r3.2.1, .slice A5 r3.2.2.1.length c5] :: own 3 (.slice A5 r3.2.2.1.length c5) (vI r3.2.2.1) :: blk g6 25 (List.toArray (([] : List Value) ++ (arr1 (Value.int .i64) (0 : Int) 2 r3.2.2.2.1 ++ ([] : List Value)))) :: fs)) := hS.box 24 #[.int .i64 0, .int .i64 0, .slice none 0 0]
      generalize w.heap.size = g7 at hF hS
      generalize w.alloc (.cells #[.int .i64 0, .int .i64 0, .slice none 0 0] 24) = w at hS ⊢
      refine at_do (d := 11) (s := vS (Instr.alloc 25 true (.tuple #[]))) (v := .pointer (some ⟨w.heap.size, 0, none⟩)) (w' := w.alloc (.cells (List.toArray (([] : List Value) ++ (arr1 (Value.int .i64) (0 : Int) 2 (List.replicate 2 (0 : Int)) ++ ([] : List Value)))) 25)) hF (by kernel_rfl) (by kernel_rfl) (by kernel_rfl) (fun a hF => ?_)
      have hS : Sep w0 B (w.alloc (.cells (List.toArray (([] : List Value) ++ (arr1 (Value.int .i64) (0 : Int) 2 (List.replicate 2 (0 : Int)) ++ ([] : List Value)))) 25)) (blk w.heap.size 25 (List.toArray (([] : List Value) ++ (arr1 (Value.int .i64) (0 : Int) 2 (List.replicate 2 (0 : Int)) ++ ([] : List Value)))) :: (blk g7 24 #[.int .i64 0, .int .i64 0, .slice none 0 0] :: pg1 :: blk g4 24 #[.int .i64 g1, .int .i64 g2, .slice A1 g3.length c1] :: blk g5 24 #[.int .i64 r3.1, .int .i64 r3.2.1, .slice A5 r3.2.2.1.length c5] :: own 3 (.slice A5 r3.2.2.1.length c5) (vI r3.2.2.1) :: blk g6 25 (List.toArray (([] : List Value) ++ (arr1 (Value.int .i64) (0 : Int) 2 r3.2.2.2.1 ++ ([] : List Value)))) :: fs)) := hS.box 25 (List.toArray (([] : List Value) ++ (arr1 (Value.int .i64) (0 : Int) 2 (List.replicate 2 (0 : Int)) ++ ([] : List Value))))
      generalize w.heap.size = g8 at hF hS
      generalize w.alloc (.cells (List.toArray (([] : List Value) ++ (arr1 (Value.int .i64) (0 : Int) 2 (List.replicate 2 (0 : Int)) ++ ([] : List Value)))) 25) = w at hS ⊢
      obtain ⟨w, hrun, hS⟩ := run_putA (P := Try.prog) (t := 24) (us := #[.int .i64 r6.1, .int .i64 r6.2.1, .slice A6 r6.2.2.1.length c6]) (o := 0) (hS.at_ 1 rfl) (by kernel_rfl) (all_one (by kernel_rfl)) (Nat.le_of_ble_eq_true (by kernel_rfl))
      refine at_skip hF (by kernel_rfl) hrun ?_
      have hS : Sep w0 B w (blk g8 25 (List.toArray (([] : List Value) ++ (arr1 (Value.int .i64) (0 : Int) 2 (List.replicate 2 (0 : Int)) ++ ([] : List Value)))) :: blk g7 24 #[.int .i64 r6.1, .int .i64 r6.2.1, .slice A6 r6.2.2.1.length c6] :: pg1 :: blk g4 24 #[.int .i64 g1, .int .i64 g2, .slice A1 g3.length c1] :: blk g5 24 #[.int .i64 r3.1, .int .i64 r3.2.1, .slice A5 r3.2.2.1.length c5] :: own 3 (.slice A5 r3.2.2.1.length c5) (vI r3.2.2.1) :: blk g6 25 (List.toArray (([] : List Value) ++ (arr1 (Value.int .i64) (0 : Int) 2 r3.2.2.2.1 ++ ([] : List Value)))) :: fs) := hS
      obtain ⟨w, hrun, hS⟩ := run_putA (P := Try.prog) (t := 25) (us := (List.toArray (([] : List Value) ++ (arr1 (Value.int .i64) (0 : Int) 2 r6.2.2.2.1 ++ ([] : List Value))))) (o := 0) (hS.at_ 0 rfl) (by kernel_rfl) (all_one (by kernel_rfl)) (Nat.le_of_ble_eq_true (by kernel_rfl))
      refine at_skip hF (by kernel_rfl) hrun ?_
      have hS : Sep w0 B w (blk g8 25 (List.toArray (([] : List Value) ++ (arr1 (Value.int .i64) (0 : Int) 2 r6.2.2.2.1 ++ ([] : List Value)))) :: blk g7 24 #[.int .i64 r6.1, .int .i64 r6.2.1, .slice A6 r6.2.2.1.length c6] :: pg1 :: blk g4 24 #[.int .i64 g1, .int .i64 g2, .slice A1 g3.length c1] :: blk g5 24 #[.int .i64 r3.1, .int .i64 r3.2.1, .slice A5 r3.2.2.1.length c5] :: own 3 (.slice A5 r3.2.2.1.length c5) (vI r3.2.2.1) :: blk g6 25 (List.toArray (([] : List Value) ++ (arr1 (Value.int .i64) (0 : Int) 2 r3.2.2.2.1 ++ ([] : List Value)))) :: fs) := hS
      refine at_run 2 [] [] [5, 6, 7, 8, 10, 11, 12, 13] [pl 5 (.pointer (some ⟨g5, 0, none⟩)), pl 6 (.pointer (some ⟨g6, 0, none⟩)), pl 7 (.int .i64 r3.2.2.2.2.1), pl 8 (.int .i64 r3.2.2.2.2.2), pl 10 (.pointer (some ⟨g7, 0, none⟩)), pl 11 (.pointer (some ⟨g8, 0, none⟩)), pl 12 (.int .i64 r6.2.2.2.2.1), pl 13 (.int .i64 r6.2.2.2.2.2)] hF hS (by kernel_rfl) (by kernel_rfl) ?_ (fun a w hF hS => ?_)
      · exact obs_nil
      refine at_end [5, 6, 7, 8, 10, 11, 12, 13] [pl 5 (.pointer (some ⟨g5, 0, none⟩)), pl 6 (.pointer (some ⟨g6, 0, none⟩)), pl 7 (.int .i64 r3.2.2.2.2.1), pl 8 (.int .i64 r3.2.2.2.2.2), pl 10 (.pointer (some ⟨g7, 0, none⟩)), pl 11 (.pointer (some ⟨g8, 0, none⟩)), pl 12 (.int .i64 r6.2.2.2.2.1), pl 13 (.int .i64 r6.2.2.2.2.2)] hF rfl (by kernel_rfl) (fun hF => ?_)
      refine then_n ?_
      obtain ⟨r7, hr7, hm⟩ := call_b hm
      refine reg [⟨false, [((r3.2.2.2.2.2 == r6.2.2.2.2.2) && (r3.2.2.2.2.1 == r6.2.2.2.2.1), true)], vS (Instr.loadAt 25 (.pointer (some ⟨g6, 0, none⟩))), .agg (List.toArray (([] : List Value) ++ (arr1 (Value.int .i64) (0 : Int) 2 r3.2.2.2.1 ++ ([] : List Value))))⟩, ⟨false, [((r3.2.2.2.2.2 == r6.2.2.2.2.2) && (r3.2.2.2.2.1 == r6.2.2.2.2.1), true)], vS (Instr.loadAt 25 (.pointer (some ⟨g8, 0, none⟩))), .agg (List.toArray (([] : List Value) ++ (arr1 (Value.int .i64) (0 : Int) 2 r6.2.2.2.1 ++ ([] : List Value))))⟩, ⟨true, [((r3.2.2.2.2.2 == r6.2.2.2.2.2) && (r3.2.2.2.2.1 == r6.2.2.2.2.1), true)], vS (do eqGuard .eql 25 (.tmp 70) (.tmp 71) (.agg (List.toArray (([] : List Value) ++ (arr1 (Value.int .i64) (0 : Int) 2 r3.2.2.2.1 ++ ([] : List Value))))) (.agg (List.toArray (([] : List Value) ++ (arr1 (Value.int .i64) (0 : Int) 2 r6.2.2.2.1 ++ ([] : List Value))))); binOp .eql 25 (.agg (List.toArray (([] : List Value) ++ (arr1 (Value.int .i64) (0 : Int) 2 r3.2.2.2.1 ++ ([] : List Value))))) (.agg (List.toArray (([] : List Value) ++ (arr1 (Value.int .i64) (0 : Int) 2 r6.2.2.2.1 ++ ([] : List Value)))))), .bool ((((geti r3.2.2.2.1 0) == (geti r6.2.2.2.1 0)) && ((geti r3.2.2.2.1 1) == (geti r6.2.2.2.1 1))))⟩, ⟨false, [(((r3.2.2.2.2.2 == r6.2.2.2.2.2) && (r3.2.2.2.2.1 == r6.2.2.2.2.1)) && (((geti r3.2.2.2.1 0) == (geti r6.2.2.2.1 0)) && ((geti r3.2.2.2.1 1) == (geti r6.2.2.2.1 1))), true)], vS (Instr.loadAt 24 (.pointer (some ⟨g5, 0, none⟩))), .agg #[.int .i64 r3.1, .int .i64 r3.2.1, .slice A5 r3.2.2.1.length c5]⟩, ⟨false, [(((r3.2.2.2.2.2 == r6.2.2.2.2.2) && (r3.2.2.2.2.1 == r6.2.2.2.2.1)) && (((geti r3.2.2.2.1 0) == (geti r6.2.2.2.1 0)) && ((geti r3.2.2.2.1 1) == (geti r6.2.2.2.1 1))), true)], vS (Instr.loadAt 24 (.pointer (some ⟨g7, 0, none⟩))), .agg #[.int .i64 r6.1, .int .i64 r6.2.1, .slice A6 r6.2.2.1.length c6]⟩, ⟨false, [(((r3.2.2.2.2.2 == r6.2.2.2.2.2) && (r3.2.2.2.2.1 == r6.2.2.2.2.1)) && (((geti r3.2.2.2.1 0) == (geti r6.2.2.2.1 0)) && ((geti r3.2.2.2.1 1) == (geti r6.2.2.2.1 1))), true)], callFunc 14 #[.agg #[.int .i64 r3.1, .int .i64 r3.2.1, .slice A5 r3.2.2.1.length c5], .agg #[.int .i64 r6.1, .int .i64 r6.2.1, .slice A6 r6.2.2.1.length c6]], .bool r7⟩] [none, none, none, none, none, none, none, none, none, some (.agg (List.toArray (([] : List Value) ++ (arr1 (Value.int .i64) (0 : Int) 2 r3.2.2.2.1 ++ ([] : List Value))))), some (.agg (List.toArray (([] : List Value) ++ (arr1 (Value.int .i64) (0 : Int) 2 r6.2.2.2.1 ++ ([] : List Value))))), some (.bool ((((geti r3.2.2.2.1 0) == (geti r6.2.2.2.1 0)) && ((geti r3.2.2.2.1 1) == (geti r6.2.2.2.1 1))))), none, none, some (.agg #[.int .i64 r3.1, .int .i64 r3.2.1, .slice A5 r3.2.2.1.length c5]), some (.agg #[.int .i64 r6.1, .int .i64 r6.2.1, .slice A6 r6.2.2.1.length c6]), some (.bool r7), none, none] [4] [pl 4 (.bool ((((r3.2.2.2.2.2 == r6.2.2.2.2.2) && (r3.2.2.2.2.1 == r6.2.2.2.2.1)) && (((geti r3.2.2.2.1 0) == (geti r6.2.2.2.1 0)) && ((geti r3.2.2.2.1 1) == (geti r6.2.2.2.1 1)))) && r7))] hF hS Fol (by kernel_rfl) (by kernel_rfl) (by kernel_rfl) ?_ (fun a w hF hS => ?_)
      · exact obs_cons (ob_loadA (cs := (List.toArray (([] : List Value) ++ (arr1 (Value.int .i64) (0 : Int) 2 r3.2.2.2.1 ++ ([] : List Value))))) (by kernel_rfl) (by kernel_rfl) (fun _ _ hS => (hS.at_ 6 rfl).cellsAt 0 (by rfl))) <| obs_cons (ob_loadA (cs := (List.toArray (([] : List Value) ++ (arr1 (Value.int .i64) (0 : Int) 2 r6.2.2.2.1 ++ ([] : List Value))))) (by kernel_rfl) (by kernel_rfl) (fun _ _ hS => (hS.at_ 0 rfl).cellsAt 0 (by rfl))) <| obs_cons (ob_eql rfl (by kernel_rfl) (fun w => Eql25 w)) <| obs_cons (ob_loadA (cs := #[.int .i64 r3.1, .int .i64 r3.2.1, .slice A5 r3.2.2.1.length c5]) (by kernel_rfl) (by kernel_rfl) (fun _ _ hS => (hS.at_ 4 rfl).cellsAt 0 (by rfl))) <| obs_cons (ob_loadA (cs := #[.int .i64 r6.1, .int .i64 r6.2.1, .slice A6 r6.2.2.1.length c6]) (by kernel_rfl) (by kernel_rfl) (fun _ _ hS => (hS.at_ 1 rfl).cellsAt 0 (by rfl))) <| obs_cons (ob_call Try.func14 (by kernel_rfl) rfl (fun hy _ hS => gameroomref_SameGrid_w (ite_some hr7 (by rw [show (((r3.2.2.2.2.2 == r6.2.2.2.2.2) && (r3.2.2.2.2.1 == r6.2.2.2.2.1)) && (((geti r3.2.2.2.1 0) == (geti r6.2.2.2.1 0)) && ((geti r3.2.2.2.1 1) == (geti r6.2.2.2.1 1)))) = true from hy (((r3.2.2.2.2.2 == r6.2.2.2.2.2) && (r3.2.2.2.2.1 == r6.2.2.2.2.1)) && (((geti r3.2.2.2.1 0) == (geti r6.2.2.2.1 0)) && ((geti r3.2.2.2.1 1) == (geti r6.2.2.2.1 1))), true) (by simp)]; try rfl)) hS (fun _ hS => (hS.at_ 5 rfl).rd) ((hS.at_ 5 rfl).cap1) rfl (fun _ hS => (hp3.at_ hS 2 rfl)) hc1 rfl)) <| obs_nil
      refine wpIn_ret ?_
      have hS := hS.pickN 7 [] (by decide)
      have hm : some ((((r3.2.2.2.2.2 == r6.2.2.2.2.2) && (r3.2.2.2.2.1 == r6.2.2.2.2.1)) && (((geti r3.2.2.2.1 0) == (geti r6.2.2.2.1 0)) && ((geti r3.2.2.2.1 1) == (geti r6.2.2.2.1 1)))) && r7) = some r := hm
      obtain rfl := Option.some.inj hm
      exact retV (rs := [.tmp 4]) (vs := [.bool ((((r3.2.2.2.2.2 == r6.2.2.2.2.2) && (r3.2.2.2.2.1 == r6.2.2.2.2.1)) && (((geti r3.2.2.2.1 0) == (geti r6.2.2.2.1 0)) && ((geti r3.2.2.2.1 1) == (geti r6.2.2.2.1 1)))) && r7)]) hF rfl (rv_t (by kernel_rfl) <| rv_nil) rfl ⟨rfl, hS⟩
    · refine reg [] [] [1, 2, 5, 6, 7, 8, 9, 31] [pl 1 (.slice A2 l1.length c2), pl 2 (.pointer (some ⟨g4, 0, none⟩)), pl 5 (.pointer (some ⟨g5, 0, none⟩)), pl 6 (.pointer (some ⟨g6, 0, none⟩)), pl 7 (.int .i64 r3.2.2.2.2.1), pl 8 (.int .i64 r3.2.2.2.2.2), pl 9 (.int .i64 no1), pl 31 (.bool (no1 != 0))] hF hS Fol (by kernel_rfl) (by kernel_rfl) (by kernel_rfl) ?_ (fun a w hF hS => ?_)
      · exact obs_nil
      refine cond_ev (t := 31) (b := (no1 != 0)) hF (by kernel_rfl) (fun hb => ?_) (fun hb => ?_)
      · replace hm := if_t hm hb
        obtain ⟨r5, hr5, hm⟩ := call_b hm
        obtain ⟨hp1, hm⟩ := asrt_b hm
        obtain ⟨hp2, hm⟩ := asrt_b hm
        refine reg [⟨false, [((r3.2.2.2.2.2 == no1), true)], vS (Instr.loadAt 24 (.pointer (some ⟨g5, 0, none⟩))), .agg #[.int .i64 r3.1, .int .i64 r3.2.1, .slice A5 r3.2.2.1.length c5]⟩, ⟨false, [((r3.2.2.2.2.2 == no1), true)], callFunc 12 #[.agg #[.int .i64 r3.1, .int .i64 r3.2.1, .slice A5 r3.2.2.1.length c5]], .bool r5⟩, ⟨true, [(((r3.2.2.2.2.2 == no1) && r5) && (r3.2.2.2.2.1 == 0), true)], vS (Instr.indexAt 25 (.pointer (some ⟨g6, 0, none⟩)) (.int .i64 0)), .pointer (some ((⟨g6, 0, none⟩ : Addr).add (Int.toNat 0 * 1)))⟩, ⟨false, [(((r3.2.2.2.2.2 == no1) && r5) && (r3.2.2.2.2.1 == 0), true)], vS (Instr.loadAt 3 (.pointer (some ((⟨g6, 0, none⟩ : Addr).add (Int.toNat 0 * 1))))), .int .i64 (geti r3.2.2.2.1 0)⟩, ⟨true, [((((r3.2.2.2.2.2 == no1) && r5) && (r3.2.2.2.2.1 == 0)) && ((geti r3.2.2.2.1 0) == 0), true)], vS (Instr.indexAt 25 (.pointer (some ⟨g6, 0, none⟩)) (.int .i64 1)), .pointer (some ((⟨g6, 0, none⟩ : Addr).add (Int.toNat 1 * 1)))⟩, ⟨false, [((((r3.2.2.2.2.2 == no1) && r5) && (r3.2.2.2.2.1 == 0)) && ((geti r3.2.2.2.1 0) == 0), true)], vS (Instr.loadAt 3 (.pointer (some ((⟨g6, 0, none⟩ : Addr).add (Int.toNat 1 * 1))))), .int .i64 (geti r3.2.2.2.1 1)⟩] [none, none, none, none, some (.agg #[.int .i64 r3.1, .int .i64 r3.2.1, .slice A5 r3.2.2.1.length c5]), some (.bool r5), none, none, none, none, none, none, some (.pointer (some ((⟨g6, 0, none⟩ : Addr).add (Int.toNat 0 * 1)))), some (.int .i64 (geti r3.2.2.2.1 0)), none, none, none, some (.pointer (some ((⟨g6, 0, none⟩ : Addr).add (Int.toNat 1 * 1)))), some (.int .i64 (geti r3.2.2.2.1 1)), none, none, none] [4] [pl 4 (.bool (((((r3.2.2.2.2.2 == no1) && r5) && (r3.2.2.2.2.1 == 0)) && ((geti r3.2.2.2.1 0) == 0)) && ((geti r3.2.2.2.1 1) == 0)))] hF hS Fol (by kernel_rfl) (by kernel_rfl) (by kernel_rfl) ?_ (fun a w hF hS => ?_)
        · exact obs_cons (ob_loadA (cs := #[.int .i64 r3.1, .int .i64 r3.2.1, .slice A5 r3.2.2.1.length c5]) (by kernel_rfl) (by kernel_rfl) (fun _ _ hS => (hS.at_ 1 rfl).cellsAt 0 (by rfl))) <| obs_cons (ob_call Try.func12 (by kernel_rfl) rfl (fun hy _ hS => gameroomlaw_noGrid_w (ite_some hr5 (by rw [show (r3.2.2.2.2.2 == no1) = true from hy ((r3.2.2.2.2.2 == no1), true) (by simp)]; try rfl)) hS (fun _ hS => (hS.at_ 2 rfl).rd) ((hS.at_ 2 rfl).cap1) rfl)) <| obs_cons (ob_ixA UndA25 hi3 hs3 (fun hy => hp1 (hy (((r3.2.2.2.2.2 == no1) && r5) && (r3.2.2.2.2.1 == 0), true) (by simp)))) <| obs_cons (ob_getA (m := r3.2.2.2.1) (Value.int .i64) (0 : Int) 2 ([] : List Value) ([] : List Value) 0 Agg3 rfl (fun _ hS => ⟨_, _, _, _, _, hS.at_ 3 rfl⟩) (fun hy => by have h0 := hp1 (hy (((r3.2.2.2.2.2 == no1) && r5) && (r3.2.2.2.2.1 == 0), true) (by simp)); omega)) <| obs_cons (ob_ixA UndA25 hi3 hs3 (fun hy => hp2 (hy ((((r3.2.2.2.2.2 == no1) && r5) && (r3.2.2.2.2.1 == 0)) && ((geti r3.2.2.2.1 0) == 0), true) (by simp)))) <| obs_cons (ob_getA (m := r3.2.2.2.1) (Value.int .i64) (0 : Int) 2 ([] : List Value) ([] : List Value) 1 Agg3 rfl (fun _ hS => ⟨_, _, _, _, _, hS.at_ 3 rfl⟩) (fun hy => by have h0 := hp2 (hy ((((r3.2.2.2.2.2 == no1) && r5) && (r3.2.2.2.2.1 == 0)) && ((geti r3.2.2.2.1 0) == 0), true) (by simp)); omega)) <| obs_nil
        refine wpIn_ret ?_
        refine then_r ?_
        have hS := hS.pickN 4 [] (by decide)
        have hm : some (((((r3.2.2.2.2.2 == no1) && r5) && (r3.2.2.2.2.1 == 0)) && ((geti r3.2.2.2.1 0) == 0)) && ((geti r3.2.2.2.1 1) == 0)) = some r := hm
        obtain rfl := Option.some.inj hm
        exact retV (rs := [.tmp 4]) (vs := [.bool (((((r3.2.2.2.2.2 == no1) && r5) && (r3.2.2.2.2.1 == 0)) && ((geti r3.2.2.2.1 0) == 0)) && ((geti r3.2.2.2.1 1) == 0))]) hF rfl (rv_t (by kernel_rfl) <| rv_nil) rfl ⟨rfl, hS⟩
      · replace hm := if_f hm hb
        refine wpIn_skip ?_
        refine then_n ?_
        exact ⟨hF.weak [1, 2, 5, 6, 7, 8] (by kernel_rfl), hS, hm⟩
  · obtain ⟨r4, hr4, hm⟩ := call_b hm
    refine reg [⟨false, [], vS (Instr.loadAt 24 (.pointer (some ⟨g4, 0, none⟩))), .agg #[.int .i64 g1, .int .i64 g2, .slice A1 g3.length c1]⟩, ⟨false, [], callFunc 11 #[.agg #[.int .i64 g1, .int .i64 g2, .slice A1 g3.length c1]], .bool r4⟩] [some (.agg #[.int .i64 g1, .int .i64 g2, .slice A1 g3.length c1]), some (.bool r4), none] [1, 2, 5, 6, 7, 8, 9, 26] [pl 1 (.slice A2 l1.length c2), pl 2 (.pointer (some ⟨g4, 0, none⟩)), pl 5 (.pointer (some ⟨g5, 0, none⟩)), pl 6 (.pointer (some ⟨g6, 0, none⟩)), pl 7 (.int .i64 r3.2.2.2.2.1), pl 8 (.int .i64 r3.2.2.2.2.2), pl 9 (.int .i64 0), pl 26 (.bool (!r4))] hF hS Fol (by kernel_rfl) (by kernel_rfl) (by kernel_rfl) ?_ (fun a w hF hS => ?_)
    · exact obs_cons (ob_loadA (cs := #[.int .i64 g1, .int .i64 g2, .slice A1 g3.length c1]) (by kernel_rfl) (by kernel_rfl) (fun _ _ hS => (hS.at_ 5 rfl).cellsAt 0 (by rfl))) <| obs_cons (ob_call Try.func11 (by kernel_rfl) rfl (fun _ _ hS => gameroomref_GridMay_w hr4 hS (fun _ hS => (hr_g3 _ (hS.dropN 6))) _hc_g3 rfl)) <| obs_nil
    refine cond_ev (t := 26) (b := !r4) hF (by kernel_rfl) (fun hb => ?_) (fun hb => ?_)
    · replace hm := if_t hm hb
      refine reg1 [] [] [1, 2, 5, 6, 7, 8, 9] [pl 1 (.slice A2 l1.length c2), pl 2 (.pointer (some ⟨g4, 0, none⟩)), pl 5 (.pointer (some ⟨g5, 0, none⟩)), pl 6 (.pointer (some ⟨g6, 0, none⟩)), pl 7 (.int .i64 r3.2.2.2.2.1), pl 8 (.int .i64 r3.2.2.2.2.2), pl 9 (.int .i64 12)] hF hS Fol (by kernel_rfl) (by kernel_rfl) (by kernel_rfl) ?_ (fun a w hF hS => ?_)
      · exact obs_nil
      refine then_n ?_
      have hS := hS.pickN 6 [5, 1, 2, 0] (by decide)
      exact ⟨12, hF.weak [1, 2, 5, 6, 7, 8, 9] (by kernel_rfl), hS, hm⟩
    · replace hm := if_f hm hb
      refine reg [] [] [1, 2, 5, 6, 7, 8, 9, 29] [pl 1 (.slice A2 l1.length c2), pl 2 (.pointer (some ⟨g4, 0, none⟩)), pl 5 (.pointer (some ⟨g5, 0, none⟩)), pl 6 (.pointer (some ⟨g6, 0, none⟩)), pl 7 (.int .i64 r3.2.2.2.2.1), pl 8 (.int .i64 r3.2.2.2.2.2), pl 9 (.int .i64 0), pl 29 (.bool (decide ((200 : Int) < (l1.length : Int))))] hF hS Fol (by kernel_rfl) (by kernel_rfl) (by kernel_rfl) ?_ (fun a w hF hS => ?_)
      · exact obs_nil
      refine cond_ev (t := 29) (b := decide ((200 : Int) < (l1.length : Int))) hF (by kernel_rfl) (fun hb => ?_) (fun hb => ?_)
      · replace hm := if_t hm hb
        refine reg1 [] [] [1, 2, 5, 6, 7, 8, 9] [pl 1 (.slice A2 l1.length c2), pl 2 (.pointer (some ⟨g4, 0, none⟩)), pl 5 (.pointer (some ⟨g5, 0, none⟩)), pl 6 (.pointer (some ⟨g6, 0, none⟩)), pl 7 (.int .i64 r3.2.2.2.2.1), pl 8 (.int .i64 r3.2.2.2.2.2), pl 9 (.int .i64 11)] hF hS Fol (by kernel_rfl) (by kernel_rfl) (by kernel_rfl) ?_ (fun a w hF hS => ?_)
        · exact obs_nil
        refine then_n ?_
        have hS := hS.pickN 6 [5, 1, 2, 0] (by decide)
        exact ⟨11, hF.weak [1, 2, 5, 6, 7, 8, 9] (by kernel_rfl), hS, hm⟩
      · replace hm := if_f hm hb
        refine wpIn_skip ?_
        refine then_n ?_
        have hS := hS.pickN 6 [5, 1, 2, 0] (by decide)
        exact ⟨0, hF.weak [1, 2, 5, 6, 7, 8, 9] (by kernel_rfl), hS, hm⟩

end Go.Proofs.Ytjfloofoobllaaa
