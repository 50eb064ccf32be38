/-
  Models and walks, printed by our own program (wip/gen).
-/
import Derived.Test.YtbmhcapeikebgaaFB
import Derived.Test.YtbmhcapeikebgaaLibH
import Derived.Test.YtbmhcapeikebgaaNCRa
namespace Go.Proofs.Ytbmhcapeikebgaa
open Go Go.GL Go.RowKit

noncomputable def gameroomref_RunOf_m (c1 : Int) (c2 : Int) (c3 : Int) (c4 : Int) (c5 : Int) (used1 : List Int) : Option (List Int × Int × Int × List Int × Int) :=
  (loop (gameroomref_RunOf_L1 c2 c3 c4 c5 used1) (([c1, c1] : List Int), (-1), 0, ([c1] : List Int), 0)).bind gameroomref_RunOf_K1

set_option maxRecDepth 100000 in
set_option maxHeartbeats 4000000 in
theorem gameroomref_RunOf_w {c1 : Int} {c2 : Int} {c3 : Int} {c4 : Int} {c5 : Int} {A1 : Option Addr} {c6 : Nat} {n1 : Nat} {used1 : List Int} {r : (List Int × Int × Int × List Int × Int)} {w0 w : World} {B : Nat} {fs : List HP} (hm : gameroomref_RunOf_m c1 c2 c3 c4 c5 used1 = some r) (hS : Sep w0 B w (fs)) (hr_used1 : RdF w0 B fs A1 (vI used1)) (_hc_used1 : used1.length ≤ c6) (_hn_used1 : n1 = used1.length) :
    Calls Try.prog 74 #[.agg #[.int .i64 c1, .int .i64 c2, .int .i64 c3, .int .i64 c4, .int .i64 c5], .slice A1 n1 c6] w fun e w' => ∃ v, e = .returned v ∧ ∃ (A6 : Option Addr) (c11 : Nat), v = .tuple #[.agg (List.toArray (([] : List Value) ++ (arr1 (Value.int .i64) (0 : Int) 2 r.1 ++ ([.int .i64 r.2.1, .int .i64 r.2.2.1] : List Value)))), .slice A6 r.2.2.2.1.length c11, .int .i64 r.2.2.2.2] ∧ Sep w0 B w' (own 3 (.slice A6 r.2.2.2.1.length c11) (vI r.2.2.2.1) :: fs) := by
  obtain ⟨i3, hi3, hz3, hs3, hb3⟩ := info_parts Info3
  obtain rfl := _hn_used1
  unfold gameroomref_RunOf_m at hm
  replace hm := start_b hm
  refine enter (l := [.agg #[.int .i64 c1, .int .i64 c2, .int .i64 c3, .int .i64 c4, .int .i64 c5], .slice A1 used1.length c6]) (n := 142) Try.func74 rfl rfl (by simp) (fun a hF => ?_)
  refine seqR ?_
  refine at_do (d := 2) (s := vS (Instr.box 98 (.agg #[.int .i64 c1, .int .i64 c2, .int .i64 c3, .int .i64 c4, .int .i64 c5]))) (v := .pointer (some ⟨w.heap.size, 0, none⟩)) (w' := w.alloc (.cells #[.int .i64 c1, .int .i64 c2, .int .i64 c3, .int .i64 c4, .int .i64 c5] 98)) hF (by kernel_rfl) (by kernel_rfl) (by kernel_rfl) (fun a hF => ?_)
  have hS : Sep w0 B (w.alloc (.cells #[.int .i64 c1, .int .i64 c2, .int .i64 c3, .int .i64 c4, .int .i64 c5] 98)) (blk w.heap.size 98 #[.int .i64 c1, .int .i64 c2, .int .i64 c3, .int .i64 c4, .int .i64 c5] :: (fs)) := hS.box 98 #[.int .i64 c1, .int .i64 c2, .int .i64 c3, .int .i64 c4, .int .i64 c5]
  generalize w.heap.size = g1 at hF hS
  generalize w.alloc (.cells #[.int .i64 c1, .int .i64 c2, .int .i64 c3, .int .i64 c4, .int .i64 c5] 98) = w at hS ⊢
  refine at_do (d := 4) (s := vS (Instr.alloc 101 true (.tuple #[]))) (v := .pointer (some ⟨w.heap.size, 0, none⟩)) (w' := w.alloc (.cells (List.toArray (([] : List Value) ++ (arr1 (Value.int .i64) (0 : Int) 2 (List.replicate 2 (0 : Int)) ++ ([.int .i64 0, .int .i64 0] : List Value)))) 101)) hF (by kernel_rfl) (by kernel_rfl) (by kernel_rfl) (fun a hF => ?_)
  have hS : Sep w0 B (w.alloc (.cells (List.toArray (([] : List Value) ++ (arr1 (Value.int .i64) (0 : Int) 2 (List.replicate 2 (0 : Int)) ++ ([.int .i64 0, .int .i64 0] : List Value)))) 101)) (blk w.heap.size 101 (List.toArray (([] : List Value) ++ (arr1 (Value.int .i64) (0 : Int) 2 (List.replicate 2 (0 : Int)) ++ ([.int .i64 0, .int .i64 0] : List Value)))) :: (blk g1 98 #[.int .i64 c1, .int .i64 c2, .int .i64 c3, .int .i64 c4, .int .i64 c5] :: fs)) := hS.box 101 (List.toArray (([] : List Value) ++ (arr1 (Value.int .i64) (0 : Int) 2 (List.replicate 2 (0 : Int)) ++ ([.int .i64 0, .int .i64 0] : List Value))))
  generalize w.heap.size = g2 at hF hS
  generalize w.alloc (.cells (List.toArray (([] : List Value) ++ (arr1 (Value.int .i64) (0 : Int) 2 (List.replicate 2 (0 : Int)) ++ ([.int .i64 0, .int .i64 0] : List Value)))) 101) = w at hS ⊢
  refine at_run 2 [] [] [1, 2, 4] [pl 1 (.slice A1 used1.length c6), pl 2 (.pointer (some ⟨g1, 0, none⟩)), pl 4 (.pointer (some ⟨g2, 0, none⟩))] hF hS (by kernel_rfl) (by kernel_rfl) ?_ (fun a w hF hS => ?_)
  · exact obs_nil
  refine at_end [1, 2, 4] [pl 1 (.slice A1 used1.length c6), pl 2 (.pointer (some ⟨g1, 0, none⟩)), pl 4 (.pointer (some ⟨g2, 0, none⟩))] hF rfl (by kernel_rfl) (fun hF => ?_)
  refine then_n ?_
  refine seqR ?_
  refine at_run 6 [⟨false, [], vS (Instr.loadAt 3 (.pointer (some ⟨g1, 0, none⟩))), .int .i64 c1⟩, ⟨false, [], vS (Instr.loadAt 3 (.pointer (some ⟨g1, 0, none⟩))), .int .i64 c1⟩] [none, some (.int .i64 c1), none, some (.int .i64 c1), none, none] [1, 2, 4, 18] [pl 1 (.slice A1 used1.length c6), pl 2 (.pointer (some ⟨g1, 0, none⟩)), pl 4 (.pointer (some ⟨g2, 0, none⟩)), pl 18 (.agg (List.toArray (([] : List Value) ++ (arr1 (Value.int .i64) (0 : Int) 2 ([c1, c1] : List Int) ++ ([.int .i64 (-1), .int .i64 0] : List Value)))))] hF hS (by kernel_rfl) (by kernel_rfl) ?_ (fun a w hF hS => ?_)
  · exact obs_cons (ob_load Agg3 (fun _ _ hS => (hS.at_ 1 rfl).cell rfl)) <| obs_cons (ob_load Agg3 (fun _ _ hS => (hS.at_ 1 rfl).cell rfl)) <| obs_nil
  refine at_do (d := 7) (s := vS (Instr.alloc 101 true (.tuple #[]))) (v := .pointer (some ⟨w.heap.size, 0, none⟩)) (w' := w.alloc (.cells (List.toArray (([] : List Value) ++ (arr1 (Value.int .i64) (0 : Int) 2 (List.replicate 2 (0 : Int)) ++ ([.int .i64 0, .int .i64 0] : List Value)))) 101)) hF (by kernel_rfl) (by kernel_rfl) (by kernel_rfl) (fun a hF => ?_)
  have hS : Sep w0 B (w.alloc (.cells (List.toArray (([] : List Value) ++ (arr1 (Value.int .i64) (0 : Int) 2 (List.replicate 2 (0 : Int)) ++ ([.int .i64 0, .int .i64 0] : List Value)))) 101)) (blk w.heap.size 101 (List.toArray (([] : List Value) ++ (arr1 (Value.int .i64) (0 : Int) 2 (List.replicate 2 (0 : Int)) ++ ([.int .i64 0, .int .i64 0] : List Value)))) :: (blk g2 101 (List.toArray (([] : List Value) ++ (arr1 (Value.int .i64) (0 : Int) 2 (List.replicate 2 (0 : Int)) ++ ([.int .i64 0, .int .i64 0] : List Value)))) :: blk g1 98 #[.int .i64 c1, .int .i64 c2, .int .i64 c3, .int .i64 c4, .int .i64 c5] :: fs)) := hS.box 101 (List.toArray (([] : List Value) ++ (arr1 (Value.int .i64) (0 : Int) 2 (List.replicate 2 (0 : Int)) ++ ([.int .i64 0, .int .i64 0] : List Value))))
  generalize w.heap.size = g3 at hF hS
  generalize w.alloc (.cells (List.toArray (([] : List Value) ++ (arr1 (Value.int .i64) (0 : Int) 2 (List.replicate 2 (0 : Int)) ++ ([.int .i64 0, .int .i64 0] : List Value)))) 101) = w at hS ⊢
  obtain ⟨w, hrun, hS⟩ := run_putA (P := Try.prog) (t := 101) (us := (List.toArray (([] : List Value) ++ (arr1 (Value.int .i64) (0 : Int) 2 ([c1, c1] : List Int) ++ ([.int .i64 (-1), .int .i64 0] : List Value))))) (o := 0) (hS.at_ 0 rfl) (by kernel_rfl) (all_one (by kernel_rfl)) (Nat.le_of_ble_eq_true (by kernel_rfl))
  refine at_skip hF (by kernel_rfl) hrun ?_
  have hS : Sep w0 B w (blk g3 101 (List.toArray (([] : List Value) ++ (arr1 (Value.int .i64) (0 : Int) 2 ([c1, c1] : List Int) ++ ([.int .i64 (-1), .int .i64 0] : List Value)))) :: blk g2 101 (List.toArray (([] : List Value) ++ (arr1 (Value.int .i64) (0 : Int) 2 (List.replicate 2 (0 : Int)) ++ ([.int .i64 0, .int .i64 0] : List Value)))) :: blk g1 98 #[.int .i64 c1, .int .i64 c2, .int .i64 c3, .int .i64 c4, .int .i64 c5] :: fs) := hS
  refine at_end [1, 2, 4, 7] [pl 1 (.slice A1 used1.length c6), pl 2 (.pointer (some ⟨g1, 0, none⟩)), pl 4 (.pointer (some ⟨g2, 0, none⟩)), pl 7 (.pointer (some ⟨g3, 0, none⟩))] hF rfl (by kernel_rfl) (fun hF => ?_)
  refine then_n ?_
  refine seqR ?_
  refine at_run 2 [⟨false, [], vS (Instr.loadAt 3 (.pointer (some ⟨g1, 0, none⟩))), .int .i64 c1⟩] [none, some (.int .i64 c1)] [1, 2, 4, 7, 20] [pl 1 (.slice A1 used1.length c6), pl 2 (.pointer (some ⟨g1, 0, none⟩)), pl 4 (.pointer (some ⟨g2, 0, none⟩)), pl 7 (.pointer (some ⟨g3, 0, none⟩)), pl 20 (.int .i64 c1)] hF hS (by kernel_rfl) (by kernel_rfl) ?_ (fun a w hF hS => ?_)
  · exact obs_cons (ob_load Agg3 (fun _ _ hS => (hS.at_ 2 rfl).cell rfl)) <| obs_nil
  refine at_do (d := 21) (s := vS (Instr.buildSlice 40 1 #[(0, .int .i64 c1)])) (v := .slice (some ⟨w.heap.size, 0, none⟩) 1 1) (w' := w.alloc (.cells #[.int .i64 c1] 3)) hF (by kernel_rfl) (by kernel_rfl) (by kernel_rfl) (fun a hF => ?_)
  have hS : Sep w0 B (w.alloc (.cells #[.int .i64 c1] 3)) (own 3 (.slice (some (⟨w.heap.size, 0, none⟩ : Addr)) 1 1) (vI ([c1] : List Int)) :: (blk g3 101 (List.toArray (([] : List Value) ++ (arr1 (Value.int .i64) (0 : Int) 2 ([c1, c1] : List Int) ++ ([.int .i64 (-1), .int .i64 0] : List Value)))) :: blk g2 101 (List.toArray (([] : List Value) ++ (arr1 (Value.int .i64) (0 : Int) 2 (List.replicate 2 (0 : Int)) ++ ([.int .i64 0, .int .i64 0] : List Value)))) :: blk g1 98 #[.int .i64 c1, .int .i64 c2, .int .i64 c3, .int .i64 c4, .int .i64 c5] :: fs)) := hS.lit 3 #[.int .i64 c1] 1 rfl (by omega)
  generalize (some (⟨w.heap.size, 0, none⟩ : Addr)) = g4 at hF hS
  generalize w.alloc (.cells #[.int .i64 c1] 3) = w at hS ⊢
  refine at_run 1 [] [] [1, 2, 4, 7, 8] [pl 1 (.slice A1 used1.length c6), pl 2 (.pointer (some ⟨g1, 0, none⟩)), pl 4 (.pointer (some ⟨g2, 0, none⟩)), pl 7 (.pointer (some ⟨g3, 0, none⟩)), pl 8 (.slice g4 1 1)] hF hS (by kernel_rfl) (by kernel_rfl) ?_ (fun a w hF hS => ?_)
  · exact obs_nil
  refine at_end [1, 2, 4, 7, 8] [pl 1 (.slice A1 used1.length c6), pl 2 (.pointer (some ⟨g1, 0, none⟩)), pl 4 (.pointer (some ⟨g2, 0, none⟩)), pl 7 (.pointer (some ⟨g3, 0, none⟩)), pl 8 (.slice g4 1 1)] hF rfl (by kernel_rfl) (fun hF => ?_)
  refine then_n ?_
  refine seq_cut (fun a w => ∃ (x4 : List Int) (x5 : Int) (x6 : Int) (left2 : List Int) (A3 : Option Addr) (c8 : Nat), Fr 142 [pl 4 (.pointer (some ⟨g2, 0, none⟩)), pl 7 (.pointer (some ⟨g3, 0, none⟩)), pl 8 (.slice A3 left2.length c8)] a ∧ Sep w0 B w (blk g2 101 (List.toArray (([] : List Value) ++ (arr1 (Value.int .i64) (0 : Int) 2 (List.replicate 2 (0 : Int)) ++ ([.int .i64 0, .int .i64 0] : List Value)))) :: blk g3 101 (List.toArray (([] : List Value) ++ (arr1 (Value.int .i64) (0 : Int) 2 x4 ++ ([.int .i64 x5, .int .i64 x6] : List Value)))) :: own 3 (.slice A3 left2.length c8) (vI left2) :: fs) ∧ (gameroomref_RunOf_J1 x4 x5 x6 left2).bind some = some r) ?_ ?_
  · rintro a w ⟨x4, x5, x6, left2, A3, c8, hF, hS, hm⟩
    unfold gameroomref_RunOf_J1 at hm
    refine seqR ?_
    refine at_run 2 [⟨false, [], vS (Instr.loadAt 101 (.pointer (some ⟨g3, 0, none⟩))), .agg (List.toArray (([] : List Value) ++ (arr1 (Value.int .i64) (0 : Int) 2 x4 ++ ([.int .i64 x5, .int .i64 x6] : List Value))))⟩] [some (.agg (List.toArray (([] : List Value) ++ (arr1 (Value.int .i64) (0 : Int) 2 x4 ++ ([.int .i64 x5, .int .i64 x6] : List Value))))), none] [4, 140, 141] [pl 4 (.pointer (some ⟨g2, 0, none⟩)), pl 140 (.agg (List.toArray (([] : List Value) ++ (arr1 (Value.int .i64) (0 : Int) 2 x4 ++ ([.int .i64 x5, .int .i64 x6] : List Value))))), pl 141 (.slice A3 left2.length c8)] hF hS (by kernel_rfl) (by kernel_rfl) ?_ (fun a w hF hS => ?_)
    · exact obs_cons (ob_loadA (cs := (List.toArray (([] : List Value) ++ (arr1 (Value.int .i64) (0 : Int) 2 x4 ++ ([.int .i64 x5, .int .i64 x6] : List Value))))) (by kernel_rfl) (by kernel_rfl) (fun _ _ hS => (hS.at_ 1 rfl).cellsAt 0 (by rfl))) <| obs_nil
    obtain ⟨w, hrun, hS⟩ := run_putA (P := Try.prog) (t := 101) (us := (List.toArray (([] : List Value) ++ (arr1 (Value.int .i64) (0 : Int) 2 x4 ++ ([.int .i64 x5, .int .i64 x6] : List Value))))) (o := 0) (hS.at_ 0 rfl) (by kernel_rfl) (all_one (by kernel_rfl)) (Nat.le_of_ble_eq_true (by kernel_rfl))
    refine at_skip hF (by kernel_rfl) hrun ?_
    have hS : Sep w0 B w (blk g2 101 (List.toArray (([] : List Value) ++ (arr1 (Value.int .i64) (0 : Int) 2 x4 ++ ([.int .i64 x5, .int .i64 x6] : List Value)))) :: blk g3 101 (List.toArray (([] : List Value) ++ (arr1 (Value.int .i64) (0 : Int) 2 x4 ++ ([.int .i64 x5, .int .i64 x6] : List Value)))) :: own 3 (.slice A3 left2.length c8) (vI left2) :: fs) := hS
    refine at_run 2 [] [] [4, 5, 6] [pl 4 (.pointer (some ⟨g2, 0, none⟩)), pl 5 (.slice A3 left2.length c8), pl 6 (.int .i64 0)] hF hS (by kernel_rfl) (by kernel_rfl) ?_ (fun a w hF hS => ?_)
    · exact obs_nil
    refine at_end [4, 5, 6] [pl 4 (.pointer (some ⟨g2, 0, none⟩)), pl 5 (.slice A3 left2.length c8), pl 6 (.int .i64 0)] hF rfl (by kernel_rfl) (fun hF => ?_)
    refine then_n ?_
    refine wp_ret ?_
    have hld0 := run_loadVarA (P := Try.prog) (t := 101) (cs := (List.toArray (([] : List Value) ++ (arr1 (Value.int .i64) (0 : Int) 2 x4 ++ ([.int .i64 x5, .int .i64 x6] : List Value))))) (by kernel_rfl) (by kernel_rfl) ((hS.at_ 0 rfl).cellsAt 0 (by rfl))
    have hS := hS.pickN 3 [2] (by decide)
    have hm : some (x4, x5, x6, left2, 0) = some r := hm
    obtain rfl := Option.some.inj hm
    exact retV (rs := [.cell 4 101, .tmp 5, .tmp 6]) (vs := [.agg (List.toArray (([] : List Value) ++ (arr1 (Value.int .i64) (0 : Int) 2 x4 ++ ([.int .i64 x5, .int .i64 x6] : List Value)))), .slice A3 left2.length c8, .int .i64 0]) hF rfl (rv_c (by kernel_rfl) hld0 <| rv_t (by kernel_rfl) <| rv_t (by kernel_rfl) <| rv_nil) rfl ⟨_, rfl, A3, c8, rfl, hS⟩
  · refine reg [] [] [1, 2, 4, 7, 8, 9] [pl 1 (.slice A1 used1.length c6), pl 2 (.pointer (some ⟨g1, 0, none⟩)), pl 4 (.pointer (some ⟨g2, 0, none⟩)), pl 7 (.pointer (some ⟨g3, 0, none⟩)), pl 8 (.slice g4 1 1), pl 9 (.int .i64 0)] hF hS Fol (by kernel_rfl) (by kernel_rfl) (by kernel_rfl) ?_ (fun a w hF hS => ?_)
    · exact obs_nil
    refine wp_block ?_
    have hl1 := (hS.at_ 0 rfl).len1
    have hS := (hS.at_ 0 rfl).reN hl1
    have hS : Sep w0 B w (own 3 (.slice g4 (([c1] : List Int).length) 1) (vI ([c1] : List Int)) :: blk g3 101 (List.toArray (([] : List Value) ++ (arr1 (Value.int .i64) (0 : Int) 2 ([c1, c1] : List Int) ++ ([.int .i64 (-1), .int .i64 0] : List Value)))) :: blk g2 101 (List.toArray (([] : List Value) ++ (arr1 (Value.int .i64) (0 : Int) 2 (List.replicate 2 (0 : Int)) ++ ([.int .i64 0, .int .i64 0] : List Value)))) :: blk g1 98 #[.int .i64 c1, .int .i64 c2, .int .i64 c3, .int .i64 c4, .int .i64 c5] :: fs) := hS
    have hF := hF.cast (t := 8) (v := .slice g4 1 1) (v' := .slice g4 (([c1] : List Int).length) 1) rfl rfl (congrArg (fun k => Value.slice g4 k 1) hl1)
    have hS := hS.pickN 4 [3, 2, 1, 0] (by decide)
    refine wp_loop_model (S := (List Int × Int × Int × List Int × Int)) (R := (Fl (List Int × Int × Int × List Int) (List Int × Int × Int × List Int × Int))) (gameroomref_RunOf_L1 c2 c3 c4 c5 used1) (fun x => (gameroomref_RunOf_K1 x).bind some) r (fun (x : (List Int × Int × Int × List Int × Int)) a w => ∃ (A2 : Option Addr) (c7 : Nat), Fr 142 [pl 1 (.slice A1 used1.length c6), pl 2 (.pointer (some ⟨g1, 0, none⟩)), pl 4 (.pointer (some ⟨g2, 0, none⟩)), pl 7 (.pointer (some ⟨g3, 0, none⟩)), pl 8 (.slice A2 x.2.2.2.1.length c7), pl 9 (.int .i64 x.2.2.2.2)] a ∧ Sep w0 B w (blk g1 98 #[.int .i64 c1, .int .i64 c2, .int .i64 c3, .int .i64 c4, .int .i64 c5] :: blk g2 101 (List.toArray (([] : List Value) ++ (arr1 (Value.int .i64) (0 : Int) 2 (List.replicate 2 (0 : Int)) ++ ([.int .i64 0, .int .i64 0] : List Value)))) :: blk g3 101 (List.toArray (([] : List Value) ++ (arr1 (Value.int .i64) (0 : Int) 2 x.1 ++ ([.int .i64 x.2.1, .int .i64 x.2.2.1] : List Value)))) :: own 3 (.slice A2 x.2.2.2.1.length c7) (vI x.2.2.2.1) :: fs)) (assoc_b hm) ⟨g4, 1, hF.weak [1, 2, 4, 7, 8, 9] (by kernel_rfl), hS⟩ ?_
    clear hF hS hm
    rintro nn1 ⟨x1, x2, x3, left1, i1⟩ a w ⟨A2, c7, hF, hS⟩ hm
    generalize hφ1 : stK (gameroomref_RunOf_L1 c2 c3 c4 c5 used1) nn1 (fun x => (gameroomref_RunOf_K1 x).bind some) = φ1 at hm
    unfold gameroomref_RunOf_L1 at hm
    dsimp only at hF hS hm
    refine seq_cut (fun a w => Fr 142 [pl 1 (.slice A1 used1.length c6), pl 2 (.pointer (some ⟨g1, 0, none⟩)), pl 4 (.pointer (some ⟨g2, 0, none⟩)), pl 7 (.pointer (some ⟨g3, 0, none⟩)), pl 8 (.slice A2 left1.length c7), pl 9 (.int .i64 i1)] a ∧ Sep w0 B w (blk g1 98 #[.int .i64 c1, .int .i64 c2, .int .i64 c3, .int .i64 c4, .int .i64 c5] :: blk g2 101 (List.toArray (([] : List Value) ++ (arr1 (Value.int .i64) (0 : Int) 2 (List.replicate 2 (0 : Int)) ++ ([.int .i64 0, .int .i64 0] : List Value)))) :: blk g3 101 (List.toArray (([] : List Value) ++ (arr1 (Value.int .i64) (0 : Int) 2 x1 ++ ([.int .i64 x2, .int .i64 x3] : List Value)))) :: own 3 (.slice A2 left1.length c7) (vI left1) :: fs) ∧ ((gameroomref_RunOf_J2 c2 c3 c4 c5 used1 x1 x2 x3 left1 i1)).bind φ1 = some r) ?_ ?_
    · rintro a w ⟨hF, hS, hm⟩
      unfold gameroomref_RunOf_J2 at hm
      refine seq_cut (fun a w => ∃ (x7 : List Int) (x8 : Int) (x9 : Int) (left3 : List Int) (A4 : Option Addr) (c9 : Nat), Fr 142 [pl 1 (.slice A1 used1.length c6), pl 2 (.pointer (some ⟨g1, 0, none⟩)), pl 4 (.pointer (some ⟨g2, 0, none⟩)), pl 7 (.pointer (some ⟨g3, 0, none⟩)), pl 8 (.slice A4 left3.length c9), pl 9 (.int .i64 i1)] a ∧ Sep w0 B w (blk g1 98 #[.int .i64 c1, .int .i64 c2, .int .i64 c3, .int .i64 c4, .int .i64 c5] :: blk g2 101 (List.toArray (([] : List Value) ++ (arr1 (Value.int .i64) (0 : Int) 2 (List.replicate 2 (0 : Int)) ++ ([.int .i64 0, .int .i64 0] : List Value)))) :: blk g3 101 (List.toArray (([] : List Value) ++ (arr1 (Value.int .i64) (0 : Int) 2 x7 ++ ([.int .i64 x8, .int .i64 x9] : List Value)))) :: own 3 (.slice A4 left3.length c9) (vI left3) :: fs) ∧ ((gameroomref_RunOf_J3 i1) x7 x8 x9 left3).bind φ1 = some r) ?_ ?_
      · rintro a w ⟨x7, x8, x9, left3, A4, c9, hF, hS, hm⟩
        unfold gameroomref_RunOf_J3 at hm
        refine reg1 [] [] [1, 2, 4, 7, 8, 9] [pl 1 (.slice A1 used1.length c6), pl 2 (.pointer (some ⟨g1, 0, none⟩)), pl 4 (.pointer (some ⟨g2, 0, none⟩)), pl 7 (.pointer (some ⟨g3, 0, none⟩)), pl 8 (.slice A4 left3.length c9), pl 9 (.int .i64 (w64 (i1 + 1)))] hF hS Fol (by kernel_rfl) (by kernel_rfl) (by kernel_rfl) ?_ (fun a w hF hS => ?_)
        · exact obs_nil
        refine then_n ?_
        rw [← hφ1] at hm
        exact ⟨(x7, x8, x9, left3, (w64 (i1 + 1))), ⟨A4, c9, hF.weak [1, 2, 4, 7, 8, 9] (by kernel_rfl), hS⟩, hm⟩
      · refine wp_block ?_
        refine seq_cut (fun a w => Fr 142 [pl 1 (.slice A1 used1.length c6), pl 2 (.pointer (some ⟨g1, 0, none⟩)), pl 4 (.pointer (some ⟨g2, 0, none⟩)), pl 7 (.pointer (some ⟨g3, 0, none⟩)), pl 8 (.slice A2 left1.length c7), pl 9 (.int .i64 i1)] a ∧ Sep w0 B w (blk g1 98 #[.int .i64 c1, .int .i64 c2, .int .i64 c3, .int .i64 c4, .int .i64 c5] :: blk g2 101 (List.toArray (([] : List Value) ++ (arr1 (Value.int .i64) (0 : Int) 2 (List.replicate 2 (0 : Int)) ++ ([.int .i64 0, .int .i64 0] : List Value)))) :: blk g3 101 (List.toArray (([] : List Value) ++ (arr1 (Value.int .i64) (0 : Int) 2 x1 ++ ([.int .i64 x2, .int .i64 x3] : List Value)))) :: own 3 (.slice A2 left1.length c7) (vI left1) :: fs) ∧ ((gameroomref_RunOf_J4 c2 c3 c4 c5 used1 x1 x2 x3 left1 i1)).bind φ1 = some r) ?_ ?_
        · rintro a w ⟨hF, hS, hm⟩
          unfold gameroomref_RunOf_J4 at hm
          refine reg [] [] [1, 2, 4, 7, 8, 9, 10] [pl 1 (.slice A1 used1.length c6), pl 2 (.pointer (some ⟨g1, 0, none⟩)), pl 4 (.pointer (some ⟨g2, 0, none⟩)), pl 7 (.pointer (some ⟨g3, 0, none⟩)), pl 8 (.slice A2 left1.length c7), pl 9 (.int .i64 i1), pl 10 (.int .i64 (Int.tmod i1 2))] hF hS Fol (by kernel_rfl) (by kernel_rfl) (by kernel_rfl) ?_ (fun a w hF hS => ?_)
          · exact obs_nil
          obtain ⟨hp1, hm⟩ := asrt_b hm
          refine reg [⟨true, [], vS (Instr.indexAt 40 (.slice A1 used1.length c6) (.int .i64 i1)), .pointer (some (sAddr A1 i1))⟩, ⟨false, [], vS (Instr.loadAt 3 (.pointer (some (sAddr A1 i1)))), .int .i64 (geti used1 i1)⟩] [none, none, some (.pointer (some (sAddr A1 i1))), some (.int .i64 (geti used1 i1)), none] [1, 2, 4, 7, 8, 9, 10, 11] [pl 1 (.slice A1 used1.length c6), pl 2 (.pointer (some ⟨g1, 0, none⟩)), pl 4 (.pointer (some ⟨g2, 0, none⟩)), pl 7 (.pointer (some ⟨g3, 0, none⟩)), pl 8 (.slice A2 left1.length c7), pl 9 (.int .i64 i1), pl 10 (.int .i64 (Int.tmod i1 2)), pl 11 (.int .i64 (geti used1 i1))] hF hS Fol (by kernel_rfl) (by kernel_rfl) (by kernel_rfl) ?_ (fun a w hF hS => ?_)
          · exact obs_cons (ob_ix1 (f := (Value.int .i64)) (m := used1) Und40 hi3 hs3 (hr_used1 _ (hS.dropN 4)) rfl (fun _ => hp1)) <| obs_cons (ob_get1 (n := used1.length) (m := used1) (Value.int .i64) (0 : Int) Agg3 (fun _ hS => ⟨_, (hr_used1 _ (hS.dropN 4))⟩) (fun _ hS => rfl) (fun _ => hp1)) <| obs_nil
          refine seq_cut (fun a w => ∃ (taken1 : Int), Fr 142 [pl 1 (.slice A1 used1.length c6), pl 2 (.pointer (some ⟨g1, 0, none⟩)), pl 4 (.pointer (some ⟨g2, 0, none⟩)), pl 7 (.pointer (some ⟨g3, 0, none⟩)), pl 8 (.slice A2 left1.length c7), pl 9 (.int .i64 i1), pl 10 (.int .i64 (Int.tmod i1 2)), pl 11 (.int .i64 taken1)] a ∧ Sep w0 B w (blk g1 98 #[.int .i64 c1, .int .i64 c2, .int .i64 c3, .int .i64 c4, .int .i64 c5] :: blk g2 101 (List.toArray (([] : List Value) ++ (arr1 (Value.int .i64) (0 : Int) 2 (List.replicate 2 (0 : Int)) ++ ([.int .i64 0, .int .i64 0] : List Value)))) :: blk g3 101 (List.toArray (([] : List Value) ++ (arr1 (Value.int .i64) (0 : Int) 2 x1 ++ ([.int .i64 x2, .int .i64 x3] : List Value)))) :: own 3 (.slice A2 left1.length c7) (vI left1) :: fs) ∧ ((gameroomref_RunOf_J5 c2 c3 c4 c5 used1 x1 x2 x3 left1 i1) taken1).bind φ1 = some r) ?_ ?_
          · rintro a w ⟨taken1, hF, hS, hm⟩
            unfold gameroomref_RunOf_J5 at hm
            refine seq_cut (fun a w => Fr 142 [pl 1 (.slice A1 used1.length c6), pl 2 (.pointer (some ⟨g1, 0, none⟩)), pl 4 (.pointer (some ⟨g2, 0, none⟩)), pl 7 (.pointer (some ⟨g3, 0, none⟩)), pl 8 (.slice A2 left1.length c7), pl 9 (.int .i64 i1), pl 10 (.int .i64 (Int.tmod i1 2)), pl 11 (.int .i64 taken1)] a ∧ Sep w0 B w (blk g1 98 #[.int .i64 c1, .int .i64 c2, .int .i64 c3, .int .i64 c4, .int .i64 c5] :: blk g2 101 (List.toArray (([] : List Value) ++ (arr1 (Value.int .i64) (0 : Int) 2 (List.replicate 2 (0 : Int)) ++ ([.int .i64 0, .int .i64 0] : List Value)))) :: blk g3 101 (List.toArray (([] : List Value) ++ (arr1 (Value.int .i64) (0 : Int) 2 x1 ++ ([.int .i64 x2, .int .i64 x3] : List Value)))) :: own 3 (.slice A2 left1.length c7) (vI left1) :: fs) ∧ ((gameroomref_RunOf_J6 c2 c3 c4 c5 used1 x1 x2 x3 left1 i1 taken1)).bind φ1 = some r) ?_ ?_
            · rintro a w ⟨hF, hS, hm⟩
              unfold gameroomref_RunOf_J6 at hm
              refine seqR ?_
              obtain ⟨hp5, hm⟩ := asrt_b hm
              obtain ⟨hp6, hm⟩ := asrt_b hm
              obtain ⟨hp7, hm⟩ := asrt_b hm
              refine at_run 8 [⟨true, [], vS (Instr.indexAt 99 (.pointer (some ⟨g3, 0, none⟩)) (.int .i64 (Int.tmod i1 2))), .pointer (some ((⟨g3, 0, none⟩ : Addr).add (Int.toNat (Int.tmod i1 2) * 1)))⟩, ⟨false, [], vS (Instr.loadAt 3 (.pointer (some ((⟨g3, 0, none⟩ : Addr).add (Int.toNat (Int.tmod i1 2) * 1))))), .int .i64 (geti x1 (Int.tmod i1 2))⟩, ⟨true, [], vS (Instr.indexAt 99 (.pointer (some ⟨g3, 0, none⟩)) (.int .i64 (Int.tmod i1 2))), .pointer (some ((⟨g3, 0, none⟩ : Addr).add (Int.toNat (Int.tmod i1 2) * 1)))⟩] [none, none, some (.pointer (some ((⟨g3, 0, none⟩ : Addr).add (Int.toNat (Int.tmod i1 2) * 1)))), some (.int .i64 (geti x1 (Int.tmod i1 2))), none, none, none, some (.pointer (some ((⟨g3, 0, none⟩ : Addr).add (Int.toNat (Int.tmod i1 2) * 1))))] [1, 2, 4, 7, 8, 9, 10, 63, 65] [pl 1 (.slice A1 used1.length c6), pl 2 (.pointer (some ⟨g1, 0, none⟩)), pl 4 (.pointer (some ⟨g2, 0, none⟩)), pl 7 (.pointer (some ⟨g3, 0, none⟩)), pl 8 (.slice A2 left1.length c7), pl 9 (.int .i64 i1), pl 10 (.int .i64 (Int.tmod i1 2)), pl 63 (.int .i64 (w64 ((geti x1 (Int.tmod i1 2)) - taken1))), pl 65 (.pointer (some ((⟨g3, 0, none⟩ : Addr).add (Int.toNat (Int.tmod i1 2) * 1))))] hF hS (by kernel_rfl) (by kernel_rfl) ?_ (fun a w hF hS => ?_)
              · exact obs_cons (ob_ixA UndA99 hi3 hs3 (fun _ => hp5)) <| obs_cons (ob_getA (m := x1) (Value.int .i64) (0 : Int) 2 ([] : List Value) ([.int .i64 x2, .int .i64 x3] : List Value) (Int.tmod i1 2) Agg3 rfl (fun _ hS => ⟨_, _, _, _, _, hS.at_ 2 rfl⟩) (fun hy => by have h0 := hp5; omega)) <| obs_cons (ob_ixA UndA99 hi3 hs3 (fun _ => hp6)) <| obs_nil
              obtain ⟨w, hrun, hS⟩ := run_setA (P := Try.prog) (t := 3) (x := (w64 ((geti x1 (Int.tmod i1 2)) - taken1))) (i := (Int.tmod i1 2)) (m := x1) (d := Int.toNat (Int.tmod i1 2) * 1) (Value.int .i64) (0 : Int) 2 ([] : List Value) ([.int .i64 x2, .int .i64 x3] : List Value) (hS.at_ 2 rfl) rfl hi3 hs3 rfl (by have h0 := hp6; omega) (by have h0 := hp6; have h9 := hp7; omega)
              refine at_skip hF (by kernel_rfl) hrun ?_
              have hS : Sep w0 B w (blk g1 98 #[.int .i64 c1, .int .i64 c2, .int .i64 c3, .int .i64 c4, .int .i64 c5] :: blk g2 101 (List.toArray (([] : List Value) ++ (arr1 (Value.int .i64) (0 : Int) 2 (List.replicate 2 (0 : Int)) ++ ([.int .i64 0, .int .i64 0] : List Value)))) :: blk g3 101 (List.toArray (([] : List Value) ++ (arr1 (Value.int .i64) (0 : Int) 2 (x1.set (Int.toNat (Int.tmod i1 2)) (w64 ((geti x1 (Int.tmod i1 2)) - taken1))) ++ ([.int .i64 x2, .int .i64 x3] : List Value)))) :: own 3 (.slice A2 left1.length c7) (vI left1) :: fs) := hS
              refine at_end [1, 2, 4, 7, 8, 9, 10] [pl 1 (.slice A1 used1.length c6), pl 2 (.pointer (some ⟨g1, 0, none⟩)), pl 4 (.pointer (some ⟨g2, 0, none⟩)), pl 7 (.pointer (some ⟨g3, 0, none⟩)), pl 8 (.slice A2 left1.length c7), pl 9 (.int .i64 i1), pl 10 (.int .i64 (Int.tmod i1 2))] hF rfl (by kernel_rfl) (fun hF => ?_)
              refine then_n ?_
              refine seq_cut (fun a w => ∃ (x10 : List Int), Fr 142 [pl 1 (.slice A1 used1.length c6), pl 2 (.pointer (some ⟨g1, 0, none⟩)), pl 4 (.pointer (some ⟨g2, 0, none⟩)), pl 7 (.pointer (some ⟨g3, 0, none⟩)), pl 8 (.slice A2 left1.length c7), pl 9 (.int .i64 i1), pl 10 (.int .i64 (Int.tmod i1 2))] a ∧ Sep w0 B w (blk g1 98 #[.int .i64 c1, .int .i64 c2, .int .i64 c3, .int .i64 c4, .int .i64 c5] :: blk g2 101 (List.toArray (([] : List Value) ++ (arr1 (Value.int .i64) (0 : Int) 2 (List.replicate 2 (0 : Int)) ++ ([.int .i64 0, .int .i64 0] : List Value)))) :: blk g3 101 (List.toArray (([] : List Value) ++ (arr1 (Value.int .i64) (0 : Int) 2 x10 ++ ([.int .i64 x2, .int .i64 x3] : List Value)))) :: own 3 (.slice A2 left1.length c7) (vI left1) :: fs) ∧ ((gameroomref_RunOf_J7 c4 c5 x2 x3 left1 i1) x10).bind φ1 = some r) ?_ ?_
              · rintro a w ⟨x10, hF, hS, hm⟩
                unfold gameroomref_RunOf_J7 at hm
                refine seqR ?_
                refine at_run 4 [⟨false, [], vS (Instr.loadAt 3 (.pointer (some ⟨g3, 3, none⟩))), .int .i64 x3⟩] [none, some (.int .i64 x3), none, none] [1, 2, 4, 7, 8, 9, 10, 108, 109] [pl 1 (.slice A1 used1.length c6), pl 2 (.pointer (some ⟨g1, 0, none⟩)), pl 4 (.pointer (some ⟨g2, 0, none⟩)), pl 7 (.pointer (some ⟨g3, 0, none⟩)), pl 8 (.slice A2 left1.length c7), pl 9 (.int .i64 i1), pl 10 (.int .i64 (Int.tmod i1 2)), pl 108 (.int .i64 (w64 (x3 + 1))), pl 109 (.pointer (some ⟨g3, 3, none⟩))] hF hS (by kernel_rfl) (by kernel_rfl) ?_ (fun a w hF hS => ?_)
                · exact obs_cons (ob_load Agg3 (fun _ _ hS => (hS.at_ 2 rfl).cell rfl)) <| obs_nil
                obtain ⟨w, hrun, hS⟩ := run_put (P := Try.prog) (t := 3) (u := .int .i64 (w64 (x3 + 1))) (i := 3) (hS.at_ 2 rfl) hi3 hs3 rfl (Nat.lt_of_lt_of_eq (Nat.lt_of_succ_le (Nat.le_of_ble_eq_true (by kernel_rfl))) rfl)
                refine at_skip hF (by kernel_rfl) hrun ?_
                have hS : Sep w0 B w (blk g1 98 #[.int .i64 c1, .int .i64 c2, .int .i64 c3, .int .i64 c4, .int .i64 c5] :: blk g2 101 (List.toArray (([] : List Value) ++ (arr1 (Value.int .i64) (0 : Int) 2 (List.replicate 2 (0 : Int)) ++ ([.int .i64 0, .int .i64 0] : List Value)))) :: blk g3 101 (List.toArray (([] : List Value) ++ (arr1 (Value.int .i64) (0 : Int) 2 x10 ++ ([.int .i64 x2, .int .i64 (w64 (x3 + 1))] : List Value)))) :: own 3 (.slice A2 left1.length c7) (vI left1) :: fs) := hS
                refine at_end [1, 2, 4, 7, 8, 9, 10] [pl 1 (.slice A1 used1.length c6), pl 2 (.pointer (some ⟨g1, 0, none⟩)), pl 4 (.pointer (some ⟨g2, 0, none⟩)), pl 7 (.pointer (some ⟨g3, 0, none⟩)), pl 8 (.slice A2 left1.length c7), pl 9 (.int .i64 i1), pl 10 (.int .i64 (Int.tmod i1 2))] hF rfl (by kernel_rfl) (fun hF => ?_)
                refine then_n ?_
                refine reg [] [] [1, 2, 4, 7, 8, 9, 10, 12] [pl 1 (.slice A1 used1.length c6), pl 2 (.pointer (some ⟨g1, 0, none⟩)), pl 4 (.pointer (some ⟨g2, 0, none⟩)), pl 7 (.pointer (some ⟨g3, 0, none⟩)), pl 8 (.slice A2 left1.length c7), pl 9 (.int .i64 i1), pl 10 (.int .i64 (Int.tmod i1 2)), pl 12 (.int .i64 (w64 ((w64 (Int.tdiv i1 2)) + 1)))] hF hS Fol (by kernel_rfl) (by kernel_rfl) (by kernel_rfl) ?_ (fun a w hF hS => ?_)
                · exact obs_nil
                refine seq_cut (fun a w => ∃ (x11 : List Int), Fr 142 [pl 1 (.slice A1 used1.length c6), pl 2 (.pointer (some ⟨g1, 0, none⟩)), pl 4 (.pointer (some ⟨g2, 0, none⟩)), pl 7 (.pointer (some ⟨g3, 0, none⟩)), pl 8 (.slice A2 left1.length c7), pl 9 (.int .i64 i1), pl 10 (.int .i64 (Int.tmod i1 2))] a ∧ Sep w0 B w (blk g1 98 #[.int .i64 c1, .int .i64 c2, .int .i64 c3, .int .i64 c4, .int .i64 c5] :: blk g2 101 (List.toArray (([] : List Value) ++ (arr1 (Value.int .i64) (0 : Int) 2 (List.replicate 2 (0 : Int)) ++ ([.int .i64 0, .int .i64 0] : List Value)))) :: blk g3 101 (List.toArray (([] : List Value) ++ (arr1 (Value.int .i64) (0 : Int) 2 x11 ++ ([.int .i64 x2, .int .i64 (w64 (x3 + 1))] : List Value)))) :: own 3 (.slice A2 left1.length c7) (vI left1) :: fs) ∧ ((gameroomref_RunOf_J8 x2 x3 left1 i1) x11).bind φ1 = some r) ?_ ?_
                · rintro a w ⟨x11, hF, hS, hm⟩
                  unfold gameroomref_RunOf_J8 at hm
                  refine oneR ?_
                  obtain ⟨hp20, hm⟩ := asrt_b hm
                  obtain ⟨hp21, hm⟩ := asrt_b hm
                  refine at_run 6 [⟨true, [], vS (Instr.indexAt 99 (.pointer (some ⟨g3, 0, none⟩)) (.int .i64 (w64 (1 - (Int.tmod i1 2))))), .pointer (some ((⟨g3, 0, none⟩ : Addr).add (Int.toNat (w64 (1 - (Int.tmod i1 2))) * 1)))⟩, ⟨false, [], vS (Instr.loadAt 3 (.pointer (some ((⟨g3, 0, none⟩ : Addr).add (Int.toNat (w64 (1 - (Int.tmod i1 2))) * 1))))), .int .i64 (geti x11 (w64 (1 - (Int.tmod i1 2))))⟩] [none, none, none, none, some (.pointer (some ((⟨g3, 0, none⟩ : Addr).add (Int.toNat (w64 (1 - (Int.tmod i1 2))) * 1)))), some (.int .i64 (geti x11 (w64 (1 - (Int.tmod i1 2)))))] [1, 2, 4, 7, 9, 132, 137] [pl 1 (.slice A1 used1.length c6), pl 2 (.pointer (some ⟨g1, 0, none⟩)), pl 4 (.pointer (some ⟨g2, 0, none⟩)), pl 7 (.pointer (some ⟨g3, 0, none⟩)), pl 9 (.int .i64 i1), pl 132 (.slice A2 left1.length c7), pl 137 (.int .i64 (geti x11 (w64 (1 - (Int.tmod i1 2)))))] hF hS (by kernel_rfl) (by kernel_rfl) ?_ (fun a w hF hS => ?_)
                  · exact obs_cons (ob_ixA UndA99 hi3 hs3 (fun _ => hp20)) <| obs_cons (ob_getA (m := x11) (Value.int .i64) (0 : Int) 2 ([] : List Value) ([.int .i64 x2, .int .i64 (w64 (x3 + 1))] : List Value) (w64 (1 - (Int.tmod i1 2))) Agg3 rfl (fun _ hS => ⟨_, _, _, _, _, hS.at_ 2 rfl⟩) (fun hy => by have h0 := hp20; omega)) <| obs_nil
                  refine at_do (d := 138) (s := vS (Instr.buildSlice 40 1 #[(0, .int .i64 (geti x11 (w64 (1 - (Int.tmod i1 2)))))])) (v := .slice (some ⟨w.heap.size, 0, none⟩) 1 1) (w' := w.alloc (.cells #[.int .i64 (geti x11 (w64 (1 - (Int.tmod i1 2))))] 3)) hF (by kernel_rfl) (by kernel_rfl) (by kernel_rfl) (fun a hF => ?_)
                  have hS : Sep w0 B (w.alloc (.cells #[.int .i64 (geti x11 (w64 (1 - (Int.tmod i1 2))))] 3)) (own 3 (.slice (some (⟨w.heap.size, 0, none⟩ : Addr)) 1 1) (vI ([geti x11 (w64 (1 - (Int.tmod i1 2)))] : List Int)) :: (blk g1 98 #[.int .i64 c1, .int .i64 c2, .int .i64 c3, .int .i64 c4, .int .i64 c5] :: blk g2 101 (List.toArray (([] : List Value) ++ (arr1 (Value.int .i64) (0 : Int) 2 (List.replicate 2 (0 : Int)) ++ ([.int .i64 0, .int .i64 0] : List Value)))) :: blk g3 101 (List.toArray (([] : List Value) ++ (arr1 (Value.int .i64) (0 : Int) 2 x11 ++ ([.int .i64 x2, .int .i64 (w64 (x3 + 1))] : List Value)))) :: own 3 (.slice A2 left1.length c7) (vI left1) :: fs)) := hS.lit 3 #[.int .i64 (geti x11 (w64 (1 - (Int.tmod i1 2))))] 1 rfl (by omega)
                  generalize (some (⟨w.heap.size, 0, none⟩ : Addr)) = g5 at hF hS
                  generalize w.alloc (.cells #[.int .i64 (geti x11 (w64 (1 - (Int.tmod i1 2))))] 3) = w at hS ⊢
                  obtain ⟨A5, c10, w, hrun, hS⟩ := run_app1 (P := Try.prog) (t := 40) (m := left1) (ys := ([geti x11 (w64 (1 - (Int.tmod i1 2)))] : List Int)) (A2 := g5) (m2 := 1) (c2 := 1) (Value.int .i64) (0 : Int) (hS.at_ 4 rfl) (hS.at_ 0 rfl).rd ((hS.at_ 0 rfl).len1) 40 Und40 hi3 hz3 hs3 (by omega) rfl (fun _ => rfl) hp21
                  have hS : Sep w0 B w (own 3 (.slice g5 1 1) (vI ([geti x11 (w64 (1 - (Int.tmod i1 2)))] : List Int)) :: blk g1 98 #[.int .i64 c1, .int .i64 c2, .int .i64 c3, .int .i64 c4, .int .i64 c5] :: blk g2 101 (List.toArray (([] : List Value) ++ (arr1 (Value.int .i64) (0 : Int) 2 (List.replicate 2 (0 : Int)) ++ ([.int .i64 0, .int .i64 0] : List Value)))) :: blk g3 101 (List.toArray (([] : List Value) ++ (arr1 (Value.int .i64) (0 : Int) 2 x11 ++ ([.int .i64 x2, .int .i64 (w64 (x3 + 1))] : List Value)))) :: own 3 (.slice A5 ((left1 ++ ([geti x11 (w64 (1 - (Int.tmod i1 2)))] : List Int)).length) c10) (vI (left1 ++ ([geti x11 (w64 (1 - (Int.tmod i1 2)))] : List Int))) :: fs) := hS
                  refine at_do (d := 139) hF (by kernel_rfl) (by kernel_rfl) hrun (fun a hF => ?_)
                  refine at_run 1 [] [] [1, 2, 4, 7, 8, 9] [pl 1 (.slice A1 used1.length c6), pl 2 (.pointer (some ⟨g1, 0, none⟩)), pl 4 (.pointer (some ⟨g2, 0, none⟩)), pl 7 (.pointer (some ⟨g3, 0, none⟩)), pl 8 (.slice A5 ((left1 ++ ([geti x11 (w64 (1 - (Int.tmod i1 2)))] : List Int)).length) c10), pl 9 (.int .i64 i1)] hF hS (by kernel_rfl) (by kernel_rfl) ?_ (fun a w hF hS => ?_)
                  · exact obs_nil
                  refine at_end [1, 2, 4, 7, 8, 9] [pl 1 (.slice A1 used1.length c6), pl 2 (.pointer (some ⟨g1, 0, none⟩)), pl 4 (.pointer (some ⟨g2, 0, none⟩)), pl 7 (.pointer (some ⟨g3, 0, none⟩)), pl 8 (.slice A5 ((left1 ++ ([geti x11 (w64 (1 - (Int.tmod i1 2)))] : List Int)).length) c10), pl 9 (.int .i64 i1)] hF rfl (by kernel_rfl) (fun hF => ?_)
                  refine block_n ?_
                  refine then_n ?_
                  have hS := hS.pickN 5 [1, 2, 3, 4] (by decide)
                  exact ⟨x11, x2, (w64 (x3 + 1)), (left1 ++ ([geti x11 (w64 (1 - (Int.tmod i1 2)))] : List Int)), A5, c10, hF.weak [1, 2, 4, 7, 8, 9] (by kernel_rfl), hS, hm⟩
                · obtain ⟨hp16, hm⟩ := asrt_b hm
                  refine reg [⟨false, [], vS (Instr.loadAt 3 (.pointer (some ⟨g1, 3, none⟩))), .int .i64 c4⟩, ⟨false, [(decide ((0 : Int) < c4), true)], vS (Instr.loadAt 3 (.pointer (some ⟨g1, 3, none⟩))), .int .i64 c4⟩, ⟨true, [(decide ((0 : Int) < c4), true)], vS (Op.intDiv .rem .i64 (w64 ((w64 (Int.tdiv i1 2)) + 1)) c4), .int .i64 (Int.tmod (w64 ((w64 (Int.tdiv i1 2)) + 1)) c4)⟩] [none, some (.int .i64 c4), none, none, none, none, some (.int .i64 c4), some (.int .i64 (Int.tmod (w64 ((w64 (Int.tdiv i1 2)) + 1)) c4)), none, none] [1, 2, 4, 7, 8, 9, 10, 122] [pl 1 (.slice A1 used1.length c6), pl 2 (.pointer (some ⟨g1, 0, none⟩)), pl 4 (.pointer (some ⟨g2, 0, none⟩)), pl 7 (.pointer (some ⟨g3, 0, none⟩)), pl 8 (.slice A2 left1.length c7), pl 9 (.int .i64 i1), pl 10 (.int .i64 (Int.tmod i1 2)), pl 122 (.bool ((decide ((0 : Int) < c4)) && ((Int.tmod (w64 ((w64 (Int.tdiv i1 2)) + 1)) c4) == 0)))] hF hS Fol (by kernel_rfl) (by kernel_rfl) (by kernel_rfl) ?_ (fun a w hF hS => ?_)
                  · exact obs_cons (ob_load Agg3 (fun _ _ hS => (hS.at_ 0 rfl).cell rfl)) <| obs_cons (ob_load Agg3 (fun _ _ hS => (hS.at_ 0 rfl).cell rfl)) <| obs_cons (ob_rem rfl (fun hy => hp16 (hy (decide ((0 : Int) < c4), true) (by simp)))) <| obs_nil
                  refine cond_ev (t := 122) (b := (decide ((0 : Int) < c4)) && ((Int.tmod (w64 ((w64 (Int.tdiv i1 2)) + 1)) c4) == 0)) hF (by kernel_rfl) (fun hb => ?_) (fun hb => ?_)
                  · replace hm := if_t hm hb
                    obtain ⟨hp17, hm⟩ := asrt_b hm
                    obtain ⟨hp18, hm⟩ := asrt_b hm
                    obtain ⟨hp19, hm⟩ := asrt_b hm
                    refine regMix4 [0, 1, 2, 3, 4, 5, 6, 7, 8] [9] [⟨true, [], vS (Instr.indexAt 99 (.pointer (some ⟨g3, 0, none⟩)) (.int .i64 (Int.tmod i1 2))), .pointer (some ((⟨g3, 0, none⟩ : Addr).add (Int.toNat (Int.tmod i1 2) * 1)))⟩, ⟨false, [], vS (Instr.loadAt 3 (.pointer (some ((⟨g3, 0, none⟩ : Addr).add (Int.toNat (Int.tmod i1 2) * 1))))), .int .i64 (geti x10 (Int.tmod i1 2))⟩, ⟨false, [], vS (Instr.loadAt 3 (.pointer (some ⟨g1, 4, none⟩))), .int .i64 c5⟩, ⟨true, [], vS (Instr.indexAt 99 (.pointer (some ⟨g3, 0, none⟩)) (.int .i64 (Int.tmod i1 2))), .pointer (some ((⟨g3, 0, none⟩ : Addr).add (Int.toNat (Int.tmod i1 2) * 1)))⟩] [none, none, some (.pointer (some ((⟨g3, 0, none⟩ : Addr).add (Int.toNat (Int.tmod i1 2) * 1)))), some (.int .i64 (geti x10 (Int.tmod i1 2))), none, some (.int .i64 c5), none, none, some (.pointer (some ((⟨g3, 0, none⟩ : Addr).add (Int.toNat (Int.tmod i1 2) * 1))))] [1, 2, 4, 7, 8, 9, 10, 129, 131] [pl 1 (.slice A1 used1.length c6), pl 2 (.pointer (some ⟨g1, 0, none⟩)), pl 4 (.pointer (some ⟨g2, 0, none⟩)), pl 7 (.pointer (some ⟨g3, 0, none⟩)), pl 8 (.slice A2 left1.length c7), pl 9 (.int .i64 i1), pl 10 (.int .i64 (Int.tmod i1 2)), pl 129 (.int .i64 (w64 ((geti x10 (Int.tmod i1 2)) + c5))), pl 131 (.pointer (some ((⟨g3, 0, none⟩ : Addr).add (Int.toNat (Int.tmod i1 2) * 1))))] hF hS Fol (by kernel_rfl) (by kernel_rfl) (by kernel_rfl) (by kernel_rfl) (by kernel_rfl) ?_ (fun a w hF hS => ?_)
                    · exact obs_cons (ob_ixA UndA99 hi3 hs3 (fun _ => hp17)) <| obs_cons (ob_getA (m := x10) (Value.int .i64) (0 : Int) 2 ([] : List Value) ([.int .i64 x2, .int .i64 (w64 (x3 + 1))] : List Value) (Int.tmod i1 2) Agg3 rfl (fun _ hS => ⟨_, _, _, _, _, hS.at_ 2 rfl⟩) (fun hy => by have h0 := hp17; omega)) <| obs_cons (ob_load Agg3 (fun _ _ hS => (hS.at_ 0 rfl).cell rfl)) <| obs_cons (ob_ixA UndA99 hi3 hs3 (fun _ => hp18)) <| obs_nil
                    obtain ⟨w, hrun, hS⟩ := run_setA (P := Try.prog) (t := 3) (x := (w64 ((geti x10 (Int.tmod i1 2)) + c5))) (i := (Int.tmod i1 2)) (m := x10) (d := Int.toNat (Int.tmod i1 2) * 1) (Value.int .i64) (0 : Int) 2 ([] : List Value) ([.int .i64 x2, .int .i64 (w64 (x3 + 1))] : List Value) (hS.at_ 2 rfl) rfl hi3 hs3 rfl (by have h0 := hp18; omega) (by have h0 := hp18; have h9 := hp19; omega)
                    refine at_skip hF (by kernel_rfl) hrun ?_
                    have hS : Sep w0 B w (blk g1 98 #[.int .i64 c1, .int .i64 c2, .int .i64 c3, .int .i64 c4, .int .i64 c5] :: blk g2 101 (List.toArray (([] : List Value) ++ (arr1 (Value.int .i64) (0 : Int) 2 (List.replicate 2 (0 : Int)) ++ ([.int .i64 0, .int .i64 0] : List Value)))) :: blk g3 101 (List.toArray (([] : List Value) ++ (arr1 (Value.int .i64) (0 : Int) 2 (x10.set (Int.toNat (Int.tmod i1 2)) (w64 ((geti x10 (Int.tmod i1 2)) + c5))) ++ ([.int .i64 x2, .int .i64 (w64 (x3 + 1))] : List Value)))) :: own 3 (.slice A2 left1.length c7) (vI left1) :: fs) := hS
                    refine at_end [1, 2, 4, 7, 8, 9, 10] [pl 1 (.slice A1 used1.length c6), pl 2 (.pointer (some ⟨g1, 0, none⟩)), pl 4 (.pointer (some ⟨g2, 0, none⟩)), pl 7 (.pointer (some ⟨g3, 0, none⟩)), pl 8 (.slice A2 left1.length c7), pl 9 (.int .i64 i1), pl 10 (.int .i64 (Int.tmod i1 2))] hF rfl (by kernel_rfl) (fun hF => ?_)
                    refine np_n ?_
                    refine then_n ?_
                    exact ⟨(x10.set (Int.toNat (Int.tmod i1 2)) (w64 ((geti x10 (Int.tmod i1 2)) + c5))), hF.weak [1, 2, 4, 7, 8, 9, 10] (by kernel_rfl), hS, hm⟩
                  · replace hm := if_f hm hb
                    refine wp_skip ?_
                    refine then_n ?_
                    exact ⟨x10, hF.weak [1, 2, 4, 7, 8, 9, 10] (by kernel_rfl), hS, hm⟩
              · obtain ⟨hp8, hm⟩ := asrt_b hm
                refine reg [⟨false, [], vS (Instr.loadAt 3 (.pointer (some ⟨g1, 1, none⟩))), .int .i64 c2⟩, ⟨false, [((c2 == 1), false)], vS (Instr.loadAt 3 (.pointer (some ⟨g1, 1, none⟩))), .int .i64 c2⟩, ⟨true, [((c2 == 2), true), ((c2 == 1), false)], vS (Instr.indexAt 40 (.slice A1 used1.length c6) (.int .i64 i1)), .pointer (some (sAddr A1 i1))⟩, ⟨false, [((c2 == 2), true), ((c2 == 1), false)], vS (Instr.loadAt 3 (.pointer (some (sAddr A1 i1)))), .int .i64 (geti used1 i1)⟩, ⟨false, [((c2 == 2), true), ((c2 == 1), false)], vS (Instr.loadAt 3 (.pointer (some ⟨g1, 2, none⟩))), .int .i64 c3⟩] [none, some (.int .i64 c2), none, none, none, some (.int .i64 c2), none, none, none, none, some (.pointer (some (sAddr A1 i1))), some (.int .i64 (geti used1 i1)), none, some (.int .i64 c3), none, none, none] [1, 2, 4, 7, 8, 9, 10, 82] [pl 1 (.slice A1 used1.length c6), pl 2 (.pointer (some ⟨g1, 0, none⟩)), pl 4 (.pointer (some ⟨g2, 0, none⟩)), pl 7 (.pointer (some ⟨g3, 0, none⟩)), pl 8 (.slice A2 left1.length c7), pl 9 (.int .i64 i1), pl 10 (.int .i64 (Int.tmod i1 2)), pl 82 (.bool ((c2 == 1) || ((c2 == 2) && (decide (c3 ≤ (geti used1 i1))))))] hF hS Fol (by kernel_rfl) (by kernel_rfl) (by kernel_rfl) ?_ (fun a w hF hS => ?_)
                · exact obs_cons (ob_load Agg3 (fun _ _ hS => (hS.at_ 0 rfl).cell rfl)) <| obs_cons (ob_load Agg3 (fun _ _ hS => (hS.at_ 0 rfl).cell rfl)) <| obs_cons (ob_ix1 (f := (Value.int .i64)) (m := used1) Und40 hi3 hs3 (hr_used1 _ (hS.dropN 4)) rfl (fun hy => hp8 (hy ((c2 == 2), true) (by simp)) (hy ((c2 == 1), false) (by simp)))) <| obs_cons (ob_get1 (n := used1.length) (m := used1) (Value.int .i64) (0 : Int) Agg3 (fun _ hS => ⟨_, (hr_used1 _ (hS.dropN 4))⟩) (fun _ hS => rfl) (fun hy => hp8 (hy ((c2 == 2), true) (by simp)) (hy ((c2 == 1), false) (by simp)))) <| obs_cons (ob_load Agg3 (fun _ _ hS => (hS.at_ 0 rfl).cell rfl)) <| obs_nil
                refine cond_ev (t := 82) (b := (c2 == 1) || ((c2 == 2) && (decide (c3 ≤ (geti used1 i1))))) hF (by kernel_rfl) (fun hb => ?_) (fun hb => ?_)
                · replace hm := if_t hm hb
                  obtain ⟨hp9, hm⟩ := asrt_b hm
                  obtain ⟨hp10, hm⟩ := asrt_b hm
                  obtain ⟨hp11, hm⟩ := asrt_b hm
                  refine regMix4 [0, 1, 2, 3, 4, 5, 6, 7, 8] [9] [⟨true, [], vS (Instr.indexAt 99 (.pointer (some ⟨g3, 0, none⟩)) (.int .i64 (Int.tmod i1 2))), .pointer (some ((⟨g3, 0, none⟩ : Addr).add (Int.toNat (Int.tmod i1 2) * 1)))⟩, ⟨false, [], vS (Instr.loadAt 3 (.pointer (some ((⟨g3, 0, none⟩ : Addr).add (Int.toNat (Int.tmod i1 2) * 1))))), .int .i64 (geti (x1.set (Int.toNat (Int.tmod i1 2)) (w64 ((geti x1 (Int.tmod i1 2)) - taken1))) (Int.tmod i1 2))⟩, ⟨false, [], vS (Instr.loadAt 3 (.pointer (some ⟨g1, 2, none⟩))), .int .i64 c3⟩, ⟨true, [], vS (Instr.indexAt 99 (.pointer (some ⟨g3, 0, none⟩)) (.int .i64 (Int.tmod i1 2))), .pointer (some ((⟨g3, 0, none⟩ : Addr).add (Int.toNat (Int.tmod i1 2) * 1)))⟩] [none, none, some (.pointer (some ((⟨g3, 0, none⟩ : Addr).add (Int.toNat (Int.tmod i1 2) * 1)))), some (.int .i64 (geti (x1.set (Int.toNat (Int.tmod i1 2)) (w64 ((geti x1 (Int.tmod i1 2)) - taken1))) (Int.tmod i1 2))), none, some (.int .i64 c3), none, none, some (.pointer (some ((⟨g3, 0, none⟩ : Addr).add (Int.toNat (Int.tmod i1 2) * 1))))] [1, 2, 4, 7, 8, 9, 10, 89, 91] [pl 1 (.slice A1 used1.length c6), pl 2 (.pointer (some ⟨g1, 0, none⟩)), pl 4 (.pointer (some ⟨g2, 0, none⟩)), pl 7 (.pointer (some ⟨g3, 0, none⟩)), pl 8 (.slice A2 left1.length c7), pl 9 (.int .i64 i1), pl 10 (.int .i64 (Int.tmod i1 2)), pl 89 (.int .i64 (w64 ((geti (x1.set (Int.toNat (Int.tmod i1 2)) (w64 ((geti x1 (Int.tmod i1 2)) - taken1))) (Int.tmod i1 2)) + c3))), pl 91 (.pointer (some ((⟨g3, 0, none⟩ : Addr).add (Int.toNat (Int.tmod i1 2) * 1))))] hF hS Fol (by kernel_rfl) (by kernel_rfl) (by kernel_rfl) (by kernel_rfl) (by kernel_rfl) ?_ (fun a w hF hS => ?_)
                  · exact obs_cons (ob_ixA UndA99 hi3 hs3 (fun _ => hp9)) <| obs_cons (ob_getA (m := (x1.set (Int.toNat (Int.tmod i1 2)) (w64 ((geti x1 (Int.tmod i1 2)) - taken1)))) (Value.int .i64) (0 : Int) 2 ([] : List Value) ([.int .i64 x2, .int .i64 x3] : List Value) (Int.tmod i1 2) Agg3 rfl (fun _ hS => ⟨_, _, _, _, _, hS.at_ 2 rfl⟩) (fun hy => by have h0 := hp9; omega)) <| obs_cons (ob_load Agg3 (fun _ _ hS => (hS.at_ 0 rfl).cell rfl)) <| obs_cons (ob_ixA UndA99 hi3 hs3 (fun _ => hp10)) <| obs_nil
                  obtain ⟨w, hrun, hS⟩ := run_setA (P := Try.prog) (t := 3) (x := (w64 ((geti (x1.set (Int.toNat (Int.tmod i1 2)) (w64 ((geti x1 (Int.tmod i1 2)) - taken1))) (Int.tmod i1 2)) + c3))) (i := (Int.tmod i1 2)) (m := (x1.set (Int.toNat (Int.tmod i1 2)) (w64 ((geti x1 (Int.tmod i1 2)) - taken1)))) (d := Int.toNat (Int.tmod i1 2) * 1) (Value.int .i64) (0 : Int) 2 ([] : List Value) ([.int .i64 x2, .int .i64 x3] : List Value) (hS.at_ 2 rfl) rfl hi3 hs3 rfl (by have h0 := hp10; omega) (by have h0 := hp10; have h9 := hp11; omega)
                  refine at_skip hF (by kernel_rfl) hrun ?_
                  have hS : Sep w0 B w (blk g1 98 #[.int .i64 c1, .int .i64 c2, .int .i64 c3, .int .i64 c4, .int .i64 c5] :: blk g2 101 (List.toArray (([] : List Value) ++ (arr1 (Value.int .i64) (0 : Int) 2 (List.replicate 2 (0 : Int)) ++ ([.int .i64 0, .int .i64 0] : List Value)))) :: blk g3 101 (List.toArray (([] : List Value) ++ (arr1 (Value.int .i64) (0 : Int) 2 ((x1.set (Int.toNat (Int.tmod i1 2)) (w64 ((geti x1 (Int.tmod i1 2)) - taken1))).set (Int.toNat (Int.tmod i1 2)) (w64 ((geti (x1.set (Int.toNat (Int.tmod i1 2)) (w64 ((geti x1 (Int.tmod i1 2)) - taken1))) (Int.tmod i1 2)) + c3))) ++ ([.int .i64 x2, .int .i64 x3] : List Value)))) :: own 3 (.slice A2 left1.length c7) (vI left1) :: fs) := hS
                  refine at_end [1, 2, 4, 7, 8, 9, 10] [pl 1 (.slice A1 used1.length c6), pl 2 (.pointer (some ⟨g1, 0, none⟩)), pl 4 (.pointer (some ⟨g2, 0, none⟩)), pl 7 (.pointer (some ⟨g3, 0, none⟩)), pl 8 (.slice A2 left1.length c7), pl 9 (.int .i64 i1), pl 10 (.int .i64 (Int.tmod i1 2))] hF rfl (by kernel_rfl) (fun hF => ?_)
                  refine np_n ?_
                  refine then_n ?_
                  exact ⟨((x1.set (Int.toNat (Int.tmod i1 2)) (w64 ((geti x1 (Int.tmod i1 2)) - taken1))).set (Int.toNat (Int.tmod i1 2)) (w64 ((geti (x1.set (Int.toNat (Int.tmod i1 2)) (w64 ((geti x1 (Int.tmod i1 2)) - taken1))) (Int.tmod i1 2)) + c3))), hF.weak [1, 2, 4, 7, 8, 9, 10] (by kernel_rfl), hS, hm⟩
                · replace hm := if_f hm hb
                  refine reg [⟨false, [], vS (Instr.loadAt 3 (.pointer (some ⟨g1, 1, none⟩))), .int .i64 c2⟩] [none, some (.int .i64 c2), none] [1, 2, 4, 7, 8, 9, 10, 94] [pl 1 (.slice A1 used1.length c6), pl 2 (.pointer (some ⟨g1, 0, none⟩)), pl 4 (.pointer (some ⟨g2, 0, none⟩)), pl 7 (.pointer (some ⟨g3, 0, none⟩)), pl 8 (.slice A2 left1.length c7), pl 9 (.int .i64 i1), pl 10 (.int .i64 (Int.tmod i1 2)), pl 94 (.bool (c2 == 2))] hF hS Fol (by kernel_rfl) (by kernel_rfl) (by kernel_rfl) ?_ (fun a w hF hS => ?_)
                  · exact obs_cons (ob_load Agg3 (fun _ _ hS => (hS.at_ 0 rfl).cell rfl)) <| obs_nil
                  refine cond_ev (t := 94) (b := (c2 == 2)) hF (by kernel_rfl) (fun hb => ?_) (fun hb => ?_)
                  · replace hm := if_t hm hb
                    obtain ⟨hp12, hm⟩ := asrt_b hm
                    obtain ⟨hp13, hm⟩ := asrt_b hm
                    obtain ⟨hp14, hm⟩ := asrt_b hm
                    obtain ⟨hp15, hm⟩ := asrt_b hm
                    refine regMix4 [0, 1, 2, 3, 4, 5, 6, 7, 8, 9, 10] [11] [⟨true, [], vS (Instr.indexAt 99 (.pointer (some ⟨g3, 0, none⟩)) (.int .i64 (Int.tmod i1 2))), .pointer (some ((⟨g3, 0, none⟩ : Addr).add (Int.toNat (Int.tmod i1 2) * 1)))⟩, ⟨false, [], vS (Instr.loadAt 3 (.pointer (some ((⟨g3, 0, none⟩ : Addr).add (Int.toNat (Int.tmod i1 2) * 1))))), .int .i64 (geti (x1.set (Int.toNat (Int.tmod i1 2)) (w64 ((geti x1 (Int.tmod i1 2)) - taken1))) (Int.tmod i1 2))⟩, ⟨true, [], vS (Instr.indexAt 40 (.slice A1 used1.length c6) (.int .i64 i1)), .pointer (some (sAddr A1 i1))⟩, ⟨false, [], vS (Instr.loadAt 3 (.pointer (some (sAddr A1 i1)))), .int .i64 (geti used1 i1)⟩, ⟨true, [], vS (Instr.indexAt 99 (.pointer (some ⟨g3, 0, none⟩)) (.int .i64 (Int.tmod i1 2))), .pointer (some ((⟨g3, 0, none⟩ : Addr).add (Int.toNat (Int.tmod i1 2) * 1)))⟩] [none, none, some (.pointer (some ((⟨g3, 0, none⟩ : Addr).add (Int.toNat (Int.tmod i1 2) * 1)))), some (.int .i64 (geti (x1.set (Int.toNat (Int.tmod i1 2)) (w64 ((geti x1 (Int.tmod i1 2)) - taken1))) (Int.tmod i1 2))), none, none, some (.pointer (some (sAddr A1 i1))), some (.int .i64 (geti used1 i1)), none, none, some (.pointer (some ((⟨g3, 0, none⟩ : Addr).add (Int.toNat (Int.tmod i1 2) * 1))))] [1, 2, 4, 7, 8, 9, 10, 103, 105] [pl 1 (.slice A1 used1.length c6), pl 2 (.pointer (some ⟨g1, 0, none⟩)), pl 4 (.pointer (some ⟨g2, 0, none⟩)), pl 7 (.pointer (some ⟨g3, 0, none⟩)), pl 8 (.slice A2 left1.length c7), pl 9 (.int .i64 i1), pl 10 (.int .i64 (Int.tmod i1 2)), pl 103 (.int .i64 (w64 ((geti (x1.set (Int.toNat (Int.tmod i1 2)) (w64 ((geti x1 (Int.tmod i1 2)) - taken1))) (Int.tmod i1 2)) + (geti used1 i1)))), pl 105 (.pointer (some ((⟨g3, 0, none⟩ : Addr).add (Int.toNat (Int.tmod i1 2) * 1))))] hF hS Fol (by kernel_rfl) (by kernel_rfl) (by kernel_rfl) (by kernel_rfl) (by kernel_rfl) ?_ (fun a w hF hS => ?_)
                    · exact obs_cons (ob_ixA UndA99 hi3 hs3 (fun _ => hp12)) <| obs_cons (ob_getA (m := (x1.set (Int.toNat (Int.tmod i1 2)) (w64 ((geti x1 (Int.tmod i1 2)) - taken1)))) (Value.int .i64) (0 : Int) 2 ([] : List Value) ([.int .i64 x2, .int .i64 x3] : List Value) (Int.tmod i1 2) Agg3 rfl (fun _ hS => ⟨_, _, _, _, _, hS.at_ 2 rfl⟩) (fun hy => by have h0 := hp12; omega)) <| obs_cons (ob_ix1 (f := (Value.int .i64)) (m := used1) Und40 hi3 hs3 (hr_used1 _ (hS.dropN 4)) rfl (fun _ => hp13)) <| obs_cons (ob_get1 (n := used1.length) (m := used1) (Value.int .i64) (0 : Int) Agg3 (fun _ hS => ⟨_, (hr_used1 _ (hS.dropN 4))⟩) (fun _ hS => rfl) (fun _ => hp13)) <| obs_cons (ob_ixA UndA99 hi3 hs3 (fun _ => hp14)) <| obs_nil
                    obtain ⟨w, hrun, hS⟩ := run_setA (P := Try.prog) (t := 3) (x := (w64 ((geti (x1.set (Int.toNat (Int.tmod i1 2)) (w64 ((geti x1 (Int.tmod i1 2)) - taken1))) (Int.tmod i1 2)) + (geti used1 i1)))) (i := (Int.tmod i1 2)) (m := (x1.set (Int.toNat (Int.tmod i1 2)) (w64 ((geti x1 (Int.tmod i1 2)) - taken1)))) (d := Int.toNat (Int.tmod i1 2) * 1) (Value.int .i64) (0 : Int) 2 ([] : List Value) ([.int .i64 x2, .int .i64 x3] : List Value) (hS.at_ 2 rfl) rfl hi3 hs3 rfl (by have h0 := hp14; omega) (by have h0 := hp14; have h9 := hp15; omega)
                    refine at_skip hF (by kernel_rfl) hrun ?_
                    have hS : Sep w0 B w (blk g1 98 #[.int .i64 c1, .int .i64 c2, .int .i64 c3, .int .i64 c4, .int .i64 c5] :: blk g2 101 (List.toArray (([] : List Value) ++ (arr1 (Value.int .i64) (0 : Int) 2 (List.replicate 2 (0 : Int)) ++ ([.int .i64 0, .int .i64 0] : List Value)))) :: blk g3 101 (List.toArray (([] : List Value) ++ (arr1 (Value.int .i64) (0 : Int) 2 ((x1.set (Int.toNat (Int.tmod i1 2)) (w64 ((geti x1 (Int.tmod i1 2)) - taken1))).set (Int.toNat (Int.tmod i1 2)) (w64 ((geti (x1.set (Int.toNat (Int.tmod i1 2)) (w64 ((geti x1 (Int.tmod i1 2)) - taken1))) (Int.tmod i1 2)) + (geti used1 i1)))) ++ ([.int .i64 x2, .int .i64 x3] : List Value)))) :: own 3 (.slice A2 left1.length c7) (vI left1) :: fs) := hS
                    refine at_end [1, 2, 4, 7, 8, 9, 10] [pl 1 (.slice A1 used1.length c6), pl 2 (.pointer (some ⟨g1, 0, none⟩)), pl 4 (.pointer (some ⟨g2, 0, none⟩)), pl 7 (.pointer (some ⟨g3, 0, none⟩)), pl 8 (.slice A2 left1.length c7), pl 9 (.int .i64 i1), pl 10 (.int .i64 (Int.tmod i1 2))] hF rfl (by kernel_rfl) (fun hF => ?_)
                    refine np_n ?_
                    refine then_n ?_
                    exact ⟨((x1.set (Int.toNat (Int.tmod i1 2)) (w64 ((geti x1 (Int.tmod i1 2)) - taken1))).set (Int.toNat (Int.tmod i1 2)) (w64 ((geti (x1.set (Int.toNat (Int.tmod i1 2)) (w64 ((geti x1 (Int.tmod i1 2)) - taken1))) (Int.tmod i1 2)) + (geti used1 i1)))), hF.weak [1, 2, 4, 7, 8, 9, 10] (by kernel_rfl), hS, hm⟩
                  · replace hm := if_f hm hb
                    refine wp_skip ?_
                    refine then_n ?_
                    exact ⟨(x1.set (Int.toNat (Int.tmod i1 2)) (w64 ((geti x1 (Int.tmod i1 2)) - taken1))), hF.weak [1, 2, 4, 7, 8, 9, 10] (by kernel_rfl), hS, hm⟩
            · obtain ⟨hp2, hm⟩ := asrt_b hm
              refine reg [⟨true, [], vS (Instr.indexAt 99 (.pointer (some ⟨g3, 0, none⟩)) (.int .i64 (Int.tmod i1 2))), .pointer (some ((⟨g3, 0, none⟩ : Addr).add (Int.toNat (Int.tmod i1 2) * 1)))⟩, ⟨false, [], vS (Instr.loadAt 3 (.pointer (some ((⟨g3, 0, none⟩ : Addr).add (Int.toNat (Int.tmod i1 2) * 1))))), .int .i64 (geti x1 (Int.tmod i1 2))⟩] [none, none, none, some (.pointer (some ((⟨g3, 0, none⟩ : Addr).add (Int.toNat (Int.tmod i1 2) * 1)))), some (.int .i64 (geti x1 (Int.tmod i1 2))), none] [1, 2, 4, 7, 8, 9, 10, 11, 52] [pl 1 (.slice A1 used1.length c6), pl 2 (.pointer (some ⟨g1, 0, none⟩)), pl 4 (.pointer (some ⟨g2, 0, none⟩)), pl 7 (.pointer (some ⟨g3, 0, none⟩)), pl 8 (.slice A2 left1.length c7), pl 9 (.int .i64 i1), pl 10 (.int .i64 (Int.tmod i1 2)), pl 11 (.int .i64 taken1), pl 52 (.bool (decide ((geti x1 (Int.tmod i1 2)) < taken1)))] hF hS Fol (by kernel_rfl) (by kernel_rfl) (by kernel_rfl) ?_ (fun a w hF hS => ?_)
              · exact obs_cons (ob_ixA UndA99 hi3 hs3 (fun _ => hp2)) <| obs_cons (ob_getA (m := x1) (Value.int .i64) (0 : Int) 2 ([] : List Value) ([.int .i64 x2, .int .i64 x3] : List Value) (Int.tmod i1 2) Agg3 rfl (fun _ hS => ⟨_, _, _, _, _, hS.at_ 2 rfl⟩) (fun hy => by have h0 := hp2; omega)) <| obs_nil
              refine cond_ev (t := 52) (b := decide ((geti x1 (Int.tmod i1 2)) < taken1)) hF (by kernel_rfl) (fun hb => ?_) (fun hb => ?_)
              · replace hm := if_t hm hb
                refine seqR ?_
                obtain ⟨hp3, hm⟩ := asrt_b hm
                obtain ⟨hp4, hm⟩ := asrt_b hm
                refine at_run 3 [⟨true, [], vS (Instr.indexAt 99 (.pointer (some ⟨g3, 0, none⟩)) (.int .i64 (Int.tmod i1 2))), .pointer (some ((⟨g3, 0, none⟩ : Addr).add (Int.toNat (Int.tmod i1 2) * 1)))⟩] [none, none, some (.pointer (some ((⟨g3, 0, none⟩ : Addr).add (Int.toNat (Int.tmod i1 2) * 1))))] [1, 2, 4, 7, 8, 9, 10, 55] [pl 1 (.slice A1 used1.length c6), pl 2 (.pointer (some ⟨g1, 0, none⟩)), pl 4 (.pointer (some ⟨g2, 0, none⟩)), pl 7 (.pointer (some ⟨g3, 0, none⟩)), pl 8 (.slice A2 left1.length c7), pl 9 (.int .i64 i1), pl 10 (.int .i64 (Int.tmod i1 2)), pl 55 (.pointer (some ((⟨g3, 0, none⟩ : Addr).add (Int.toNat (Int.tmod i1 2) * 1))))] hF hS (by kernel_rfl) (by kernel_rfl) ?_ (fun a w hF hS => ?_)
                · exact obs_cons (ob_ixA UndA99 hi3 hs3 (fun _ => hp3)) <| obs_nil
                obtain ⟨w, hrun, hS⟩ := run_setA (P := Try.prog) (t := 3) (x := 0) (i := (Int.tmod i1 2)) (m := x1) (d := Int.toNat (Int.tmod i1 2) * 1) (Value.int .i64) (0 : Int) 2 ([] : List Value) ([.int .i64 x2, .int .i64 x3] : List Value) (hS.at_ 2 rfl) rfl hi3 hs3 rfl (by have h0 := hp3; omega) (by have h0 := hp3; have h9 := hp4; omega)
                refine at_skip hF (by kernel_rfl) hrun ?_
                have hS : Sep w0 B w (blk g1 98 #[.int .i64 c1, .int .i64 c2, .int .i64 c3, .int .i64 c4, .int .i64 c5] :: blk g2 101 (List.toArray (([] : List Value) ++ (arr1 (Value.int .i64) (0 : Int) 2 (List.replicate 2 (0 : Int)) ++ ([.int .i64 0, .int .i64 0] : List Value)))) :: blk g3 101 (List.toArray (([] : List Value) ++ (arr1 (Value.int .i64) (0 : Int) 2 (x1.set (Int.toNat (Int.tmod i1 2)) 0) ++ ([.int .i64 x2, .int .i64 x3] : List Value)))) :: own 3 (.slice A2 left1.length c7) (vI left1) :: fs) := hS
                refine at_end [1, 2, 4, 7, 8, 9, 10] [pl 1 (.slice A1 used1.length c6), pl 2 (.pointer (some ⟨g1, 0, none⟩)), pl 4 (.pointer (some ⟨g2, 0, none⟩)), pl 7 (.pointer (some ⟨g3, 0, none⟩)), pl 8 (.slice A2 left1.length c7), pl 9 (.int .i64 i1), pl 10 (.int .i64 (Int.tmod i1 2))] hF rfl (by kernel_rfl) (fun hF => ?_)
                refine then_n ?_
                refine seqR ?_
                refine at_run 2 [] [] [1, 2, 4, 7, 8, 9, 56, 57] [pl 1 (.slice A1 used1.length c6), pl 2 (.pointer (some ⟨g1, 0, none⟩)), pl 4 (.pointer (some ⟨g2, 0, none⟩)), pl 7 (.pointer (some ⟨g3, 0, none⟩)), pl 8 (.slice A2 left1.length c7), pl 9 (.int .i64 i1), pl 56 (.int .i64 (Int.tmod i1 2)), pl 57 (.pointer (some ⟨g3, 2, none⟩))] hF hS (by kernel_rfl) (by kernel_rfl) ?_ (fun a w hF hS => ?_)
                · exact obs_nil
                obtain ⟨w, hrun, hS⟩ := run_put (P := Try.prog) (t := 3) (u := .int .i64 (Int.tmod i1 2)) (i := 2) (hS.at_ 2 rfl) hi3 hs3 rfl (Nat.lt_of_lt_of_eq (Nat.lt_of_succ_le (Nat.le_of_ble_eq_true (by kernel_rfl))) rfl)
                refine at_skip hF (by kernel_rfl) hrun ?_
                have hS : Sep w0 B w (blk g1 98 #[.int .i64 c1, .int .i64 c2, .int .i64 c3, .int .i64 c4, .int .i64 c5] :: blk g2 101 (List.toArray (([] : List Value) ++ (arr1 (Value.int .i64) (0 : Int) 2 (List.replicate 2 (0 : Int)) ++ ([.int .i64 0, .int .i64 0] : List Value)))) :: blk g3 101 (List.toArray (([] : List Value) ++ (arr1 (Value.int .i64) (0 : Int) 2 (x1.set (Int.toNat (Int.tmod i1 2)) 0) ++ ([.int .i64 (Int.tmod i1 2), .int .i64 x3] : List Value)))) :: own 3 (.slice A2 left1.length c7) (vI left1) :: fs) := hS
                refine at_end [1, 2, 4, 7, 8, 9] [pl 1 (.slice A1 used1.length c6), pl 2 (.pointer (some ⟨g1, 0, none⟩)), pl 4 (.pointer (some ⟨g2, 0, none⟩)), pl 7 (.pointer (some ⟨g3, 0, none⟩)), pl 8 (.slice A2 left1.length c7), pl 9 (.int .i64 i1)] hF rfl (by kernel_rfl) (fun hF => ?_)
                refine then_n ?_
                refine wp_exit ?_
                refine then_e (block_e (then_n ?_))
                exact ⟨(x1.set (Int.toNat (Int.tmod i1 2)) 0), (Int.tmod i1 2), x3, left1, A2, c7, hF.weak [1, 2, 4, 7, 8, 9] (by kernel_rfl), hS, hm⟩
              · replace hm := if_f hm hb
                refine wp_skip ?_
                refine then_n ?_
                exact ⟨hF.weak [1, 2, 4, 7, 8, 9, 10, 11] (by kernel_rfl), hS, hm⟩
          · refine reg [⟨false, [], vS (Instr.loadAt 3 (.pointer (some ⟨g1, 1, none⟩))), .int .i64 c2⟩] [none, some (.int .i64 c2), none] [1, 2, 4, 7, 8, 9, 10, 11, 40] [pl 1 (.slice A1 used1.length c6), pl 2 (.pointer (some ⟨g1, 0, none⟩)), pl 4 (.pointer (some ⟨g2, 0, none⟩)), pl 7 (.pointer (some ⟨g3, 0, none⟩)), pl 8 (.slice A2 left1.length c7), pl 9 (.int .i64 i1), pl 10 (.int .i64 (Int.tmod i1 2)), pl 11 (.int .i64 (geti used1 i1)), pl 40 (.bool (c2 == 3))] hF hS Fol (by kernel_rfl) (by kernel_rfl) (by kernel_rfl) ?_ (fun a w hF hS => ?_)
            · exact obs_cons (ob_load Agg3 (fun _ _ hS => (hS.at_ 0 rfl).cell rfl)) <| obs_nil
            refine cond_ev (t := 40) (b := (c2 == 3)) hF (by kernel_rfl) (fun hb => ?_) (fun hb => ?_)
            · replace hm := if_t hm hb
              refine reg [⟨false, [], vS (Instr.loadAt 3 (.pointer (some ⟨g1, 2, none⟩))), .int .i64 c3⟩] [none, none, some (.int .i64 c3), none, none] [1, 2, 4, 7, 8, 9, 10, 11] [pl 1 (.slice A1 used1.length c6), pl 2 (.pointer (some ⟨g1, 0, none⟩)), pl 4 (.pointer (some ⟨g2, 0, none⟩)), pl 7 (.pointer (some ⟨g3, 0, none⟩)), pl 8 (.slice A2 left1.length c7), pl 9 (.int .i64 i1), pl 10 (.int .i64 (Int.tmod i1 2)), pl 11 (.int .i64 (w64 ((geti used1 i1) - c3)))] hF hS Fol (by kernel_rfl) (by kernel_rfl) (by kernel_rfl) ?_ (fun a w hF hS => ?_)
              · exact obs_cons (ob_load Agg3 (fun _ _ hS => (hS.at_ 0 rfl).cell rfl)) <| obs_nil
              refine reg [] [] [1, 2, 4, 7, 8, 9, 10, 11, 46] [pl 1 (.slice A1 used1.length c6), pl 2 (.pointer (some ⟨g1, 0, none⟩)), pl 4 (.pointer (some ⟨g2, 0, none⟩)), pl 7 (.pointer (some ⟨g3, 0, none⟩)), pl 8 (.slice A2 left1.length c7), pl 9 (.int .i64 i1), pl 10 (.int .i64 (Int.tmod i1 2)), pl 11 (.int .i64 (w64 ((geti used1 i1) - c3))), pl 46 (.bool (decide ((w64 ((geti used1 i1) - c3)) < 0)))] hF hS Fol (by kernel_rfl) (by kernel_rfl) (by kernel_rfl) ?_ (fun a w hF hS => ?_)
              · exact obs_nil
              refine cond_ev (t := 46) (b := decide ((w64 ((geti used1 i1) - c3)) < 0)) hF (by kernel_rfl) (fun hb => ?_) (fun hb => ?_)
              · replace hm := if_t hm hb
                refine reg1 [] [] [1, 2, 4, 7, 8, 9, 10, 11] [pl 1 (.slice A1 used1.length c6), pl 2 (.pointer (some ⟨g1, 0, none⟩)), pl 4 (.pointer (some ⟨g2, 0, none⟩)), pl 7 (.pointer (some ⟨g3, 0, none⟩)), pl 8 (.slice A2 left1.length c7), pl 9 (.int .i64 i1), pl 10 (.int .i64 (Int.tmod i1 2)), pl 11 (.int .i64 0)] hF hS Fol (by kernel_rfl) (by kernel_rfl) (by kernel_rfl) ?_ (fun a w hF hS => ?_)
                · exact obs_nil
                refine then_n ?_
                exact ⟨0, hF.weak [1, 2, 4, 7, 8, 9, 10, 11] (by kernel_rfl), hS, hm⟩
              · replace hm := if_f hm hb
                refine wp_skip ?_
                refine then_n ?_
                exact ⟨(w64 ((geti used1 i1) - c3)), hF.weak [1, 2, 4, 7, 8, 9, 10, 11] (by kernel_rfl), hS, hm⟩
            · replace hm := if_f hm hb
              refine wp_skip ?_
              refine then_n ?_
              exact ⟨(geti used1 i1), hF.weak [1, 2, 4, 7, 8, 9, 10, 11] (by kernel_rfl), hS, hm⟩
        · refine reg [⟨false, [], vS (Instr.loadAt 3 (.pointer (some ⟨g3, 2, none⟩))), .int .i64 x2⟩] [none, some (.int .i64 x2), none] [1, 2, 4, 7, 8, 9, 30] [pl 1 (.slice A1 used1.length c6), pl 2 (.pointer (some ⟨g1, 0, none⟩)), pl 4 (.pointer (some ⟨g2, 0, none⟩)), pl 7 (.pointer (some ⟨g3, 0, none⟩)), pl 8 (.slice A2 left1.length c7), pl 9 (.int .i64 i1), pl 30 (.bool (decide ((0 : Int) ≤ x2)))] hF hS Fol (by kernel_rfl) (by kernel_rfl) (by kernel_rfl) ?_ (fun a w hF hS => ?_)
          · exact obs_cons (ob_load Agg3 (fun _ _ hS => (hS.at_ 2 rfl).cell rfl)) <| obs_nil
          refine cond_ev (t := 30) (b := decide ((0 : Int) ≤ x2)) hF (by kernel_rfl) (fun hb => ?_) (fun hb => ?_)
          · replace hm := if_t hm hb
            refine seqR ?_
            refine at_run 1 [] [] [4, 31] [pl 4 (.pointer (some ⟨g2, 0, none⟩)), pl 31 (.agg (List.toArray (([] : List Value) ++ (arr1 (Value.int .i64) (0 : Int) 2 (List.replicate 2 (0 : Int)) ++ ([.int .i64 0, .int .i64 0] : List Value)))))] hF hS (by kernel_rfl) (by kernel_rfl) ?_ (fun a w hF hS => ?_)
            · exact obs_nil
            obtain ⟨w, hrun, hS⟩ := run_putA (P := Try.prog) (t := 101) (us := (List.toArray (([] : List Value) ++ (arr1 (Value.int .i64) (0 : Int) 2 (List.replicate 2 (0 : Int)) ++ ([.int .i64 0, .int .i64 0] : List Value))))) (o := 0) (hS.at_ 1 rfl) (by kernel_rfl) (all_one (by kernel_rfl)) (Nat.le_of_ble_eq_true (by kernel_rfl))
            refine at_skip hF (by kernel_rfl) hrun ?_
            have hS : Sep w0 B w (blk g1 98 #[.int .i64 c1, .int .i64 c2, .int .i64 c3, .int .i64 c4, .int .i64 c5] :: blk g2 101 (List.toArray (([] : List Value) ++ (arr1 (Value.int .i64) (0 : Int) 2 (List.replicate 2 (0 : Int)) ++ ([.int .i64 0, .int .i64 0] : List Value)))) :: blk g3 101 (List.toArray (([] : List Value) ++ (arr1 (Value.int .i64) (0 : Int) 2 x1 ++ ([.int .i64 x2, .int .i64 x3] : List Value)))) :: own 3 (.slice A2 left1.length c7) (vI left1) :: fs) := hS
            refine at_run 2 [] [] [4, 5, 6] [pl 4 (.pointer (some ⟨g2, 0, none⟩)), pl 5 (.slice none 0 0), pl 6 (.int .i64 9)] hF hS (by kernel_rfl) (by kernel_rfl) ?_ (fun a w hF hS => ?_)
            · exact obs_nil
            refine at_end [4, 5, 6] [pl 4 (.pointer (some ⟨g2, 0, none⟩)), pl 5 (.slice none 0 0), pl 6 (.int .i64 9)] hF rfl (by kernel_rfl) (fun hF => ?_)
            refine then_n ?_
            refine wp_ret ?_
            refine then_r (block_r (then_r (then_r (block_r (then_r ?_)))))
            rw [← hφ1] at hm
            replace hm := done_b hm
            unfold gameroomref_RunOf_K1 at hm
            try dsimp only at hm
            have hS : Sep w0 B w (own 3 (.slice none 0 0) (vI ([] : List Int)) :: blk g1 98 #[.int .i64 c1, .int .i64 c2, .int .i64 c3, .int .i64 c4, .int .i64 c5] :: blk g2 101 (List.toArray (([] : List Value) ++ (arr1 (Value.int .i64) (0 : Int) 2 (List.replicate 2 (0 : Int)) ++ ([.int .i64 0, .int .i64 0] : List Value)))) :: blk g3 101 (List.toArray (([] : List Value) ++ (arr1 (Value.int .i64) (0 : Int) 2 x1 ++ ([.int .i64 x2, .int .i64 x3] : List Value)))) :: own 3 (.slice A2 left1.length c7) (vI left1) :: fs) := hS.nil 3
            have hl2 := (hS.at_ 0 rfl).len1
            have hS := (hS.at_ 0 rfl).reN hl2
            have hS : Sep w0 B w (own 3 (.slice none (([] : List Int).length) 0) (vI ([] : List Int)) :: blk g1 98 #[.int .i64 c1, .int .i64 c2, .int .i64 c3, .int .i64 c4, .int .i64 c5] :: blk g2 101 (List.toArray (([] : List Value) ++ (arr1 (Value.int .i64) (0 : Int) 2 (List.replicate 2 (0 : Int)) ++ ([.int .i64 0, .int .i64 0] : List Value)))) :: blk g3 101 (List.toArray (([] : List Value) ++ (arr1 (Value.int .i64) (0 : Int) 2 x1 ++ ([.int .i64 x2, .int .i64 x3] : List Value)))) :: own 3 (.slice A2 left1.length c7) (vI left1) :: fs) := hS
            have hld0 := run_loadVarA (P := Try.prog) (t := 101) (cs := (List.toArray (([] : List Value) ++ (arr1 (Value.int .i64) (0 : Int) 2 (List.replicate 2 (0 : Int)) ++ ([.int .i64 0, .int .i64 0] : List Value))))) (by kernel_rfl) (by kernel_rfl) ((hS.at_ 2 rfl).cellsAt 0 (by rfl))
            have hS := hS.pickN 5 [0] (by decide)
            have hm : some ((List.replicate 2 (0 : Int)), 0, 0, ([] : List Int), 9) = some r := hm
            obtain rfl := Option.some.inj hm
            exact retV (rs := [.cell 4 101, .tmp 5, .tmp 6]) (vs := [.agg (List.toArray (([] : List Value) ++ (arr1 (Value.int .i64) (0 : Int) 2 (List.replicate 2 (0 : Int)) ++ ([.int .i64 0, .int .i64 0] : List Value)))), .slice none (([] : List Int).length) 0, .int .i64 9]) hF rfl (rv_c (by kernel_rfl) hld0 <| rv_t (by kernel_rfl) <| rv_t (by kernel_rfl) <| rv_nil) rfl ⟨_, rfl, none, 0, rfl, hS⟩
          · replace hm := if_f hm hb
            refine wp_skip ?_
            refine then_n ?_
            exact ⟨hF.weak [1, 2, 4, 7, 8, 9] (by kernel_rfl), hS, hm⟩
    · refine reg [] [] [1, 2, 4, 7, 8, 9, 25] [pl 1 (.slice A1 used1.length c6), pl 2 (.pointer (some ⟨g1, 0, none⟩)), pl 4 (.pointer (some ⟨g2, 0, none⟩)), pl 7 (.pointer (some ⟨g3, 0, none⟩)), pl 8 (.slice A2 left1.length c7), pl 9 (.int .i64 i1), pl 25 (.bool (decide (i1 < (used1.length : Int))))] hF hS Fol (by kernel_rfl) (by kernel_rfl) (by kernel_rfl) ?_ (fun a w hF hS => ?_)
      · exact obs_nil
      refine cond_ev (t := 25) (b := decide (i1 < (used1.length : Int))) hF (by kernel_rfl) (fun hb => ?_) (fun hb => ?_)
      · replace hm := if_t hm hb
        refine wp_skip ?_
        refine then_n ?_
        exact ⟨hF.weak [1, 2, 4, 7, 8, 9] (by kernel_rfl), hS, hm⟩
      · replace hm := if_f hm hb
        refine wp_exit ?_
        refine then_e (then_e (block_e (then_n ?_)))
        have hS := hS.pickN 4 [1, 2, 3] (by decide)
        rw [← hφ1] at hm
        replace hm := done_b hm
        unfold gameroomref_RunOf_K1 at hm
        try dsimp only at hm
        have hm : (gameroomref_RunOf_J1 x1 x2 x3 left1).bind some = some r := hm
        exact ⟨x1, x2, x3, left1, A2, c7, hF.weak [4, 7, 8] (by kernel_rfl), hS, hm⟩

noncomputable def gameroomlaw_sameInts_J4 (i1 : Int) : Option (St Int (Fl Unit Bool)) :=
  some (.next (w64 (i1 + 1)))

noncomputable def gameroomlaw_sameInts_J3 (a1 : List Int) (b1 : List Int) (i1 : Int) : Option (St Int (Fl Unit Bool)) :=
  asrt (0 ≤ i1 ∧ i1 < (a1.length : Int)) <| asrt (0 ≤ i1 ∧ i1 < (b1.length : Int)) <| if ((geti a1 i1) != (geti b1 i1)) then (some (.done (.ret false))) else ((gameroomlaw_sameInts_J4 i1))

noncomputable def gameroomlaw_sameInts_J2 : Option Bool :=
  some true

noncomputable def gameroomlaw_sameInts_K1 : (Fl Unit Bool) → Option Bool :=
  fun (x : (Fl Unit Bool)) => match x with | .go _ => gameroomlaw_sameInts_J2 | .ret x => some x

noncomputable def gameroomlaw_sameInts_L1 (a1 : List Int) (b1 : List Int) : Int → Option (St Int (Fl Unit Bool)) :=
  fun (x : Int) => match x with | i1 => if (decide (i1 < (a1.length : Int))) then ((gameroomlaw_sameInts_J3 a1 b1 i1)) else (some (.done (.go ())))

noncomputable def gameroomlaw_sameInts_J1 (a1 : List Int) (b1 : List Int) : Option Bool :=
  (loop (gameroomlaw_sameInts_L1 a1 b1) 0).bind gameroomlaw_sameInts_K1

noncomputable def gameroomlaw_sameInts_m (a1 : List Int) (b1 : List Int) : Option Bool :=
  if ((a1.length : Int) != (b1.length : Int)) then (some false) else ((gameroomlaw_sameInts_J1 a1 b1))

set_option maxRecDepth 100000 in
set_option maxHeartbeats 4000000 in
theorem gameroomlaw_sameInts_w {A1 : Option Addr} {c1 : Nat} {n1 : Nat} {a1 : List Int} {A2 : Option Addr} {c2 : Nat} {n2 : Nat} {b1 : List Int} {r : Bool} {w0 w : World} {B : Nat} {fs : List HP} (hm : gameroomlaw_sameInts_m a1 b1 = some r) (hS : Sep w0 B w (fs)) (hr_a1 : RdF w0 B fs A1 (vI a1)) (_hc_a1 : a1.length ≤ c1) (_hn_a1 : n1 = a1.length) (hr_b1 : RdF w0 B fs A2 (vI b1)) (_hc_b1 : b1.length ≤ c2) (_hn_b1 : n2 = b1.length) :
    Calls Try.prog 36 #[.slice A1 n1 c1, .slice A2 n2 c2] w fun e w' => e = .returned (.bool r) ∧ Sep w0 B w' (fs) := by
  obtain ⟨i3, hi3, hz3, hs3, hb3⟩ := info_parts Info3
  obtain rfl := _hn_a1
  obtain rfl := _hn_b1
  unfold gameroomlaw_sameInts_m at hm
  replace hm := start_b hm
  refine enter (l := [.slice A1 a1.length c1, .slice A2 b1.length c2]) (n := 26) Try.func36 rfl rfl (by simp) (fun a hF => ?_)
  refine reg [] [] [0, 1] [pl 0 (.slice A1 a1.length c1), pl 1 (.slice A2 b1.length c2)] hF hS Fol (by kernel_rfl) (by kernel_rfl) (by kernel_rfl) ?_ (fun a w hF hS => ?_)
  · exact obs_nil
  refine seq_cut (fun a w => Fr 26 [pl 0 (.slice A1 a1.length c1), pl 1 (.slice A2 b1.length c2)] a ∧ Sep w0 B w (fs) ∧ ((gameroomlaw_sameInts_J1 a1 b1)).bind some = some r) ?_ ?_
  · rintro a w ⟨hF, hS, hm⟩
    unfold gameroomlaw_sameInts_J1 at hm
    refine seq_cut (fun a w => Fr 26 [] a ∧ Sep w0 B w (fs) ∧ (gameroomlaw_sameInts_J2).bind some = some r) ?_ ?_
    · rintro a w ⟨hF, hS, hm⟩
      unfold gameroomlaw_sameInts_J2 at hm
      refine reg [] [] [4] [pl 4 (.bool true)] hF hS Fol (by kernel_rfl) (by kernel_rfl) (by kernel_rfl) ?_ (fun a w hF hS => ?_)
      · exact obs_nil
      refine wp_ret ?_
      have hm : some true = some r := hm
      obtain rfl := Option.some.inj hm
      exact retV (rs := [.tmp 4]) (vs := [.bool true]) hF rfl (rv_t (by kernel_rfl) <| rv_nil) rfl ⟨rfl, hS⟩
    · refine reg [] [] [0, 1, 5] [pl 0 (.slice A1 a1.length c1), pl 1 (.slice A2 b1.length c2), pl 5 (.int .i64 0)] hF hS Fol (by kernel_rfl) (by kernel_rfl) (by kernel_rfl) ?_ (fun a w hF hS => ?_)
      · exact obs_nil
      refine wp_block ?_
      refine wp_loop_model (S := Int) (R := (Fl Unit Bool)) (gameroomlaw_sameInts_L1 a1 b1) (fun x => (gameroomlaw_sameInts_K1 x).bind some) r (fun (x : Int) a w => Fr 26 [pl 0 (.slice A1 a1.length c1), pl 1 (.slice A2 b1.length c2), pl 5 (.int .i64 x)] a ∧ Sep w0 B w (fs)) (assoc_b hm) ⟨hF.weak [0, 1, 5] (by kernel_rfl), hS⟩ ?_
      clear hF hS hm
      rintro nn1 i1 a w ⟨hF, hS⟩ hm
      generalize hφ1 : stK (gameroomlaw_sameInts_L1 a1 b1) nn1 (fun x => (gameroomlaw_sameInts_K1 x).bind some) = φ1 at hm
      unfold gameroomlaw_sameInts_L1 at hm
      dsimp only at hm
      refine seq_cut (fun a w => Fr 26 [pl 0 (.slice A1 a1.length c1), pl 1 (.slice A2 b1.length c2), pl 5 (.int .i64 i1)] a ∧ Sep w0 B w (fs) ∧ ((gameroomlaw_sameInts_J3 a1 b1 i1)).bind φ1 = some r) ?_ ?_
      · rintro a w ⟨hF, hS, hm⟩
        unfold gameroomlaw_sameInts_J3 at hm
        refine seq_cut (fun a w => Fr 26 [pl 0 (.slice A1 a1.length c1), pl 1 (.slice A2 b1.length c2), pl 5 (.int .i64 i1)] a ∧ Sep w0 B w (fs) ∧ ((gameroomlaw_sameInts_J4 i1)).bind φ1 = some r) ?_ ?_
        · rintro a w ⟨hF, hS, hm⟩
          unfold gameroomlaw_sameInts_J4 at hm
          refine reg1 [] [] [0, 1, 5] [pl 0 (.slice A1 a1.length c1), pl 1 (.slice A2 b1.length c2), pl 5 (.int .i64 (w64 (i1 + 1)))] hF hS Fol (by kernel_rfl) (by kernel_rfl) (by kernel_rfl) ?_ (fun a w hF hS => ?_)
          · exact obs_nil
          refine then_n ?_
          rw [← hφ1] at hm
          exact ⟨(w64 (i1 + 1)), ⟨hF.weak [0, 1, 5] (by kernel_rfl), hS⟩, hm⟩
        · refine wp_block ?_
          obtain ⟨hp1, hm⟩ := asrt_b hm
          obtain ⟨hp2, hm⟩ := asrt_b hm
          refine reg [⟨true, [], vS (Instr.indexAt 40 (.slice A1 a1.length c1) (.int .i64 i1)), .pointer (some (sAddr A1 i1))⟩, ⟨false, [], vS (Instr.loadAt 3 (.pointer (some (sAddr A1 i1)))), .int .i64 (geti a1 i1)⟩, ⟨true, [], vS (Instr.indexAt 40 (.slice A2 b1.length c2) (.int .i64 i1)), .pointer (some (sAddr A2 i1))⟩, ⟨false, [], vS (Instr.loadAt 3 (.pointer (some (sAddr A2 i1)))), .int .i64 (geti b1 i1)⟩] [none, none, some (.pointer (some (sAddr A1 i1))), some (.int .i64 (geti a1 i1)), none, none, some (.pointer (some (sAddr A2 i1))), some (.int .i64 (geti b1 i1)), none] [0, 1, 5, 25] [pl 0 (.slice A1 a1.length c1), pl 1 (.slice A2 b1.length c2), pl 5 (.int .i64 i1), pl 25 (.bool ((geti a1 i1) != (geti b1 i1)))] hF hS Fol (by kernel_rfl) (by kernel_rfl) (by kernel_rfl) ?_ (fun a w hF hS => ?_)
          · exact obs_cons (ob_ix1 (f := (Value.int .i64)) (m := a1) Und40 hi3 hs3 (hr_a1 _ (hS.dropN 0)) rfl (fun _ => hp1)) <| obs_cons (ob_get1 (n := a1.length) (m := a1) (Value.int .i64) (0 : Int) Agg3 (fun _ hS => ⟨_, (hr_a1 _ (hS.dropN 0))⟩) (fun _ hS => rfl) (fun _ => hp1)) <| obs_cons (ob_ix1 (f := (Value.int .i64)) (m := b1) Und40 hi3 hs3 (hr_b1 _ (hS.dropN 0)) rfl (fun _ => hp2)) <| obs_cons (ob_get1 (n := b1.length) (m := b1) (Value.int .i64) (0 : Int) Agg3 (fun _ hS => ⟨_, (hr_b1 _ (hS.dropN 0))⟩) (fun _ hS => rfl) (fun _ => hp2)) <| obs_nil
          refine cond_ev (t := 25) (b := ((geti a1 i1) != (geti b1 i1))) hF (by kernel_rfl) (fun hb => ?_) (fun hb => ?_)
          · replace hm := if_t hm hb
            refine reg [] [] [4] [pl 4 (.bool false)] hF hS Fol (by kernel_rfl) (by kernel_rfl) (by kernel_rfl) ?_ (fun a w hF hS => ?_)
            · exact obs_nil
            refine wp_ret ?_
            refine block_r (then_r (then_r (block_r (then_r ?_))))
            rw [← hφ1] at hm
            replace hm := done_b hm
            unfold gameroomlaw_sameInts_K1 at hm
            try dsimp only at hm
            have hm : some false = some r := hm
            obtain rfl := Option.some.inj hm
            exact retV (rs := [.tmp 4]) (vs := [.bool false]) hF rfl (rv_t (by kernel_rfl) <| rv_nil) rfl ⟨rfl, hS⟩
          · replace hm := if_f hm hb
            refine wp_skip ?_
            refine block_n ?_
            refine then_n ?_
            exact ⟨hF.weak [0, 1, 5] (by kernel_rfl), hS, hm⟩
      · refine reg [] [] [0, 1, 5, 14] [pl 0 (.slice A1 a1.length c1), pl 1 (.slice A2 b1.length c2), pl 5 (.int .i64 i1), pl 14 (.bool (decide (i1 < (a1.length : Int))))] hF hS Fol (by kernel_rfl) (by kernel_rfl) (by kernel_rfl) ?_ (fun a w hF hS => ?_)
        · exact obs_nil
        refine cond_ev (t := 14) (b := decide (i1 < (a1.length : Int))) hF (by kernel_rfl) (fun hb => ?_) (fun hb => ?_)
        · replace hm := if_t hm hb
          refine wp_skip ?_
          refine then_n ?_
          exact ⟨hF.weak [0, 1, 5] (by kernel_rfl), hS, hm⟩
        · replace hm := if_f hm hb
          refine wp_exit ?_
          refine then_e (then_e (block_e (then_n ?_)))
          rw [← hφ1] at hm
          replace hm := done_b hm
          unfold gameroomlaw_sameInts_K1 at hm
          try dsimp only at hm
          have hm : (gameroomlaw_sameInts_J2).bind some = some r := hm
          exact ⟨hF.weak [] (by kernel_rfl), hS, hm⟩
  · refine reg [] [] [0, 1, 10] [pl 0 (.slice A1 a1.length c1), pl 1 (.slice A2 b1.length c2), pl 10 (.bool ((a1.length : Int) != (b1.length : Int)))] hF hS Fol (by kernel_rfl) (by kernel_rfl) (by kernel_rfl) ?_ (fun a w hF hS => ?_)
    · exact obs_nil
    refine cond_ev (t := 10) (b := ((a1.length : Int) != (b1.length : Int))) hF (by kernel_rfl) (fun hb => ?_) (fun hb => ?_)
    · replace hm := if_t hm hb
      refine reg [] [] [4] [pl 4 (.bool false)] hF hS Fol (by kernel_rfl) (by kernel_rfl) (by kernel_rfl) ?_ (fun a w hF hS => ?_)
      · exact obs_nil
      refine wp_ret ?_
      refine then_r ?_
      have hm : some false = some r := hm
      obtain rfl := Option.some.inj hm
      exact retV (rs := [.tmp 4]) (vs := [.bool false]) hF rfl (rv_t (by kernel_rfl) <| rv_nil) rfl ⟨rfl, hS⟩
    · replace hm := if_f hm hb
      refine wp_skip ?_
      refine then_n ?_
      exact ⟨hF.weak [0, 1] (by kernel_rfl), hS, hm⟩

noncomputable def gameroomref_PaceOf_J3 (i1 : Int) (n4 : Int) : Option (St (Int × Int) Int) :=
  some (.next (n4, (w64 (i1 + 1))))

noncomputable def gameroomref_PaceOf_J4 (c4 : Int) (c5 : Int) (i1 : Int) (n3 : Int) : Option (St (Int × Int) Int) :=
  asrt ((decide ((0 : Int) < c4)) = true → c4 ≠ (0 : Int)) <| if ((decide ((0 : Int) < c4)) && ((Int.tmod i1 c4) == 0)) then ((gameroomref_PaceOf_J3 i1) (w64 (n3 + c5))) else ((gameroomref_PaceOf_J3 i1) n3)

noncomputable def gameroomref_PaceOf_J2 (c2 : Int) (c3 : Int) (c4 : Int) (c5 : Int) (n1 : Int) (i1 : Int) : Option (St (Int × Int) Int) :=
  if (decide ((0 : Int) < c2)) then ((gameroomref_PaceOf_J4 c4 c5 i1) (w64 (n1 + c3))) else ((gameroomref_PaceOf_J4 c4 c5 i1) n1)

noncomputable def gameroomref_PaceOf_J1 (n2 : Int) : Option Int :=
  some n2

noncomputable def gameroomref_PaceOf_K1 : Int → Option Int :=
  fun (x : Int) => match x with | n2 => gameroomref_PaceOf_J1 n2

noncomputable def gameroomref_PaceOf_L1 (c2 : Int) (c3 : Int) (c4 : Int) (c5 : Int) (moves1 : Int) : (Int × Int) → Option (St (Int × Int) Int) :=
  fun (x : (Int × Int)) => match x with | (n1, i1) => if (decide (i1 ≤ moves1)) then ((gameroomref_PaceOf_J2 c2 c3 c4 c5 n1 i1)) else (some (.done n1))

noncomputable def gameroomref_PaceOf_m (c1 : Int) (c2 : Int) (c3 : Int) (c4 : Int) (c5 : Int) (moves1 : Int) : Option Int :=
  (loop (gameroomref_PaceOf_L1 c2 c3 c4 c5 moves1) (c1, 1)).bind gameroomref_PaceOf_K1

set_option maxRecDepth 100000 in
set_option maxHeartbeats 4000000 in
theorem gameroomref_PaceOf_w {c1 : Int} {c2 : Int} {c3 : Int} {c4 : Int} {c5 : Int} {moves1 : Int} {r : Int} {w0 w : World} {B : Nat} {fs : List HP} (hm : gameroomref_PaceOf_m c1 c2 c3 c4 c5 moves1 = some r) (hS : Sep w0 B w (fs)) :
    Calls Try.prog 72 #[.agg #[.int .i64 c1, .int .i64 c2, .int .i64 c3, .int .i64 c4, .int .i64 c5], .int .i64 moves1] w fun e w' => e = .returned (.int .i64 r) ∧ Sep w0 B w' (fs) := by
  unfold gameroomref_PaceOf_m at hm
  replace hm := start_b hm
  refine enter (l := [.agg #[.int .i64 c1, .int .i64 c2, .int .i64 c3, .int .i64 c4, .int .i64 c5], .int .i64 moves1]) (n := 36) Try.func72 rfl rfl (by simp) (fun a hF => ?_)
  refine seqR ?_
  refine at_do (d := 2) (s := vS (Instr.box 98 (.agg #[.int .i64 c1, .int .i64 c2, .int .i64 c3, .int .i64 c4, .int .i64 c5]))) (v := .pointer (some ⟨w.heap.size, 0, none⟩)) (w' := w.alloc (.cells #[.int .i64 c1, .int .i64 c2, .int .i64 c3, .int .i64 c4, .int .i64 c5] 98)) hF (by kernel_rfl) (by kernel_rfl) (by kernel_rfl) (fun a hF => ?_)
  have hS : Sep w0 B (w.alloc (.cells #[.int .i64 c1, .int .i64 c2, .int .i64 c3, .int .i64 c4, .int .i64 c5] 98)) (blk w.heap.size 98 #[.int .i64 c1, .int .i64 c2, .int .i64 c3, .int .i64 c4, .int .i64 c5] :: (fs)) := hS.box 98 #[.int .i64 c1, .int .i64 c2, .int .i64 c3, .int .i64 c4, .int .i64 c5]
  generalize w.heap.size = g1 at hF hS
  generalize w.alloc (.cells #[.int .i64 c1, .int .i64 c2, .int .i64 c3, .int .i64 c4, .int .i64 c5] 98) = w at hS ⊢
  refine at_run 1 [] [] [1, 2] [pl 1 (.int .i64 moves1), pl 2 (.pointer (some ⟨g1, 0, none⟩))] hF hS (by kernel_rfl) (by kernel_rfl) ?_ (fun a w hF hS => ?_)
  · exact obs_nil
  refine at_end [1, 2] [pl 1 (.int .i64 moves1), pl 2 (.pointer (some ⟨g1, 0, none⟩))] hF rfl (by kernel_rfl) (fun hF => ?_)
  refine then_n ?_
  refine reg [⟨false, [], vS (Instr.loadAt 3 (.pointer (some ⟨g1, 0, none⟩))), .int .i64 c1⟩] [none, some (.int .i64 c1), none] [1, 2, 5] [pl 1 (.int .i64 moves1), pl 2 (.pointer (some ⟨g1, 0, none⟩)), pl 5 (.int .i64 c1)] hF hS Fol (by kernel_rfl) (by kernel_rfl) (by kernel_rfl) ?_ (fun a w hF hS => ?_)
  · exact obs_cons (ob_load Agg3 (fun _ _ hS => (hS.at_ 0 rfl).cell rfl)) <| obs_nil
  refine seq_cut (fun a w => ∃ (n2 : Int), Fr 36 [pl 5 (.int .i64 n2)] a ∧ Sep w0 B w (fs) ∧ (gameroomref_PaceOf_J1 n2).bind some = some r) ?_ ?_
  · rintro a w ⟨n2, hF, hS, hm⟩
    unfold gameroomref_PaceOf_J1 at hm
    refine reg [] [] [4] [pl 4 (.int .i64 n2)] hF hS Fol (by kernel_rfl) (by kernel_rfl) (by kernel_rfl) ?_ (fun a w hF hS => ?_)
    · exact obs_nil
    refine wp_ret ?_
    have hm : some n2 = some r := hm
    obtain rfl := Option.some.inj hm
    exact retV (rs := [.tmp 4]) (vs := [.int .i64 n2]) hF rfl (rv_t (by kernel_rfl) <| rv_nil) rfl ⟨rfl, hS⟩
  · refine reg [] [] [1, 2, 5, 6] [pl 1 (.int .i64 moves1), pl 2 (.pointer (some ⟨g1, 0, none⟩)), pl 5 (.int .i64 c1), pl 6 (.int .i64 1)] hF hS Fol (by kernel_rfl) (by kernel_rfl) (by kernel_rfl) ?_ (fun a w hF hS => ?_)
    · exact obs_nil
    refine wp_block ?_
    refine wp_loop_model (S := (Int × Int)) (R := Int) (gameroomref_PaceOf_L1 c2 c3 c4 c5 moves1) (fun x => (gameroomref_PaceOf_K1 x).bind some) r (fun (x : (Int × Int)) a w => Fr 36 [pl 1 (.int .i64 moves1), pl 2 (.pointer (some ⟨g1, 0, none⟩)), pl 5 (.int .i64 x.1), pl 6 (.int .i64 x.2)] a ∧ Sep w0 B w (blk g1 98 #[.int .i64 c1, .int .i64 c2, .int .i64 c3, .int .i64 c4, .int .i64 c5] :: fs)) (assoc_b hm) ⟨hF.weak [1, 2, 5, 6] (by kernel_rfl), hS⟩ ?_
    clear hF hS hm
    rintro nn1 ⟨n1, i1⟩ a w ⟨hF, hS⟩ hm
    generalize hφ1 : stK (gameroomref_PaceOf_L1 c2 c3 c4 c5 moves1) nn1 (fun x => (gameroomref_PaceOf_K1 x).bind some) = φ1 at hm
    unfold gameroomref_PaceOf_L1 at hm
    dsimp only at hF hS hm
    refine seq_cut (fun a w => Fr 36 [pl 1 (.int .i64 moves1), pl 2 (.pointer (some ⟨g1, 0, none⟩)), pl 5 (.int .i64 n1), pl 6 (.int .i64 i1)] a ∧ Sep w0 B w (blk g1 98 #[.int .i64 c1, .int .i64 c2, .int .i64 c3, .int .i64 c4, .int .i64 c5] :: fs) ∧ ((gameroomref_PaceOf_J2 c2 c3 c4 c5 n1 i1)).bind φ1 = some r) ?_ ?_
    · rintro a w ⟨hF, hS, hm⟩
      unfold gameroomref_PaceOf_J2 at hm
      refine seq_cut (fun a w => ∃ (n4 : Int), Fr 36 [pl 1 (.int .i64 moves1), pl 2 (.pointer (some ⟨g1, 0, none⟩)), pl 5 (.int .i64 n4), pl 6 (.int .i64 i1)] a ∧ Sep w0 B w (blk g1 98 #[.int .i64 c1, .int .i64 c2, .int .i64 c3, .int .i64 c4, .int .i64 c5] :: fs) ∧ ((gameroomref_PaceOf_J3 i1) n4).bind φ1 = some r) ?_ ?_
      · rintro a w ⟨n4, hF, hS, hm⟩
        unfold gameroomref_PaceOf_J3 at hm
        refine reg1 [] [] [1, 2, 5, 6] [pl 1 (.int .i64 moves1), pl 2 (.pointer (some ⟨g1, 0, none⟩)), pl 5 (.int .i64 n4), pl 6 (.int .i64 (w64 (i1 + 1)))] hF hS Fol (by kernel_rfl) (by kernel_rfl) (by kernel_rfl) ?_ (fun a w hF hS => ?_)
        · exact obs_nil
        refine then_n ?_
        rw [← hφ1] at hm
        exact ⟨(n4, (w64 (i1 + 1))), ⟨hF.weak [1, 2, 5, 6] (by kernel_rfl), hS⟩, hm⟩
      · refine wp_block ?_
        refine seq_cut (fun a w => ∃ (n3 : Int), Fr 36 [pl 1 (.int .i64 moves1), pl 2 (.pointer (some ⟨g1, 0, none⟩)), pl 5 (.int .i64 n3), pl 6 (.int .i64 i1)] a ∧ Sep w0 B w (blk g1 98 #[.int .i64 c1, .int .i64 c2, .int .i64 c3, .int .i64 c4, .int .i64 c5] :: fs) ∧ ((gameroomref_PaceOf_J4 c4 c5 i1) n3).bind φ1 = some r) ?_ ?_
        · rintro a w ⟨n3, hF, hS, hm⟩
          unfold gameroomref_PaceOf_J4 at hm
          obtain ⟨hp1, hm⟩ := asrt_b hm
          refine reg [⟨false, [], vS (Instr.loadAt 3 (.pointer (some ⟨g1, 3, none⟩))), .int .i64 c4⟩, ⟨false, [(decide ((0 : Int) < c4), true)], vS (Instr.loadAt 3 (.pointer (some ⟨g1, 3, none⟩))), .int .i64 c4⟩, ⟨true, [(decide ((0 : Int) < c4), true)], vS (Op.intDiv .rem .i64 i1 c4), .int .i64 (Int.tmod i1 c4)⟩] [none, some (.int .i64 c4), none, none, none, none, some (.int .i64 c4), some (.int .i64 (Int.tmod i1 c4)), none, none] [1, 2, 5, 6, 30] [pl 1 (.int .i64 moves1), pl 2 (.pointer (some ⟨g1, 0, none⟩)), pl 5 (.int .i64 n3), pl 6 (.int .i64 i1), pl 30 (.bool ((decide ((0 : Int) < c4)) && ((Int.tmod i1 c4) == 0)))] hF hS Fol (by kernel_rfl) (by kernel_rfl) (by kernel_rfl) ?_ (fun a w hF hS => ?_)
          · exact obs_cons (ob_load Agg3 (fun _ _ hS => (hS.at_ 0 rfl).cell rfl)) <| obs_cons (ob_load Agg3 (fun _ _ hS => (hS.at_ 0 rfl).cell rfl)) <| obs_cons (ob_rem rfl (fun hy => hp1 (hy (decide ((0 : Int) < c4), true) (by simp)))) <| obs_nil
          refine cond_ev (t := 30) (b := (decide ((0 : Int) < c4)) && ((Int.tmod i1 c4) == 0)) hF (by kernel_rfl) (fun hb => ?_) (fun hb => ?_)
          · replace hm := if_t hm hb
            refine reg1 [⟨false, [], vS (Instr.loadAt 3 (.pointer (some ⟨g1, 4, none⟩))), .int .i64 c5⟩] [none, none, some (.int .i64 c5), none, none] [1, 2, 5, 6] [pl 1 (.int .i64 moves1), pl 2 (.pointer (some ⟨g1, 0, none⟩)), pl 5 (.int .i64 (w64 (n3 + c5))), pl 6 (.int .i64 i1)] hF hS Fol (by kernel_rfl) (by kernel_rfl) (by kernel_rfl) ?_ (fun a w hF hS => ?_)
            · exact obs_cons (ob_load Agg3 (fun _ _ hS => (hS.at_ 0 rfl).cell rfl)) <| obs_nil
            refine block_n ?_
            refine then_n ?_
            exact ⟨(w64 (n3 + c5)), hF.weak [1, 2, 5, 6] (by kernel_rfl), hS, hm⟩
          · replace hm := if_f hm hb
            refine wp_skip ?_
            refine block_n ?_
            refine then_n ?_
            exact ⟨n3, hF.weak [1, 2, 5, 6] (by kernel_rfl), hS, hm⟩
        · refine reg [⟨false, [], vS (Instr.loadAt 3 (.pointer (some ⟨g1, 1, none⟩))), .int .i64 c2⟩] [none, some (.int .i64 c2), none] [1, 2, 5, 6, 16] [pl 1 (.int .i64 moves1), pl 2 (.pointer (some ⟨g1, 0, none⟩)), pl 5 (.int .i64 n1), pl 6 (.int .i64 i1), pl 16 (.bool (decide ((0 : Int) < c2)))] hF hS Fol (by kernel_rfl) (by kernel_rfl) (by kernel_rfl) ?_ (fun a w hF hS => ?_)
          · exact obs_cons (ob_load Agg3 (fun _ _ hS => (hS.at_ 0 rfl).cell rfl)) <| obs_nil
          refine cond_ev (t := 16) (b := decide ((0 : Int) < c2)) hF (by kernel_rfl) (fun hb => ?_) (fun hb => ?_)
          · replace hm := if_t hm hb
            refine reg1 [⟨false, [], vS (Instr.loadAt 3 (.pointer (some ⟨g1, 2, none⟩))), .int .i64 c3⟩] [none, none, some (.int .i64 c3), none, none] [1, 2, 5, 6] [pl 1 (.int .i64 moves1), pl 2 (.pointer (some ⟨g1, 0, none⟩)), pl 5 (.int .i64 (w64 (n1 + c3))), pl 6 (.int .i64 i1)] hF hS Fol (by kernel_rfl) (by kernel_rfl) (by kernel_rfl) ?_ (fun a w hF hS => ?_)
            · exact obs_cons (ob_load Agg3 (fun _ _ hS => (hS.at_ 0 rfl).cell rfl)) <| obs_nil
            refine then_n ?_
            exact ⟨(w64 (n1 + c3)), hF.weak [1, 2, 5, 6] (by kernel_rfl), hS, hm⟩
          · replace hm := if_f hm hb
            refine wp_skip ?_
            refine then_n ?_
            exact ⟨n1, hF.weak [1, 2, 5, 6] (by kernel_rfl), hS, hm⟩
    · refine reg [] [] [1, 2, 5, 6, 11] [pl 1 (.int .i64 moves1), pl 2 (.pointer (some ⟨g1, 0, none⟩)), pl 5 (.int .i64 n1), pl 6 (.int .i64 i1), pl 11 (.bool (decide (i1 ≤ moves1)))] hF hS Fol (by kernel_rfl) (by kernel_rfl) (by kernel_rfl) ?_ (fun a w hF hS => ?_)
      · exact obs_nil
      refine cond_ev (t := 11) (b := decide (i1 ≤ moves1)) hF (by kernel_rfl) (fun hb => ?_) (fun hb => ?_)
      · replace hm := if_t hm hb
        refine wp_skip ?_
        refine then_n ?_
        exact ⟨hF.weak [1, 2, 5, 6] (by kernel_rfl), hS, hm⟩
      · replace hm := if_f hm hb
        refine wp_exit ?_
        refine then_e (then_e (block_e (then_n ?_)))
        have hS := hS.pickN 1 [] (by decide)
        rw [← hφ1] at hm
        replace hm := done_b hm
        unfold gameroomref_PaceOf_K1 at hm
        try dsimp only at hm
        have hm : (gameroomref_PaceOf_J1 n1).bind some = some r := hm
        exact ⟨n1, hF.weak [5] (by kernel_rfl), hS, hm⟩

noncomputable def gameroomlaw_ClockRuns_J5 (c1 : Int) (c2 : Int) (c3 : Int) (c4 : Int) (c5 : Int) (used1 : List Int) (x1 : List Int) (x2 : Int) (x3 : Int) (e1 : Int) (l1 : List Int) (f1 : Int) : Option Bool :=
  (gameroomref_RunOf_m c1 c2 c3 c4 c5 used1).bind fun r9 => ((if (((e1 == r9.2.2.2.2) && (f1 == r9.2.2.2.2)) && ((((geti x1 0) == (geti r9.1 0)) && ((geti x1 1) == (geti r9.1 1))) && ((x2 == r9.2.1) && (x3 == r9.2.2.1)))) then gameroomlaw_sameInts_m l1 r9.2.2.2.1 else some false)).bind fun r10 => some ((((e1 == r9.2.2.2.2) && (f1 == r9.2.2.2.2)) && ((((geti x1 0) == (geti r9.1 0)) && ((geti x1 1) == (geti r9.1 1))) && ((x2 == r9.2.1) && (x3 == r9.2.2.1)))) && r10)

noncomputable def gameroomlaw_ClockRuns_J4 (c1 : Int) (c2 : Int) (c3 : Int) (c4 : Int) (c5 : Int) (used1 : List Int) (x1 : List Int) (x2 : Int) (x3 : Int) (e1 : Int) (l1 : List Int) (f1 : Int) : Option Bool :=
  (gameroomref_UsedMay_m c1 c2 c3 c4 c5 used1).bind fun r8 => if (r8 != 0) then (some ((((e1 == r8) && (f1 == r8)) && ((((geti x1 0) == (geti (List.replicate 2 (0 : Int)) 0)) && ((geti x1 1) == (geti (List.replicate 2 (0 : Int)) 1))) && ((x2 == 0) && (x3 == 0)))) && ((l1.length : Int) == 0))) else ((gameroomlaw_ClockRuns_J5 c1 c2 c3 c4 c5 used1 x1 x2 x3 e1 l1 f1))

noncomputable def gameroomlaw_ClockRuns_J3 (c1 : Int) (c2 : Int) (c3 : Int) (c4 : Int) (c5 : Int) (used1 : List Int) (n2 : Int) (x1 : List Int) (x2 : Int) (x3 : Int) (e1 : Int) (l1 : List Int) (f1 : Int) (r5 : (Int × Int)) (no1 : Int) : Option Bool :=
  if (no1 != 0) then (if ((r5.2 != no1) || (r5.1 != 0)) then (some false) else ((gameroomlaw_ClockRuns_J4 c1 c2 c3 c4 c5 used1 x1 x2 x3 e1 l1 f1))) else (((if (!(r5.2 != 0)) then gameroomref_PaceOf_m c1 c2 c3 c4 c5 n2 else some 0)).bind fun r7 => if ((r5.2 != 0) || (r5.1 != r7)) then (some false) else ((gameroomlaw_ClockRuns_J4 c1 c2 c3 c4 c5 used1 x1 x2 x3 e1 l1 f1)))

noncomputable def gameroomlaw_ClockRuns_J2 (c1 : Int) (c2 : Int) (c3 : Int) (c4 : Int) (c5 : Int) (used1 : List Int) (n2 : Int) (x1 : List Int) (x2 : Int) (x3 : Int) (e1 : Int) (l1 : List Int) (f1 : Int) : Option Bool :=
  (clock_Pace_m c1 c2 c3 c4 c5 n2).bind fun r5 => (gameroomref_ControlMay_m c1 c2 c3 c4 c5).bind fun r6 => if ((r6 == 0) && ((decide (n2 < 0)) || (decide ((200 : Int) < n2)))) then ((gameroomlaw_ClockRuns_J3 c1 c2 c3 c4 c5 used1 n2 x1 x2 x3 e1 l1 f1 r5) 11) else ((gameroomlaw_ClockRuns_J3 c1 c2 c3 c4 c5 used1 n2 x1 x2 x3 e1 l1 f1 r5) r6)

noncomputable def gameroomlaw_ClockRuns_J1 (c1 : Int) (c2 : Int) (c3 : Int) (c4 : Int) (c5 : Int) (used1 : List Int) (n2 : Int) (x1 : List Int) (x2 : Int) (x3 : Int) (e1 : Int) : Option Bool :=
  (gameroomlaw_ints_m used1).bind fun r3 => (clock_Left_m c1 c2 c3 c4 c5 r3).bind fun r4 => (gameroomlaw_ClockRuns_J2 c1 c2 c3 c4 c5 used1 n2 x1 x2 x3 e1) r4.1 r4.2

noncomputable def gameroomlaw_ClockRuns_m (c1 : Int) (c2 : Int) (c3 : Int) (c4 : Int) (c5 : Int) (used1 : List Int) (n2 : Int) : Option Bool :=
  (gameroomlaw_ints_m used1).bind fun r1 => (clock_Run_m c1 c2 c3 c4 c5 r1).bind fun r2 => (gameroomlaw_ClockRuns_J1 c1 c2 c3 c4 c5 used1 n2) r2.1 r2.2.1 r2.2.2.1 r2.2.2.2

set_option maxRecDepth 100000 in
set_option maxHeartbeats 4000000 in
theorem gameroomlaw_ClockRuns_w {c1 : Int} {c2 : Int} {c3 : Int} {c4 : Int} {c5 : Int} {A1 : Option Addr} {c6 : Nat} {n1 : Nat} {used1 : List Int} {n2 : Int} {r : Bool} {w0 w : World} {B : Nat} {fs : List HP} (hm : gameroomlaw_ClockRuns_m c1 c2 c3 c4 c5 used1 n2 = some r) (hS : Sep w0 B w (fs)) (hr_used1 : RdF w0 B fs A1 (vI used1)) (_hc_used1 : used1.length ≤ c6) (_hn_used1 : n1 = used1.length) :
    Calls Try.prog 13 #[.agg #[.int .i64 c1, .int .i64 c2, .int .i64 c3, .int .i64 c4, .int .i64 c5], .slice A1 n1 c6, .int .i64 n2] w fun e w' => e = .returned (.bool r) ∧ Sep w0 B w' (fs) := by
  obtain ⟨i3, hi3, hz3, hs3, hb3⟩ := info_parts Info3
  obtain rfl := _hn_used1
  unfold gameroomlaw_ClockRuns_m at hm
  replace hm := start_b hm
  refine enter (l := [.agg #[.int .i64 c1, .int .i64 c2, .int .i64 c3, .int .i64 c4, .int .i64 c5], .slice A1 used1.length c6, .int .i64 n2]) (n := 116) Try.func13 rfl rfl (by simp) (fun a hF => ?_)
  refine seqR ?_
  refine at_do (d := 3) (s := vS (Instr.box 98 (.agg #[.int .i64 c1, .int .i64 c2, .int .i64 c3, .int .i64 c4, .int .i64 c5]))) (v := .pointer (some ⟨w.heap.size, 0, none⟩)) (w' := w.alloc (.cells #[.int .i64 c1, .int .i64 c2, .int .i64 c3, .int .i64 c4, .int .i64 c5] 98)) hF (by kernel_rfl) (by kernel_rfl) (by kernel_rfl) (fun a hF => ?_)
  have hS : Sep w0 B (w.alloc (.cells #[.int .i64 c1, .int .i64 c2, .int .i64 c3, .int .i64 c4, .int .i64 c5] 98)) (blk w.heap.size 98 #[.int .i64 c1, .int .i64 c2, .int .i64 c3, .int .i64 c4, .int .i64 c5] :: (fs)) := hS.box 98 #[.int .i64 c1, .int .i64 c2, .int .i64 c3, .int .i64 c4, .int .i64 c5]
  generalize w.heap.size = g1 at hF hS
  generalize w.alloc (.cells #[.int .i64 c1, .int .i64 c2, .int .i64 c3, .int .i64 c4, .int .i64 c5] 98) = w at hS ⊢
  refine at_run 1 [] [] [1, 2, 3] [pl 1 (.slice A1 used1.length c6), pl 2 (.int .i64 n2), pl 3 (.pointer (some ⟨g1, 0, none⟩))] hF hS (by kernel_rfl) (by kernel_rfl) ?_ (fun a w hF hS => ?_)
  · exact obs_nil
  refine at_end [1, 2, 3] [pl 1 (.slice A1 used1.length c6), pl 2 (.int .i64 n2), pl 3 (.pointer (some ⟨g1, 0, none⟩))] hF rfl (by kernel_rfl) (fun hF => ?_)
  refine then_n ?_
  refine seq_cut (fun a w => ∃ (x1 : List Int) (x2 : Int) (x3 : Int) (e1 : Int) (g3 : Nat), Fr 116 [pl 1 (.slice A1 used1.length c6), pl 2 (.int .i64 n2), pl 3 (.pointer (some ⟨g1, 0, none⟩)), pl 7 (.pointer (some ⟨g3, 0, none⟩)), pl 8 (.int .i64 e1)] a ∧ Sep w0 B w (blk g1 98 #[.int .i64 c1, .int .i64 c2, .int .i64 c3, .int .i64 c4, .int .i64 c5] :: blk g3 101 (List.toArray (([] : List Value) ++ (arr1 (Value.int .i64) (0 : Int) 2 x1 ++ ([.int .i64 x2, .int .i64 x3] : List Value)))) :: fs) ∧ ((gameroomlaw_ClockRuns_J1 c1 c2 c3 c4 c5 used1 n2) x1 x2 x3 e1).bind some = some r) ?_ ?_
  · rintro a w ⟨x1, x2, x3, e1, g3, hF, hS, hm⟩
    unfold gameroomlaw_ClockRuns_J1 at hm
    refine seq_cut (fun a w => ∃ (l1 : List Int) (f1 : Int) (A9 : Option Addr) (c14 : Nat), Fr 116 [pl 1 (.slice A1 used1.length c6), pl 2 (.int .i64 n2), pl 3 (.pointer (some ⟨g1, 0, none⟩)), pl 7 (.pointer (some ⟨g3, 0, none⟩)), pl 8 (.int .i64 e1), pl 9 (.slice A9 l1.length c14), pl 10 (.int .i64 f1)] a ∧ Sep w0 B w (blk g1 98 #[.int .i64 c1, .int .i64 c2, .int .i64 c3, .int .i64 c4, .int .i64 c5] :: blk g3 101 (List.toArray (([] : List Value) ++ (arr1 (Value.int .i64) (0 : Int) 2 x1 ++ ([.int .i64 x2, .int .i64 x3] : List Value)))) :: own 3 (.slice A9 l1.length c14) (vI l1) :: fs) ∧ ((gameroomlaw_ClockRuns_J2 c1 c2 c3 c4 c5 used1 n2 x1 x2 x3 e1) l1 f1).bind some = some r) ?_ ?_
    · rintro a w ⟨l1, f1, A9, c14, hF, hS, hm⟩
      unfold gameroomlaw_ClockRuns_J2 at hm
      obtain ⟨r5, hr5, hm⟩ := call_b hm
      refine reg [⟨false, [], vS (Instr.loadAt 98 (.pointer (some ⟨g1, 0, none⟩))), .agg #[.int .i64 c1, .int .i64 c2, .int .i64 c3, .int .i64 c4, .int .i64 c5]⟩, ⟨false, [], callFunc 70 #[.agg #[.int .i64 c1, .int .i64 c2, .int .i64 c3, .int .i64 c4, .int .i64 c5], .int .i64 n2], .tuple #[.int .i64 r5.1, .int .i64 r5.2]⟩] [some (.agg #[.int .i64 c1, .int .i64 c2, .int .i64 c3, .int .i64 c4, .int .i64 c5]), none, some (.tuple #[.int .i64 r5.1, .int .i64 r5.2]), none, none, none, none, none] [1, 2, 3, 7, 8, 9, 10, 11, 12] [pl 1 (.slice A1 used1.length c6), pl 2 (.int .i64 n2), pl 3 (.pointer (some ⟨g1, 0, none⟩)), pl 7 (.pointer (some ⟨g3, 0, none⟩)), pl 8 (.int .i64 e1), pl 9 (.slice A9 l1.length c14), pl 10 (.int .i64 f1), pl 11 (.int .i64 r5.1), pl 12 (.int .i64 r5.2)] hF hS Fol (by kernel_rfl) (by kernel_rfl) (by kernel_rfl) ?_ (fun a w hF hS => ?_)
      · exact obs_cons (ob_loadA (cs := #[.int .i64 c1, .int .i64 c2, .int .i64 c3, .int .i64 c4, .int .i64 c5]) (by kernel_rfl) (by kernel_rfl) (fun _ _ hS => (hS.at_ 0 rfl).cellsAt 0 (by rfl))) <| obs_cons (ob_call Try.func70 (by kernel_rfl) rfl (fun _ _ hS => clock_Pace_w hr5 hS )) <| obs_nil
      obtain ⟨r6, hr6, hm⟩ := call_b hm
      refine reg [⟨false, [], vS (Instr.loadAt 98 (.pointer (some ⟨g1, 0, none⟩))), .agg #[.int .i64 c1, .int .i64 c2, .int .i64 c3, .int .i64 c4, .int .i64 c5]⟩, ⟨false, [], callFunc 71 #[.agg #[.int .i64 c1, .int .i64 c2, .int .i64 c3, .int .i64 c4, .int .i64 c5]], .int .i64 r6⟩] [some (.agg #[.int .i64 c1, .int .i64 c2, .int .i64 c3, .int .i64 c4, .int .i64 c5]), some (.int .i64 r6), none] [1, 2, 3, 7, 8, 9, 10, 11, 12, 13] [pl 1 (.slice A1 used1.length c6), pl 2 (.int .i64 n2), pl 3 (.pointer (some ⟨g1, 0, none⟩)), pl 7 (.pointer (some ⟨g3, 0, none⟩)), pl 8 (.int .i64 e1), pl 9 (.slice A9 l1.length c14), pl 10 (.int .i64 f1), pl 11 (.int .i64 r5.1), pl 12 (.int .i64 r5.2), pl 13 (.int .i64 r6)] hF hS Fol (by kernel_rfl) (by kernel_rfl) (by kernel_rfl) ?_ (fun a w hF hS => ?_)
      · exact obs_cons (ob_loadA (cs := #[.int .i64 c1, .int .i64 c2, .int .i64 c3, .int .i64 c4, .int .i64 c5]) (by kernel_rfl) (by kernel_rfl) (fun _ _ hS => (hS.at_ 0 rfl).cellsAt 0 (by rfl))) <| obs_cons (ob_call Try.func71 (by kernel_rfl) rfl (fun _ _ hS => gameroomref_ControlMay_w hr6 hS )) <| obs_nil
      refine seq_cut (fun a w => ∃ (no1 : Int), Fr 116 [pl 1 (.slice A1 used1.length c6), pl 2 (.int .i64 n2), pl 3 (.pointer (some ⟨g1, 0, none⟩)), pl 7 (.pointer (some ⟨g3, 0, none⟩)), pl 8 (.int .i64 e1), pl 9 (.slice A9 l1.length c14), pl 10 (.int .i64 f1), pl 11 (.int .i64 r5.1), pl 12 (.int .i64 r5.2), pl 13 (.int .i64 no1)] a ∧ Sep w0 B w (blk g1 98 #[.int .i64 c1, .int .i64 c2, .int .i64 c3, .int .i64 c4, .int .i64 c5] :: blk g3 101 (List.toArray (([] : List Value) ++ (arr1 (Value.int .i64) (0 : Int) 2 x1 ++ ([.int .i64 x2, .int .i64 x3] : List Value)))) :: own 3 (.slice A9 l1.length c14) (vI l1) :: fs) ∧ ((gameroomlaw_ClockRuns_J3 c1 c2 c3 c4 c5 used1 n2 x1 x2 x3 e1 l1 f1 r5) no1).bind some = some r) ?_ ?_
      · rintro a w ⟨no1, hF, hS, hm⟩
        unfold gameroomlaw_ClockRuns_J3 at hm
        refine seq_cut (fun a w => Fr 116 [pl 1 (.slice A1 used1.length c6), pl 3 (.pointer (some ⟨g1, 0, none⟩)), pl 7 (.pointer (some ⟨g3, 0, none⟩)), pl 8 (.int .i64 e1), pl 9 (.slice A9 l1.length c14), pl 10 (.int .i64 f1)] a ∧ Sep w0 B w (blk g1 98 #[.int .i64 c1, .int .i64 c2, .int .i64 c3, .int .i64 c4, .int .i64 c5] :: blk g3 101 (List.toArray (([] : List Value) ++ (arr1 (Value.int .i64) (0 : Int) 2 x1 ++ ([.int .i64 x2, .int .i64 x3] : List Value)))) :: own 3 (.slice A9 l1.length c14) (vI l1) :: fs) ∧ ((gameroomlaw_ClockRuns_J4 c1 c2 c3 c4 c5 used1 x1 x2 x3 e1 l1 f1)).bind some = some r) ?_ ?_
        · rintro a w ⟨hF, hS, hm⟩
          unfold gameroomlaw_ClockRuns_J4 at hm
          obtain ⟨r8, hr8, hm⟩ := call_b hm
          refine reg [⟨false, [], vS (Instr.loadAt 98 (.pointer (some ⟨g1, 0, none⟩))), .agg #[.int .i64 c1, .int .i64 c2, .int .i64 c3, .int .i64 c4, .int .i64 c5]⟩, ⟨false, [], callFunc 73 #[.agg #[.int .i64 c1, .int .i64 c2, .int .i64 c3, .int .i64 c4, .int .i64 c5], .slice A1 used1.length c6], .int .i64 r8⟩] [some (.agg #[.int .i64 c1, .int .i64 c2, .int .i64 c3, .int .i64 c4, .int .i64 c5]), none, some (.int .i64 r8), none] [1, 3, 7, 8, 9, 10, 13] [pl 1 (.slice A1 used1.length c6), pl 3 (.pointer (some ⟨g1, 0, none⟩)), pl 7 (.pointer (some ⟨g3, 0, none⟩)), pl 8 (.int .i64 e1), pl 9 (.slice A9 l1.length c14), pl 10 (.int .i64 f1), pl 13 (.int .i64 r8)] hF hS Fol (by kernel_rfl) (by kernel_rfl) (by kernel_rfl) ?_ (fun a w hF hS => ?_)
          · exact obs_cons (ob_loadA (cs := #[.int .i64 c1, .int .i64 c2, .int .i64 c3, .int .i64 c4, .int .i64 c5]) (by kernel_rfl) (by kernel_rfl) (fun _ _ hS => (hS.at_ 0 rfl).cellsAt 0 (by rfl))) <| obs_cons (ob_call Try.func73 (by kernel_rfl) rfl (fun _ _ hS => gameroomref_UsedMay_w hr8 hS (fun _ hS => (hr_used1 _ (hS.dropN 3))) _hc_used1 rfl)) <| obs_nil
          refine seqR ?_
          refine at_do (d := 14) (s := vS (Instr.alloc 101 true (.tuple #[]))) (v := .pointer (some ⟨w.heap.size, 0, none⟩)) (w' := w.alloc (.cells (List.toArray (([] : List Value) ++ (arr1 (Value.int .i64) (0 : Int) 2 (List.replicate 2 (0 : Int)) ++ ([.int .i64 0, .int .i64 0] : List Value)))) 101)) hF (by kernel_rfl) (by kernel_rfl) (by kernel_rfl) (fun a hF => ?_)
          have hS : Sep w0 B (w.alloc (.cells (List.toArray (([] : List Value) ++ (arr1 (Value.int .i64) (0 : Int) 2 (List.replicate 2 (0 : Int)) ++ ([.int .i64 0, .int .i64 0] : List Value)))) 101)) (blk w.heap.size 101 (List.toArray (([] : List Value) ++ (arr1 (Value.int .i64) (0 : Int) 2 (List.replicate 2 (0 : Int)) ++ ([.int .i64 0, .int .i64 0] : List Value)))) :: (blk g1 98 #[.int .i64 c1, .int .i64 c2, .int .i64 c3, .int .i64 c4, .int .i64 c5] :: blk g3 101 (List.toArray (([] : List Value) ++ (arr1 (Value.int .i64) (0 : Int) 2 x1 ++ ([.int .i64 x2, .int .i64 x3] : List Value)))) :: own 3 (.slice A9 l1.length c14) (vI l1) :: fs)) := hS.box 101 (List.toArray (([] : List Value) ++ (arr1 (Value.int .i64) (0 : Int) 2 (List.replicate 2 (0 : Int)) ++ ([.int .i64 0, .int .i64 0] : List Value))))
          generalize w.heap.size = g4 at hF hS
          generalize w.alloc (.cells (List.toArray (([] : List Value) ++ (arr1 (Value.int .i64) (0 : Int) 2 (List.replicate 2 (0 : Int)) ++ ([.int .i64 0, .int .i64 0] : List Value)))) 101) = w at hS ⊢
          refine at_end [1, 3, 7, 8, 9, 10, 13, 14] [pl 1 (.slice A1 used1.length c6), pl 3 (.pointer (some ⟨g1, 0, none⟩)), pl 7 (.pointer (some ⟨g3, 0, none⟩)), pl 8 (.int .i64 e1), pl 9 (.slice A9 l1.length c14), pl 10 (.int .i64 f1), pl 13 (.int .i64 r8), pl 14 (.pointer (some ⟨g4, 0, none⟩))] hF rfl (by kernel_rfl) (fun hF => ?_)
          refine then_n ?_
          refine seq_cut (fun a w => Fr 116 [pl 1 (.slice A1 used1.length c6), pl 3 (.pointer (some ⟨g1, 0, none⟩)), pl 7 (.pointer (some ⟨g3, 0, none⟩)), pl 8 (.int .i64 e1), pl 9 (.slice A9 l1.length c14), pl 10 (.int .i64 f1)] a ∧ Sep w0 B w (blk g1 98 #[.int .i64 c1, .int .i64 c2, .int .i64 c3, .int .i64 c4, .int .i64 c5] :: blk g3 101 (List.toArray (([] : List Value) ++ (arr1 (Value.int .i64) (0 : Int) 2 x1 ++ ([.int .i64 x2, .int .i64 x3] : List Value)))) :: own 3 (.slice A9 l1.length c14) (vI l1) :: fs) ∧ ((gameroomlaw_ClockRuns_J5 c1 c2 c3 c4 c5 used1 x1 x2 x3 e1 l1 f1)).bind some = some r) ?_ ?_
          · rintro a w ⟨hF, hS, hm⟩
            unfold gameroomlaw_ClockRuns_J5 at hm
            refine seqR ?_
            obtain ⟨r9, hr9, hm⟩ := call_b hm
            refine at_run 2 [⟨false, [], vS (Instr.loadAt 98 (.pointer (some ⟨g1, 0, none⟩))), .agg #[.int .i64 c1, .int .i64 c2, .int .i64 c3, .int .i64 c4, .int .i64 c5]⟩] [some (.agg #[.int .i64 c1, .int .i64 c2, .int .i64 c3, .int .i64 c4, .int .i64 c5]), none] [7, 8, 9, 10, 92, 93] [pl 7 (.pointer (some ⟨g3, 0, none⟩)), pl 8 (.int .i64 e1), pl 9 (.slice A9 l1.length c14), pl 10 (.int .i64 f1), pl 92 (.agg #[.int .i64 c1, .int .i64 c2, .int .i64 c3, .int .i64 c4, .int .i64 c5]), pl 93 (.slice A1 used1.length c6)] hF hS (by kernel_rfl) (by kernel_rfl) ?_ (fun a w hF hS => ?_)
            · exact obs_cons (ob_loadA (cs := #[.int .i64 c1, .int .i64 c2, .int .i64 c3, .int .i64 c4, .int .i64 c5]) (by kernel_rfl) (by kernel_rfl) (fun _ _ hS => (hS.at_ 0 rfl).cellsAt 0 (by rfl))) <| obs_nil
            refine at_call (f := 74) (args := #[.agg #[.int .i64 c1, .int .i64 c2, .int .i64 c3, .int .i64 c4, .int .i64 c5], .slice A1 used1.length c6]) (d := 94) hF (by kernel_rfl) (by kernel_rfl) Try.func74 (by kernel_rfl) rfl (gameroomref_RunOf_w hr9 hS (fun _ hS => (hr_used1 _ (hS.dropN 3))) _hc_used1 rfl) (fun v a w hR hF => ?_)
            clear hS
            obtain ⟨A10, c15, rfl, hS⟩ := hR
            have hS : Sep w0 B w (own 3 (.slice A10 r9.2.2.2.1.length c15) (vI r9.2.2.2.1) :: blk g1 98 #[.int .i64 c1, .int .i64 c2, .int .i64 c3, .int .i64 c4, .int .i64 c5] :: blk g3 101 (List.toArray (([] : List Value) ++ (arr1 (Value.int .i64) (0 : Int) 2 x1 ++ ([.int .i64 x2, .int .i64 x3] : List Value)))) :: own 3 (.slice A9 l1.length c14) (vI l1) :: fs) := hS
            refine at_run 4 [] [] [7, 8, 9, 10, 95, 96, 97] [pl 7 (.pointer (some ⟨g3, 0, none⟩)), pl 8 (.int .i64 e1), pl 9 (.slice A9 l1.length c14), pl 10 (.int .i64 f1), pl 95 (.agg (List.toArray (([] : List Value) ++ (arr1 (Value.int .i64) (0 : Int) 2 r9.1 ++ ([.int .i64 r9.2.1, .int .i64 r9.2.2.1] : List Value))))), pl 96 (.slice A10 r9.2.2.2.1.length c15), pl 97 (.int .i64 r9.2.2.2.2)] hF hS (by kernel_rfl) (by kernel_rfl) ?_ (fun a w hF hS => ?_)
            · exact obs_nil
            refine at_do (d := 15) (s := vS (Instr.alloc 101 true (.tuple #[]))) (v := .pointer (some ⟨w.heap.size, 0, none⟩)) (w' := w.alloc (.cells (List.toArray (([] : List Value) ++ (arr1 (Value.int .i64) (0 : Int) 2 (List.replicate 2 (0 : Int)) ++ ([.int .i64 0, .int .i64 0] : List Value)))) 101)) hF (by kernel_rfl) (by kernel_rfl) (by kernel_rfl) (fun a hF => ?_)
            have hS : Sep w0 B (w.alloc (.cells (List.toArray (([] : List Value) ++ (arr1 (Value.int .i64) (0 : Int) 2 (List.replicate 2 (0 : Int)) ++ ([.int .i64 0, .int .i64 0] : List Value)))) 101)) (blk w.heap.size 101 (List.toArray (([] : List Value) ++ (arr1 (Value.int .i64) (0 : Int) 2 (List.replicate 2 (0 : Int)) ++ ([.int .i64 0, .int .i64 0] : List Value)))) :: (own 3 (.slice A10 r9.2.2.2.1.length c15) (vI r9.2.2.2.1) :: blk g1 98 #[.int .i64 c1, .int .i64 c2, .int .i64 c3, .int .i64 c4, .int .i64 c5] :: blk g3 101 (List.toArray (([] : List Value) ++ (arr1 (Value.int .i64) (0 : Int) 2 x1 ++ ([.int .i64 x2, .int .i64 x3] : List Value)))) :: own 3 (.slice A9 l1.length c14) (vI l1) :: fs)) := hS.box 101 (List.toArray (([] : List Value) ++ (arr1 (Value.int .i64) (0 : Int) 2 (List.replicate 2 (0 : Int)) ++ ([.int .i64 0, .int .i64 0] : List Value))))
            generalize w.heap.size = g5 at hF hS
            generalize w.alloc (.cells (List.toArray (([] : List Value) ++ (arr1 (Value.int .i64) (0 : Int) 2 (List.replicate 2 (0 : Int)) ++ ([.int .i64 0, .int .i64 0] : List Value)))) 101) = w at hS ⊢
            obtain ⟨w, hrun, hS⟩ := run_putA (P := Try.prog) (t := 101) (us := (List.toArray (([] : List Value) ++ (arr1 (Value.int .i64) (0 : Int) 2 r9.1 ++ ([.int .i64 r9.2.1, .int .i64 r9.2.2.1] : List Value))))) (o := 0) (hS.at_ 0 rfl) (by kernel_rfl) (all_one (by kernel_rfl)) (Nat.le_of_ble_eq_true (by kernel_rfl))
            refine at_skip hF (by kernel_rfl) hrun ?_
            have hS : Sep w0 B w (blk g5 101 (List.toArray (([] : List Value) ++ (arr1 (Value.int .i64) (0 : Int) 2 r9.1 ++ ([.int .i64 r9.2.1, .int .i64 r9.2.2.1] : List Value)))) :: own 3 (.slice A10 r9.2.2.2.1.length c15) (vI r9.2.2.2.1) :: blk g1 98 #[.int .i64 c1, .int .i64 c2, .int .i64 c3, .int .i64 c4, .int .i64 c5] :: blk g3 101 (List.toArray (([] : List Value) ++ (arr1 (Value.int .i64) (0 : Int) 2 x1 ++ ([.int .i64 x2, .int .i64 x3] : List Value)))) :: own 3 (.slice A9 l1.length c14) (vI l1) :: fs) := hS
            refine at_run 2 [] [] [7, 8, 9, 10, 15, 16, 17] [pl 7 (.pointer (some ⟨g3, 0, none⟩)), pl 8 (.int .i64 e1), pl 9 (.slice A9 l1.length c14), pl 10 (.int .i64 f1), pl 15 (.pointer (some ⟨g5, 0, none⟩)), pl 16 (.slice A10 r9.2.2.2.1.length c15), pl 17 (.int .i64 r9.2.2.2.2)] hF hS (by kernel_rfl) (by kernel_rfl) ?_ (fun a w hF hS => ?_)
            · exact obs_nil
            refine at_end [7, 8, 9, 10, 15, 16, 17] [pl 7 (.pointer (some ⟨g3, 0, none⟩)), pl 8 (.int .i64 e1), pl 9 (.slice A9 l1.length c14), pl 10 (.int .i64 f1), pl 15 (.pointer (some ⟨g5, 0, none⟩)), pl 16 (.slice A10 r9.2.2.2.1.length c15), pl 17 (.int .i64 r9.2.2.2.2)] hF rfl (by kernel_rfl) (fun hF => ?_)
            refine then_n ?_
            obtain ⟨r10, hr10, hm⟩ := call_b hm
            refine reg [⟨false, [((e1 == r9.2.2.2.2) && (f1 == r9.2.2.2.2), true)], vS (Instr.loadAt 101 (.pointer (some ⟨g3, 0, none⟩))), .agg (List.toArray (([] : List Value) ++ (arr1 (Value.int .i64) (0 : Int) 2 x1 ++ ([.int .i64 x2, .int .i64 x3] : List Value))))⟩, ⟨false, [((e1 == r9.2.2.2.2) && (f1 == r9.2.2.2.2), true)], vS (Instr.loadAt 101 (.pointer (some ⟨g5, 0, none⟩))), .agg (List.toArray (([] : List Value) ++ (arr1 (Value.int .i64) (0 : Int) 2 r9.1 ++ ([.int .i64 r9.2.1, .int .i64 r9.2.2.1] : List Value))))⟩, ⟨true, [((e1 == r9.2.2.2.2) && (f1 == r9.2.2.2.2), true)], vS (do eqGuard .eql 101 (.tmp 107) (.tmp 108) (.agg (List.toArray (([] : List Value) ++ (arr1 (Value.int .i64) (0 : Int) 2 x1 ++ ([.int .i64 x2, .int .i64 x3] : List Value))))) (.agg (List.toArray (([] : List Value) ++ (arr1 (Value.int .i64) (0 : Int) 2 r9.1 ++ ([.int .i64 r9.2.1, .int .i64 r9.2.2.1] : List Value))))); binOp .eql 101 (.agg (List.toArray (([] : List Value) ++ (arr1 (Value.int .i64) (0 : Int) 2 x1 ++ ([.int .i64 x2, .int .i64 x3] : List Value))))) (.agg (List.toArray (([] : List Value) ++ (arr1 (Value.int .i64) (0 : Int) 2 r9.1 ++ ([.int .i64 r9.2.1, .int .i64 r9.2.2.1] : List Value)))))), .bool (((((geti x1 0) == (geti r9.1 0)) && ((geti x1 1) == (geti r9.1 1))) && ((x2 == r9.2.1) && (x3 == r9.2.2.1))))⟩, ⟨false, [(((e1 == r9.2.2.2.2) && (f1 == r9.2.2.2.2)) && ((((geti x1 0) == (geti r9.1 0)) && ((geti x1 1) == (geti r9.1 1))) && ((x2 == r9.2.1) && (x3 == r9.2.2.1))), true)], callFunc 36 #[.slice A9 l1.length c14, .slice A10 r9.2.2.2.1.length c15], .bool r10⟩] [none, none, none, none, none, none, none, none, none, some (.agg (List.toArray (([] : List Value) ++ (arr1 (Value.int .i64) (0 : Int) 2 x1 ++ ([.int .i64 x2, .int .i64 x3] : List Value))))), some (.agg (List.toArray (([] : List Value) ++ (arr1 (Value.int .i64) (0 : Int) 2 r9.1 ++ ([.int .i64 r9.2.1, .int .i64 r9.2.2.1] : List Value))))), some (.bool (((((geti x1 0) == (geti r9.1 0)) && ((geti x1 1) == (geti r9.1 1))) && ((x2 == r9.2.1) && (x3 == r9.2.2.1))))), none, none, none, none, some (.bool r10), none, none] [6] [pl 6 (.bool ((((e1 == r9.2.2.2.2) && (f1 == r9.2.2.2.2)) && ((((geti x1 0) == (geti r9.1 0)) && ((geti x1 1) == (geti r9.1 1))) && ((x2 == r9.2.1) && (x3 == r9.2.2.1)))) && r10))] hF hS Fol (by kernel_rfl) (by kernel_rfl) (by kernel_rfl) ?_ (fun a w hF hS => ?_)
            · exact obs_cons (ob_loadA (cs := (List.toArray (([] : List Value) ++ (arr1 (Value.int .i64) (0 : Int) 2 x1 ++ ([.int .i64 x2, .int .i64 x3] : List Value))))) (by kernel_rfl) (by kernel_rfl) (fun _ _ hS => (hS.at_ 3 rfl).cellsAt 0 (by rfl))) <| obs_cons (ob_loadA (cs := (List.toArray (([] : List Value) ++ (arr1 (Value.int .i64) (0 : Int) 2 r9.1 ++ ([.int .i64 r9.2.1, .int .i64 r9.2.2.1] : List Value))))) (by kernel_rfl) (by kernel_rfl) (fun _ _ hS => (hS.at_ 0 rfl).cellsAt 0 (by rfl))) <| obs_cons (ob_eql rfl (by kernel_rfl) (fun w => EqlA101 w)) <| obs_cons (ob_call Try.func36 (by kernel_rfl) rfl (fun hy _ hS => gameroomlaw_sameInts_w (ite_some hr10 (by rw [show (((e1 == r9.2.2.2.2) && (f1 == r9.2.2.2.2)) && ((((geti x1 0) == (geti r9.1 0)) && ((geti x1 1) == (geti r9.1 1))) && ((x2 == r9.2.1) && (x3 == r9.2.2.1)))) = true from hy (((e1 == r9.2.2.2.2) && (f1 == r9.2.2.2.2)) && ((((geti x1 0) == (geti r9.1 0)) && ((geti x1 1) == (geti r9.1 1))) && ((x2 == r9.2.1) && (x3 == r9.2.2.1))), true) (by simp)]; try rfl)) hS (fun _ hS => (hS.at_ 4 rfl).rd) ((hS.at_ 4 rfl).cap1) rfl (fun _ hS => (hS.at_ 1 rfl).rd) ((hS.at_ 1 rfl).cap1) rfl)) <| obs_nil
            refine wp_ret ?_
            have hS := hS.pickN 5 [] (by decide)
            have hm : some ((((e1 == r9.2.2.2.2) && (f1 == r9.2.2.2.2)) && ((((geti x1 0) == (geti r9.1 0)) && ((geti x1 1) == (geti r9.1 1))) && ((x2 == r9.2.1) && (x3 == r9.2.2.1)))) && r10) = some r := hm
            obtain rfl := Option.some.inj hm
            exact retV (rs := [.tmp 6]) (vs := [.bool ((((e1 == r9.2.2.2.2) && (f1 == r9.2.2.2.2)) && ((((geti x1 0) == (geti r9.1 0)) && ((geti x1 1) == (geti r9.1 1))) && ((x2 == r9.2.1) && (x3 == r9.2.2.1)))) && r10)]) hF rfl (rv_t (by kernel_rfl) <| rv_nil) rfl ⟨rfl, hS⟩
          · refine reg [] [] [1, 3, 7, 8, 9, 10, 13, 14, 72] [pl 1 (.slice A1 used1.length c6), pl 3 (.pointer (some ⟨g1, 0, none⟩)), pl 7 (.pointer (some ⟨g3, 0, none⟩)), pl 8 (.int .i64 e1), pl 9 (.slice A9 l1.length c14), pl 10 (.int .i64 f1), pl 13 (.int .i64 r8), pl 14 (.pointer (some ⟨g4, 0, none⟩)), pl 72 (.bool (r8 != 0))] hF hS Fol (by kernel_rfl) (by kernel_rfl) (by kernel_rfl) ?_ (fun a w hF hS => ?_)
            · exact obs_nil
            refine cond_ev (t := 72) (b := (r8 != 0)) hF (by kernel_rfl) (fun hb => ?_) (fun hb => ?_)
            · replace hm := if_t hm hb
              refine reg [⟨false, [((e1 == r8) && (f1 == r8), true)], vS (Instr.loadAt 101 (.pointer (some ⟨g3, 0, none⟩))), .agg (List.toArray (([] : List Value) ++ (arr1 (Value.int .i64) (0 : Int) 2 x1 ++ ([.int .i64 x2, .int .i64 x3] : List Value))))⟩, ⟨false, [((e1 == r8) && (f1 == r8), true)], vS (Instr.loadAt 101 (.pointer (some ⟨g4, 0, none⟩))), .agg (List.toArray (([] : List Value) ++ (arr1 (Value.int .i64) (0 : Int) 2 (List.replicate 2 (0 : Int)) ++ ([.int .i64 0, .int .i64 0] : List Value))))⟩, ⟨true, [((e1 == r8) && (f1 == r8), true)], vS (do eqGuard .eql 101 (.tmp 82) (.tmp 83) (.agg (List.toArray (([] : List Value) ++ (arr1 (Value.int .i64) (0 : Int) 2 x1 ++ ([.int .i64 x2, .int .i64 x3] : List Value))))) (.agg (List.toArray (([] : List Value) ++ (arr1 (Value.int .i64) (0 : Int) 2 (List.replicate 2 (0 : Int)) ++ ([.int .i64 0, .int .i64 0] : List Value))))); binOp .eql 101 (.agg (List.toArray (([] : List Value) ++ (arr1 (Value.int .i64) (0 : Int) 2 x1 ++ ([.int .i64 x2, .int .i64 x3] : List Value))))) (.agg (List.toArray (([] : List Value) ++ (arr1 (Value.int .i64) (0 : Int) 2 (List.replicate 2 (0 : Int)) ++ ([.int .i64 0, .int .i64 0] : List Value)))))), .bool (((((geti x1 0) == (geti (List.replicate 2 (0 : Int)) 0)) && ((geti x1 1) == (geti (List.replicate 2 (0 : Int)) 1))) && ((x2 == 0) && (x3 == 0))))⟩] [none, none, none, none, none, none, none, none, none, some (.agg (List.toArray (([] : List Value) ++ (arr1 (Value.int .i64) (0 : Int) 2 x1 ++ ([.int .i64 x2, .int .i64 x3] : List Value))))), some (.agg (List.toArray (([] : List Value) ++ (arr1 (Value.int .i64) (0 : Int) 2 (List.replicate 2 (0 : Int)) ++ ([.int .i64 0, .int .i64 0] : List Value))))), some (.bool (((((geti x1 0) == (geti (List.replicate 2 (0 : Int)) 0)) && ((geti x1 1) == (geti (List.replicate 2 (0 : Int)) 1))) && ((x2 == 0) && (x3 == 0))))), none, none, none, none, none, none, none] [6] [pl 6 (.bool ((((e1 == r8) && (f1 == r8)) && ((((geti x1 0) == (geti (List.replicate 2 (0 : Int)) 0)) && ((geti x1 1) == (geti (List.replicate 2 (0 : Int)) 1))) && ((x2 == 0) && (x3 == 0)))) && ((l1.length : Int) == 0)))] hF hS Fol (by kernel_rfl) (by kernel_rfl) (by kernel_rfl) ?_ (fun a w hF hS => ?_)
              · exact obs_cons (ob_loadA (cs := (List.toArray (([] : List Value) ++ (arr1 (Value.int .i64) (0 : Int) 2 x1 ++ ([.int .i64 x2, .int .i64 x3] : List Value))))) (by kernel_rfl) (by kernel_rfl) (fun _ _ hS => (hS.at_ 2 rfl).cellsAt 0 (by rfl))) <| obs_cons (ob_loadA (cs := (List.toArray (([] : List Value) ++ (arr1 (Value.int .i64) (0 : Int) 2 (List.replicate 2 (0 : Int)) ++ ([.int .i64 0, .int .i64 0] : List Value))))) (by kernel_rfl) (by kernel_rfl) (fun _ _ hS => (hS.at_ 0 rfl).cellsAt 0 (by rfl))) <| obs_cons (ob_eql rfl (by kernel_rfl) (fun w => EqlA101 w)) <| obs_nil
              refine wp_ret ?_
              refine then_r ?_
              have hS := hS.pickN 4 [] (by decide)
              have hm : some ((((e1 == r8) && (f1 == r8)) && ((((geti x1 0) == (geti (List.replicate 2 (0 : Int)) 0)) && ((geti x1 1) == (geti (List.replicate 2 (0 : Int)) 1))) && ((x2 == 0) && (x3 == 0)))) && ((l1.length : Int) == 0)) = some r := hm
              obtain rfl := Option.some.inj hm
              exact retV (rs := [.tmp 6]) (vs := [.bool ((((e1 == r8) && (f1 == r8)) && ((((geti x1 0) == (geti (List.replicate 2 (0 : Int)) 0)) && ((geti x1 1) == (geti (List.replicate 2 (0 : Int)) 1))) && ((x2 == 0) && (x3 == 0)))) && ((l1.length : Int) == 0))]) hF rfl (rv_t (by kernel_rfl) <| rv_nil) rfl ⟨rfl, hS⟩
            · replace hm := if_f hm hb
              refine wp_skip ?_
              refine then_n ?_
              have hS := hS.pickN 4 [1, 2, 3] (by decide)
              exact ⟨hF.weak [1, 3, 7, 8, 9, 10] (by kernel_rfl), hS, hm⟩
        · refine reg [] [] [1, 2, 3, 7, 8, 9, 10, 11, 12, 13, 51] [pl 1 (.slice A1 used1.length c6), pl 2 (.int .i64 n2), pl 3 (.pointer (some ⟨g1, 0, none⟩)), pl 7 (.pointer (some ⟨g3, 0, none⟩)), pl 8 (.int .i64 e1), pl 9 (.slice A9 l1.length c14), pl 10 (.int .i64 f1), pl 11 (.int .i64 r5.1), pl 12 (.int .i64 r5.2), pl 13 (.int .i64 no1), pl 51 (.bool (no1 != 0))] hF hS Fol (by kernel_rfl) (by kernel_rfl) (by kernel_rfl) ?_ (fun a w hF hS => ?_)
          · exact obs_nil
          refine cond_ev (t := 51) (b := (no1 != 0)) hF (by kernel_rfl) (fun hb => ?_) (fun hb => ?_)
          · replace hm := if_t hm hb
            refine reg [] [] [1, 3, 7, 8, 9, 10, 58] [pl 1 (.slice A1 used1.length c6), pl 3 (.pointer (some ⟨g1, 0, none⟩)), pl 7 (.pointer (some ⟨g3, 0, none⟩)), pl 8 (.int .i64 e1), pl 9 (.slice A9 l1.length c14), pl 10 (.int .i64 f1), pl 58 (.bool ((r5.2 != no1) || (r5.1 != 0)))] hF hS Fol (by kernel_rfl) (by kernel_rfl) (by kernel_rfl) ?_ (fun a w hF hS => ?_)
            · exact obs_nil
            refine cond_ev (t := 58) (b := (r5.2 != no1) || (r5.1 != 0)) hF (by kernel_rfl) (fun hb => ?_) (fun hb => ?_)
            · replace hm := if_t hm hb
              refine reg [] [] [6] [pl 6 (.bool false)] hF hS Fol (by kernel_rfl) (by kernel_rfl) (by kernel_rfl) ?_ (fun a w hF hS => ?_)
              · exact obs_nil
              refine wp_ret ?_
              refine then_r ?_
              have hS := hS.pickN 3 [] (by decide)
              have hm : some false = some r := hm
              obtain rfl := Option.some.inj hm
              exact retV (rs := [.tmp 6]) (vs := [.bool false]) hF rfl (rv_t (by kernel_rfl) <| rv_nil) rfl ⟨rfl, hS⟩
            · replace hm := if_f hm hb
              refine wp_skip ?_
              refine then_n ?_
              exact ⟨hF.weak [1, 3, 7, 8, 9, 10] (by kernel_rfl), hS, hm⟩
          · replace hm := if_f hm hb
            obtain ⟨r7, hr7, hm⟩ := call_b hm
            refine reg [⟨false, [((r5.2 != 0), false)], vS (Instr.loadAt 98 (.pointer (some ⟨g1, 0, none⟩))), .agg #[.int .i64 c1, .int .i64 c2, .int .i64 c3, .int .i64 c4, .int .i64 c5]⟩, ⟨false, [((r5.2 != 0), false)], callFunc 72 #[.agg #[.int .i64 c1, .int .i64 c2, .int .i64 c3, .int .i64 c4, .int .i64 c5], .int .i64 n2], .int .i64 r7⟩] [none, none, none, none, some (.agg #[.int .i64 c1, .int .i64 c2, .int .i64 c3, .int .i64 c4, .int .i64 c5]), none, some (.int .i64 r7), none, none] [1, 3, 7, 8, 9, 10, 67] [pl 1 (.slice A1 used1.length c6), pl 3 (.pointer (some ⟨g1, 0, none⟩)), pl 7 (.pointer (some ⟨g3, 0, none⟩)), pl 8 (.int .i64 e1), pl 9 (.slice A9 l1.length c14), pl 10 (.int .i64 f1), pl 67 (.bool ((r5.2 != 0) || (r5.1 != r7)))] hF hS Fol (by kernel_rfl) (by kernel_rfl) (by kernel_rfl) ?_ (fun a w hF hS => ?_)
            · exact obs_cons (ob_loadA (cs := #[.int .i64 c1, .int .i64 c2, .int .i64 c3, .int .i64 c4, .int .i64 c5]) (by kernel_rfl) (by kernel_rfl) (fun _ _ hS => (hS.at_ 0 rfl).cellsAt 0 (by rfl))) <| obs_cons (ob_call Try.func72 (by kernel_rfl) rfl (fun hy _ hS => gameroomref_PaceOf_w (ite_some hr7 (by rw [show (r5.2 != 0) = false from hy ((r5.2 != 0), false) (by simp)]; try rfl)) hS )) <| obs_nil
            refine cond_ev (t := 67) (b := (r5.2 != 0) || (r5.1 != r7)) hF (by kernel_rfl) (fun hb => ?_) (fun hb => ?_)
            · replace hm := if_t hm hb
              refine reg [] [] [6] [pl 6 (.bool false)] hF hS Fol (by kernel_rfl) (by kernel_rfl) (by kernel_rfl) ?_ (fun a w hF hS => ?_)
              · exact obs_nil
              refine wp_ret ?_
              refine then_r ?_
              have hS := hS.pickN 3 [] (by decide)
              have hm : some false = some r := hm
              obtain rfl := Option.some.inj hm
              exact retV (rs := [.tmp 6]) (vs := [.bool false]) hF rfl (rv_t (by kernel_rfl) <| rv_nil) rfl ⟨rfl, hS⟩
            · replace hm := if_f hm hb
              refine wp_skip ?_
              refine then_n ?_
              exact ⟨hF.weak [1, 3, 7, 8, 9, 10] (by kernel_rfl), hS, hm⟩
      · refine reg [] [] [1, 2, 3, 7, 8, 9, 10, 11, 12, 13, 49] [pl 1 (.slice A1 used1.length c6), pl 2 (.int .i64 n2), pl 3 (.pointer (some ⟨g1, 0, none⟩)), pl 7 (.pointer (some ⟨g3, 0, none⟩)), pl 8 (.int .i64 e1), pl 9 (.slice A9 l1.length c14), pl 10 (.int .i64 f1), pl 11 (.int .i64 r5.1), pl 12 (.int .i64 r5.2), pl 13 (.int .i64 r6), pl 49 (.bool ((r6 == 0) && ((decide (n2 < 0)) || (decide ((200 : Int) < n2)))))] hF hS Fol (by kernel_rfl) (by kernel_rfl) (by kernel_rfl) ?_ (fun a w hF hS => ?_)
        · exact obs_nil
        refine cond_ev (t := 49) (b := (r6 == 0) && ((decide (n2 < 0)) || (decide ((200 : Int) < n2)))) hF (by kernel_rfl) (fun hb => ?_) (fun hb => ?_)
        · replace hm := if_t hm hb
          refine reg1 [] [] [1, 2, 3, 7, 8, 9, 10, 11, 12, 13] [pl 1 (.slice A1 used1.length c6), pl 2 (.int .i64 n2), pl 3 (.pointer (some ⟨g1, 0, none⟩)), pl 7 (.pointer (some ⟨g3, 0, none⟩)), pl 8 (.int .i64 e1), pl 9 (.slice A9 l1.length c14), pl 10 (.int .i64 f1), pl 11 (.int .i64 r5.1), pl 12 (.int .i64 r5.2), pl 13 (.int .i64 11)] hF hS Fol (by kernel_rfl) (by kernel_rfl) (by kernel_rfl) ?_ (fun a w hF hS => ?_)
          · exact obs_nil
          refine then_n ?_
          exact ⟨11, hF.weak [1, 2, 3, 7, 8, 9, 10, 11, 12, 13] (by kernel_rfl), hS, hm⟩
        · replace hm := if_f hm hb
          refine wp_skip ?_
          refine then_n ?_
          exact ⟨r6, hF.weak [1, 2, 3, 7, 8, 9, 10, 11, 12, 13] (by kernel_rfl), hS, hm⟩
    · obtain ⟨r3, hr3, hm⟩ := call_b hm
      obtain ⟨r4, hr4, hm⟩ := call_b hm
      refine regMix5 [0, 1] [] 7 #[true, true, false, false, false, false, false, false, false] [⟨false, [], vS (Instr.loadAt 98 (.pointer (some ⟨g1, 0, none⟩))), .agg #[.int .i64 c1, .int .i64 c2, .int .i64 c3, .int .i64 c4, .int .i64 c5]⟩] [some (.agg #[.int .i64 c1, .int .i64 c2, .int .i64 c3, .int .i64 c4, .int .i64 c5]), none] [1, 2, 3, 7, 8, 26, 27] [pl 1 (.slice A1 used1.length c6), pl 2 (.int .i64 n2), pl 3 (.pointer (some ⟨g1, 0, none⟩)), pl 7 (.pointer (some ⟨g3, 0, none⟩)), pl 8 (.int .i64 e1), pl 26 (.agg #[.int .i64 c1, .int .i64 c2, .int .i64 c3, .int .i64 c4, .int .i64 c5]), pl 27 (.slice A1 used1.length c6)] hF hS Fol (by kernel_rfl) (by kernel_rfl) (by kernel_rfl) (by kernel_rfl) ?_ (fun a w hF hS => ?_)
      · exact obs_cons (ob_loadA (cs := #[.int .i64 c1, .int .i64 c2, .int .i64 c3, .int .i64 c4, .int .i64 c5]) (by kernel_rfl) (by kernel_rfl) (fun _ _ hS => (hS.at_ 0 rfl).cellsAt 0 (by rfl))) <| obs_nil
      refine any_step [2] (by kernel_rfl) rfl ?_
      refine (all_cons ?_ all_nil)
      · refine any_op (listed' := #[true, true, true, false, false, false, false, false, false]) (by kernel_rfl) (by kernel_rfl) ?_
        refine at_call (f := 30) (args := #[.slice A1 used1.length c6]) (d := 28) hF (by kernel_rfl) (by kernel_rfl) Try.func30 (by kernel_rfl) rfl (gameroomlaw_ints_w hr3 hS (fun _ hS => (hr_used1 _ (hS.dropN 2))) _hc_used1 rfl) (fun v a w hR hF => ?_)
        clear hS
        obtain ⟨A7, c12, rfl, hS⟩ := hR
        have hS : Sep w0 B w (own 3 (.slice A7 r3.length c12) (vI r3) :: blk g1 98 #[.int .i64 c1, .int .i64 c2, .int .i64 c3, .int .i64 c4, .int .i64 c5] :: blk g3 101 (List.toArray (([] : List Value) ++ (arr1 (Value.int .i64) (0 : Int) 2 x1 ++ ([.int .i64 x2, .int .i64 x3] : List Value)))) :: fs) := hS
        refine any_fin rfl (hS.pickN 3 [1, 2] (by decide)) ?_
        refine any_step [3] (by kernel_rfl) rfl ?_
        refine (all_cons ?_ all_nil)
        · refine any_op (listed' := #[true, true, true, true, false, false, false, false, false]) (by kernel_rfl) (by kernel_rfl) ?_
          refine at_call (f := 69) (args := #[.agg #[.int .i64 c1, .int .i64 c2, .int .i64 c3, .int .i64 c4, .int .i64 c5], .slice A7 r3.length c12]) (d := 29) hF (by kernel_rfl) (by kernel_rfl) Try.func69 (by kernel_rfl) rfl (clock_Left_w hr4 hS (fun _ hS => (hS.at_ 0 rfl).rd) ((hS.at_ 0 rfl).cap1) rfl) (fun v a w hR hF => ?_)
          clear hS
          obtain ⟨A8, c13, rfl, hS⟩ := hR
          have hS : Sep w0 B w (own 3 (.slice A8 r4.1.length c13) (vI r4.1) :: own 3 (.slice A7 r3.length c12) (vI r3) :: blk g1 98 #[.int .i64 c1, .int .i64 c2, .int .i64 c3, .int .i64 c4, .int .i64 c5] :: blk g3 101 (List.toArray (([] : List Value) ++ (arr1 (Value.int .i64) (0 : Int) 2 x1 ++ ([.int .i64 x2, .int .i64 x3] : List Value)))) :: fs) := hS
          refine any_fin rfl (hS.pickN 4 [2, 3] (by decide)) ?_
          refine any_step [4] (by kernel_rfl) rfl ?_
          refine (all_cons ?_ all_nil)
          · refine any_op (listed' := #[true, true, true, true, true, false, false, false, false]) (by kernel_rfl) (by kernel_rfl) ?_
            refine at_runW 1 [] [] [1, 2, 3, 7, 8, 25] [pl 1 (.slice A1 used1.length c6), pl 2 (.int .i64 n2), pl 3 (.pointer (some ⟨g1, 0, none⟩)), pl 7 (.pointer (some ⟨g3, 0, none⟩)), pl 8 (.int .i64 e1), pl 25 (.tuple #[.slice A8 r4.1.length c13, .int .i64 r4.2])] hF hS (by kernel_rfl) (by kernel_rfl) ?_ (fun a hF => ?_)
            · exact obs_nil
            refine any_finI rfl (fun h => h) ?_
            refine any_step [5, 6] (by kernel_rfl) rfl ?_
            refine (all_cons ?_ (all_cons ?_ all_nil))
            · refine any_op (listed' := #[true, true, true, true, true, true, false, false, false]) (by kernel_rfl) (by kernel_rfl) ?_
              refine at_runW 1 [] [] [1, 2, 3, 7, 8, 25, 30] [pl 1 (.slice A1 used1.length c6), pl 2 (.int .i64 n2), pl 3 (.pointer (some ⟨g1, 0, none⟩)), pl 7 (.pointer (some ⟨g3, 0, none⟩)), pl 8 (.int .i64 e1), pl 25 (.tuple #[.slice A8 r4.1.length c13, .int .i64 r4.2]), pl 30 (.slice A8 r4.1.length c13)] hF hS (by kernel_rfl) (by kernel_rfl) ?_ (fun a hF => ?_)
              · exact obs_nil
              refine any_finI rfl (fun h => h) ?_
              refine any_step [6, 7] (by kernel_rfl) rfl ?_
              refine (all_cons ?_ (all_cons ?_ all_nil))
              · refine any_op (listed' := #[true, true, true, true, true, true, true, false, false]) (by kernel_rfl) (by kernel_rfl) ?_
                refine at_runW 1 [] [] [1, 2, 3, 7, 8, 30, 31] [pl 1 (.slice A1 used1.length c6), pl 2 (.int .i64 n2), pl 3 (.pointer (some ⟨g1, 0, none⟩)), pl 7 (.pointer (some ⟨g3, 0, none⟩)), pl 8 (.int .i64 e1), pl 30 (.slice A8 r4.1.length c13), pl 31 (.int .i64 r4.2)] hF hS (by kernel_rfl) (by kernel_rfl) ?_ (fun a hF => ?_)
                · exact obs_nil
                refine any_finI rfl (fun h => h) ?_
                refine any_step [7] (by kernel_rfl) rfl ?_
                refine (all_cons ?_ all_nil)
                · refine any_op (listed' := #[true, true, true, true, true, true, true, true, false]) (by kernel_rfl) (by kernel_rfl) ?_
                  refine at_runW 1 [] [] [1, 2, 3, 7, 8, 9, 31] [pl 1 (.slice A1 used1.length c6), pl 2 (.int .i64 n2), pl 3 (.pointer (some ⟨g1, 0, none⟩)), pl 7 (.pointer (some ⟨g3, 0, none⟩)), pl 8 (.int .i64 e1), pl 9 (.slice A8 r4.1.length c13), pl 31 (.int .i64 r4.2)] hF hS (by kernel_rfl) (by kernel_rfl) ?_ (fun a hF => ?_)
                  · exact obs_nil
                  refine any_finI rfl (fun h => h) ?_
                  refine any_step [8] (by kernel_rfl) rfl ?_
                  refine (all_cons ?_ all_nil)
                  · refine any_op (listed' := #[true, true, true, true, true, true, true, true, true]) (by kernel_rfl) (by kernel_rfl) ?_
                    refine at_runW 1 [] [] [1, 2, 3, 7, 8, 9, 10] [pl 1 (.slice A1 used1.length c6), pl 2 (.int .i64 n2), pl 3 (.pointer (some ⟨g1, 0, none⟩)), pl 7 (.pointer (some ⟨g3, 0, none⟩)), pl 8 (.int .i64 e1), pl 9 (.slice A8 r4.1.length c13), pl 10 (.int .i64 r4.2)] hF hS (by kernel_rfl) (by kernel_rfl) ?_ (fun a hF => ?_)
                    · exact obs_nil
                    refine any_finI rfl (fun h => h) ?_
                    refine any_end (by kernel_rfl) ?_
                    refine np_n ?_
                    refine then_n ?_
                    have hS := hS.pickN 4 [2, 3, 0] (by decide)
                    exact ⟨r4.1, r4.2, A8, c13, hF.weak [1, 2, 3, 7, 8, 9, 10] (by kernel_rfl), hS, hm⟩
              · refine any_op (listed' := #[true, true, true, true, true, true, false, true, false]) (by kernel_rfl) (by kernel_rfl) ?_
                refine at_runW 1 [] [] [1, 2, 3, 7, 8, 9, 25] [pl 1 (.slice A1 used1.length c6), pl 2 (.int .i64 n2), pl 3 (.pointer (some ⟨g1, 0, none⟩)), pl 7 (.pointer (some ⟨g3, 0, none⟩)), pl 8 (.int .i64 e1), pl 9 (.slice A8 r4.1.length c13), pl 25 (.tuple #[.slice A8 r4.1.length c13, .int .i64 r4.2])] hF hS (by kernel_rfl) (by kernel_rfl) ?_ (fun a hF => ?_)
                · exact obs_nil
                refine any_finI rfl (fun h => h) ?_
                refine any_step [6] (by kernel_rfl) rfl ?_
                refine (all_cons ?_ all_nil)
                · refine any_op (listed' := #[true, true, true, true, true, true, true, true, false]) (by kernel_rfl) (by kernel_rfl) ?_
                  refine at_runW 1 [] [] [1, 2, 3, 7, 8, 9, 31] [pl 1 (.slice A1 used1.length c6), pl 2 (.int .i64 n2), pl 3 (.pointer (some ⟨g1, 0, none⟩)), pl 7 (.pointer (some ⟨g3, 0, none⟩)), pl 8 (.int .i64 e1), pl 9 (.slice A8 r4.1.length c13), pl 31 (.int .i64 r4.2)] hF hS (by kernel_rfl) (by kernel_rfl) ?_ (fun a hF => ?_)
                  · exact obs_nil
                  refine any_finI rfl (fun h => h) ?_
                  refine any_step [8] (by kernel_rfl) rfl ?_
                  refine (all_cons ?_ all_nil)
                  · refine any_op (listed' := #[true, true, true, true, true, true, true, true, true]) (by kernel_rfl) (by kernel_rfl) ?_
                    refine at_runW 1 [] [] [1, 2, 3, 7, 8, 9, 10] [pl 1 (.slice A1 used1.length c6), pl 2 (.int .i64 n2), pl 3 (.pointer (some ⟨g1, 0, none⟩)), pl 7 (.pointer (some ⟨g3, 0, none⟩)), pl 8 (.int .i64 e1), pl 9 (.slice A8 r4.1.length c13), pl 10 (.int .i64 r4.2)] hF hS (by kernel_rfl) (by kernel_rfl) ?_ (fun a hF => ?_)
                    · exact obs_nil
                    refine any_finI rfl (fun h => h) ?_
                    refine any_end (by kernel_rfl) ?_
                    refine np_n ?_
                    refine then_n ?_
                    have hS := hS.pickN 4 [2, 3, 0] (by decide)
                    exact ⟨r4.1, r4.2, A8, c13, hF.weak [1, 2, 3, 7, 8, 9, 10] (by kernel_rfl), hS, hm⟩
            · refine any_op (listed' := #[true, true, true, true, true, false, true, false, false]) (by kernel_rfl) (by kernel_rfl) ?_
              refine at_runW 1 [] [] [1, 2, 3, 7, 8, 25, 31] [pl 1 (.slice A1 used1.length c6), pl 2 (.int .i64 n2), pl 3 (.pointer (some ⟨g1, 0, none⟩)), pl 7 (.pointer (some ⟨g3, 0, none⟩)), pl 8 (.int .i64 e1), pl 25 (.tuple #[.slice A8 r4.1.length c13, .int .i64 r4.2]), pl 31 (.int .i64 r4.2)] hF hS (by kernel_rfl) (by kernel_rfl) ?_ (fun a hF => ?_)
              · exact obs_nil
              refine any_finI rfl (fun h => h) ?_
              refine any_step [5] (by kernel_rfl) rfl ?_
              refine (all_cons ?_ all_nil)
              · refine any_op (listed' := #[true, true, true, true, true, true, true, false, false]) (by kernel_rfl) (by kernel_rfl) ?_
                refine at_runW 1 [] [] [1, 2, 3, 7, 8, 30, 31] [pl 1 (.slice A1 used1.length c6), pl 2 (.int .i64 n2), pl 3 (.pointer (some ⟨g1, 0, none⟩)), pl 7 (.pointer (some ⟨g3, 0, none⟩)), pl 8 (.int .i64 e1), pl 30 (.slice A8 r4.1.length c13), pl 31 (.int .i64 r4.2)] hF hS (by kernel_rfl) (by kernel_rfl) ?_ (fun a hF => ?_)
                · exact obs_nil
                refine any_finI rfl (fun h => h) ?_
                refine any_step [7] (by kernel_rfl) rfl ?_
                refine (all_cons ?_ all_nil)
                · refine any_op (listed' := #[true, true, true, true, true, true, true, true, false]) (by kernel_rfl) (by kernel_rfl) ?_
                  refine at_runW 1 [] [] [1, 2, 3, 7, 8, 9, 31] [pl 1 (.slice A1 used1.length c6), pl 2 (.int .i64 n2), pl 3 (.pointer (some ⟨g1, 0, none⟩)), pl 7 (.pointer (some ⟨g3, 0, none⟩)), pl 8 (.int .i64 e1), pl 9 (.slice A8 r4.1.length c13), pl 31 (.int .i64 r4.2)] hF hS (by kernel_rfl) (by kernel_rfl) ?_ (fun a hF => ?_)
                  · exact obs_nil
                  refine any_finI rfl (fun h => h) ?_
                  refine any_step [8] (by kernel_rfl) rfl ?_
                  refine (all_cons ?_ all_nil)
                  · refine any_op (listed' := #[true, true, true, true, true, true, true, true, true]) (by kernel_rfl) (by kernel_rfl) ?_
                    refine at_runW 1 [] [] [1, 2, 3, 7, 8, 9, 10] [pl 1 (.slice A1 used1.length c6), pl 2 (.int .i64 n2), pl 3 (.pointer (some ⟨g1, 0, none⟩)), pl 7 (.pointer (some ⟨g3, 0, none⟩)), pl 8 (.int .i64 e1), pl 9 (.slice A8 r4.1.length c13), pl 10 (.int .i64 r4.2)] hF hS (by kernel_rfl) (by kernel_rfl) ?_ (fun a hF => ?_)
                    · exact obs_nil
                    refine any_finI rfl (fun h => h) ?_
                    refine any_end (by kernel_rfl) ?_
                    refine np_n ?_
                    refine then_n ?_
                    have hS := hS.pickN 4 [2, 3, 0] (by decide)
                    exact ⟨r4.1, r4.2, A8, c13, hF.weak [1, 2, 3, 7, 8, 9, 10] (by kernel_rfl), hS, hm⟩
  · obtain ⟨r1, hr1, hm⟩ := call_b hm
    obtain ⟨r2, hr2, hm⟩ := call_b hm
    refine regMix5 [0, 1] [] 8 #[true, true, false, false, false, false, false, false, false, false] [⟨false, [], vS (Instr.loadAt 98 (.pointer (some ⟨g1, 0, none⟩))), .agg #[.int .i64 c1, .int .i64 c2, .int .i64 c3, .int .i64 c4, .int .i64 c5]⟩] [some (.agg #[.int .i64 c1, .int .i64 c2, .int .i64 c3, .int .i64 c4, .int .i64 c5]), none] [1, 2, 3, 19, 20] [pl 1 (.slice A1 used1.length c6), pl 2 (.int .i64 n2), pl 3 (.pointer (some ⟨g1, 0, none⟩)), pl 19 (.agg #[.int .i64 c1, .int .i64 c2, .int .i64 c3, .int .i64 c4, .int .i64 c5]), pl 20 (.slice A1 used1.length c6)] hF hS Fol (by kernel_rfl) (by kernel_rfl) (by kernel_rfl) (by kernel_rfl) ?_ (fun a w hF hS => ?_)
    · exact obs_cons (ob_loadA (cs := #[.int .i64 c1, .int .i64 c2, .int .i64 c3, .int .i64 c4, .int .i64 c5]) (by kernel_rfl) (by kernel_rfl) (fun _ _ hS => (hS.at_ 0 rfl).cellsAt 0 (by rfl))) <| obs_nil
    refine any_step [2, 7] (by kernel_rfl) rfl ?_
    refine (all_cons ?_ (all_cons ?_ all_nil))
    · refine any_op (listed' := #[true, true, true, false, false, false, false, false, false, false]) (by kernel_rfl) (by kernel_rfl) ?_
      refine at_call (f := 30) (args := #[.slice A1 used1.length c6]) (d := 21) hF (by kernel_rfl) (by kernel_rfl) Try.func30 (by kernel_rfl) rfl (gameroomlaw_ints_w hr1 hS (fun _ hS => (hr_used1 _ (hS.dropN 1))) _hc_used1 rfl) (fun v a w hR hF => ?_)
      clear hS
      obtain ⟨A3, c8, rfl, hS⟩ := hR
      have hS : Sep w0 B w (own 3 (.slice A3 r1.length c8) (vI r1) :: blk g1 98 #[.int .i64 c1, .int .i64 c2, .int .i64 c3, .int .i64 c4, .int .i64 c5] :: fs) := hS
      refine any_fin rfl (hS.pickN 2 [1] (by decide)) ?_
      refine any_step [3, 7] (by kernel_rfl) rfl ?_
      refine (all_cons ?_ (all_cons ?_ all_nil))
      · refine any_op (listed' := #[true, true, true, true, false, false, false, false, false, false]) (by kernel_rfl) (by kernel_rfl) ?_
        refine at_run 1 [⟨false, [], callFunc 68 #[.agg #[.int .i64 c1, .int .i64 c2, .int .i64 c3, .int .i64 c4, .int .i64 c5], .slice A3 r1.length c8], .tuple #[.agg (List.toArray (([] : List Value) ++ (arr1 (Value.int .i64) (0 : Int) 2 r2.1 ++ ([.int .i64 r2.2.1, .int .i64 r2.2.2.1] : List Value)))), .int .i64 r2.2.2.2]⟩] [some (.tuple #[.agg (List.toArray (([] : List Value) ++ (arr1 (Value.int .i64) (0 : Int) 2 r2.1 ++ ([.int .i64 r2.2.1, .int .i64 r2.2.2.1] : List Value)))), .int .i64 r2.2.2.2])] [1, 2, 3, 22] [pl 1 (.slice A1 used1.length c6), pl 2 (.int .i64 n2), pl 3 (.pointer (some ⟨g1, 0, none⟩)), pl 22 (.tuple #[.agg (List.toArray (([] : List Value) ++ (arr1 (Value.int .i64) (0 : Int) 2 r2.1 ++ ([.int .i64 r2.2.1, .int .i64 r2.2.2.1] : List Value)))), .int .i64 r2.2.2.2])] hF hS (by kernel_rfl) (by kernel_rfl) ?_ (fun a w hF hS => ?_)
        · exact obs_cons (ob_call Try.func68 (by kernel_rfl) rfl (fun _ _ hS => clock_Run_w hr2 hS (fun _ hS => (hS.at_ 0 rfl).rd) ((hS.at_ 0 rfl).cap1) rfl)) <| obs_nil
        refine any_fin rfl (hS.pickN 2 [1] (by decide)) ?_
        refine any_step [4, 7] (by kernel_rfl) rfl ?_
        refine (all_cons ?_ (all_cons ?_ all_nil))
        · refine any_op (listed' := #[true, true, true, true, true, false, false, false, false, false]) (by kernel_rfl) (by kernel_rfl) ?_
          refine at_runW 1 [] [] [1, 2, 3, 18] [pl 1 (.slice A1 used1.length c6), pl 2 (.int .i64 n2), pl 3 (.pointer (some ⟨g1, 0, none⟩)), pl 18 (.tuple #[.agg (List.toArray (([] : List Value) ++ (arr1 (Value.int .i64) (0 : Int) 2 r2.1 ++ ([.int .i64 r2.2.1, .int .i64 r2.2.2.1] : List Value)))), .int .i64 r2.2.2.2])] hF hS (by kernel_rfl) (by kernel_rfl) ?_ (fun a hF => ?_)
          · exact obs_nil
          refine any_finI rfl (fun h => h) ?_
          refine any_step [5, 6, 7] (by kernel_rfl) rfl ?_
          refine (all_cons ?_ (all_cons ?_ (all_cons ?_ all_nil)))
          · refine any_op (listed' := #[true, true, true, true, true, true, false, false, false, false]) (by kernel_rfl) (by kernel_rfl) ?_
            refine at_runW 1 [] [] [1, 2, 3, 18, 23] [pl 1 (.slice A1 used1.length c6), pl 2 (.int .i64 n2), pl 3 (.pointer (some ⟨g1, 0, none⟩)), pl 18 (.tuple #[.agg (List.toArray (([] : List Value) ++ (arr1 (Value.int .i64) (0 : Int) 2 r2.1 ++ ([.int .i64 r2.2.1, .int .i64 r2.2.2.1] : List Value)))), .int .i64 r2.2.2.2]), pl 23 (.agg (List.toArray (([] : List Value) ++ (arr1 (Value.int .i64) (0 : Int) 2 r2.1 ++ ([.int .i64 r2.2.1, .int .i64 r2.2.2.1] : List Value)))))] hF hS (by kernel_rfl) (by kernel_rfl) ?_ (fun a hF => ?_)
            · exact obs_nil
            refine any_finI rfl (fun h => h) ?_
            refine any_step [6, 7] (by kernel_rfl) rfl ?_
            refine (all_cons ?_ (all_cons ?_ all_nil))
            · refine any_op (listed' := #[true, true, true, true, true, true, true, false, false, false]) (by kernel_rfl) (by kernel_rfl) ?_
              refine at_runW 1 [] [] [1, 2, 3, 23, 24] [pl 1 (.slice A1 used1.length c6), pl 2 (.int .i64 n2), pl 3 (.pointer (some ⟨g1, 0, none⟩)), pl 23 (.agg (List.toArray (([] : List Value) ++ (arr1 (Value.int .i64) (0 : Int) 2 r2.1 ++ ([.int .i64 r2.2.1, .int .i64 r2.2.2.1] : List Value))))), pl 24 (.int .i64 r2.2.2.2)] hF hS (by kernel_rfl) (by kernel_rfl) ?_ (fun a hF => ?_)
              · exact obs_nil
              refine any_finI rfl (fun h => h) ?_
              refine any_step [7] (by kernel_rfl) rfl ?_
              refine (all_cons ?_ all_nil)
              · refine any_op (listed' := #[true, true, true, true, true, true, true, true, false, false]) (by kernel_rfl) (by kernel_rfl) ?_
                refine at_do (d := 7) (s := vS (Instr.alloc 101 true (.tuple #[]))) (v := .pointer (some ⟨w.heap.size, 0, none⟩)) (w' := w.alloc (.cells (List.toArray (([] : List Value) ++ (arr1 (Value.int .i64) (0 : Int) 2 (List.replicate 2 (0 : Int)) ++ ([.int .i64 0, .int .i64 0] : List Value)))) 101)) hF (by kernel_rfl) (by kernel_rfl) (by kernel_rfl) (fun a hF => ?_)
                have hS : Sep w0 B (w.alloc (.cells (List.toArray (([] : List Value) ++ (arr1 (Value.int .i64) (0 : Int) 2 (List.replicate 2 (0 : Int)) ++ ([.int .i64 0, .int .i64 0] : List Value)))) 101)) (blk w.heap.size 101 (List.toArray (([] : List Value) ++ (arr1 (Value.int .i64) (0 : Int) 2 (List.replicate 2 (0 : Int)) ++ ([.int .i64 0, .int .i64 0] : List Value)))) :: (own 3 (.slice A3 r1.length c8) (vI r1) :: blk g1 98 #[.int .i64 c1, .int .i64 c2, .int .i64 c3, .int .i64 c4, .int .i64 c5] :: fs)) := hS.box 101 (List.toArray (([] : List Value) ++ (arr1 (Value.int .i64) (0 : Int) 2 (List.replicate 2 (0 : Int)) ++ ([.int .i64 0, .int .i64 0] : List Value))))
                generalize w.heap.size = g2 at hF hS
                generalize w.alloc (.cells (List.toArray (([] : List Value) ++ (arr1 (Value.int .i64) (0 : Int) 2 (List.replicate 2 (0 : Int)) ++ ([.int .i64 0, .int .i64 0] : List Value)))) 101) = w at hS ⊢
                refine any_fin rfl (hS.pickN 3 [2] (by decide)) ?_
                refine any_step [8] (by kernel_rfl) rfl ?_
                refine (all_cons ?_ all_nil)
                · refine any_op (listed' := #[true, true, true, true, true, true, true, true, true, false]) (by kernel_rfl) (by kernel_rfl) ?_
                  obtain ⟨w, hrun, hS⟩ := run_putA (P := Try.prog) (t := 101) (us := (List.toArray (([] : List Value) ++ (arr1 (Value.int .i64) (0 : Int) 2 r2.1 ++ ([.int .i64 r2.2.1, .int .i64 r2.2.2.1] : List Value))))) (o := 0) (hS.at_ 0 rfl) (by kernel_rfl) (all_one (by kernel_rfl)) (Nat.le_of_ble_eq_true (by kernel_rfl))
                  refine at_skip hF (by kernel_rfl) hrun ?_
                  have hS : Sep w0 B w (blk g2 101 (List.toArray (([] : List Value) ++ (arr1 (Value.int .i64) (0 : Int) 2 r2.1 ++ ([.int .i64 r2.2.1, .int .i64 r2.2.2.1] : List Value)))) :: own 3 (.slice A3 r1.length c8) (vI r1) :: blk g1 98 #[.int .i64 c1, .int .i64 c2, .int .i64 c3, .int .i64 c4, .int .i64 c5] :: fs) := hS
                  refine any_fin rfl (hS.pickN 3 [2] (by decide)) ?_
                  refine any_step [9] (by kernel_rfl) rfl ?_
                  refine (all_cons ?_ all_nil)
                  · refine any_op (listed' := #[true, true, true, true, true, true, true, true, true, true]) (by kernel_rfl) (by kernel_rfl) ?_
                    refine at_runW 1 [] [] [1, 2, 3, 7, 8] [pl 1 (.slice A1 used1.length c6), pl 2 (.int .i64 n2), pl 3 (.pointer (some ⟨g1, 0, none⟩)), pl 7 (.pointer (some ⟨g2, 0, none⟩)), pl 8 (.int .i64 r2.2.2.2)] hF hS (by kernel_rfl) (by kernel_rfl) ?_ (fun a hF => ?_)
                    · exact obs_nil
                    refine any_finI rfl (fun h => h) ?_
                    refine any_end (by kernel_rfl) ?_
                    refine np_n ?_
                    refine then_n ?_
                    have hS := hS.pickN 3 [2, 0] (by decide)
                    exact ⟨r2.1, r2.2.1, r2.2.2.1, r2.2.2.2, g2, hF.weak [1, 2, 3, 7, 8] (by kernel_rfl), hS, hm⟩
            · refine any_op (listed' := #[true, true, true, true, true, true, false, true, false, false]) (by kernel_rfl) (by kernel_rfl) ?_
              refine at_do (d := 7) (s := vS (Instr.alloc 101 true (.tuple #[]))) (v := .pointer (some ⟨w.heap.size, 0, none⟩)) (w' := w.alloc (.cells (List.toArray (([] : List Value) ++ (arr1 (Value.int .i64) (0 : Int) 2 (List.replicate 2 (0 : Int)) ++ ([.int .i64 0, .int .i64 0] : List Value)))) 101)) hF (by kernel_rfl) (by kernel_rfl) (by kernel_rfl) (fun a hF => ?_)
              have hS : Sep w0 B (w.alloc (.cells (List.toArray (([] : List Value) ++ (arr1 (Value.int .i64) (0 : Int) 2 (List.replicate 2 (0 : Int)) ++ ([.int .i64 0, .int .i64 0] : List Value)))) 101)) (blk w.heap.size 101 (List.toArray (([] : List Value) ++ (arr1 (Value.int .i64) (0 : Int) 2 (List.replicate 2 (0 : Int)) ++ ([.int .i64 0, .int .i64 0] : List Value)))) :: (own 3 (.slice A3 r1.length c8) (vI r1) :: blk g1 98 #[.int .i64 c1, .int .i64 c2, .int .i64 c3, .int .i64 c4, .int .i64 c5] :: fs)) := hS.box 101 (List.toArray (([] : List Value) ++ (arr1 (Value.int .i64) (0 : Int) 2 (List.replicate 2 (0 : Int)) ++ ([.int .i64 0, .int .i64 0] : List Value))))
              generalize w.heap.size = g2 at hF hS
              generalize w.alloc (.cells (List.toArray (([] : List Value) ++ (arr1 (Value.int .i64) (0 : Int) 2 (List.replicate 2 (0 : Int)) ++ ([.int .i64 0, .int .i64 0] : List Value)))) 101) = w at hS ⊢
              refine any_fin rfl (hS.pickN 3 [2] (by decide)) ?_
              refine any_step [6, 8] (by kernel_rfl) rfl ?_
              refine (all_cons ?_ (all_cons ?_ all_nil))
              · refine any_op (listed' := #[true, true, true, true, true, true, true, true, false, false]) (by kernel_rfl) (by kernel_rfl) ?_
                refine at_runW 1 [] [] [1, 2, 3, 7, 23, 24] [pl 1 (.slice A1 used1.length c6), pl 2 (.int .i64 n2), pl 3 (.pointer (some ⟨g1, 0, none⟩)), pl 7 (.pointer (some ⟨g2, 0, none⟩)), pl 23 (.agg (List.toArray (([] : List Value) ++ (arr1 (Value.int .i64) (0 : Int) 2 r2.1 ++ ([.int .i64 r2.2.1, .int .i64 r2.2.2.1] : List Value))))), pl 24 (.int .i64 r2.2.2.2)] hF hS (by kernel_rfl) (by kernel_rfl) ?_ (fun a hF => ?_)
                · exact obs_nil
                refine any_finI rfl (fun h => h) ?_
                refine any_step [8] (by kernel_rfl) rfl ?_
                refine (all_cons ?_ all_nil)
                · refine any_op (listed' := #[true, true, true, true, true, true, true, true, true, false]) (by kernel_rfl) (by kernel_rfl) ?_
                  obtain ⟨w, hrun, hS⟩ := run_putA (P := Try.prog) (t := 101) (us := (List.toArray (([] : List Value) ++ (arr1 (Value.int .i64) (0 : Int) 2 r2.1 ++ ([.int .i64 r2.2.1, .int .i64 r2.2.2.1] : List Value))))) (o := 0) (hS.at_ 0 rfl) (by kernel_rfl) (all_one (by kernel_rfl)) (Nat.le_of_ble_eq_true (by kernel_rfl))
                  refine at_skip hF (by kernel_rfl) hrun ?_
                  have hS : Sep w0 B w (blk g2 101 (List.toArray (([] : List Value) ++ (arr1 (Value.int .i64) (0 : Int) 2 r2.1 ++ ([.int .i64 r2.2.1, .int .i64 r2.2.2.1] : List Value)))) :: own 3 (.slice A3 r1.length c8) (vI r1) :: blk g1 98 #[.int .i64 c1, .int .i64 c2, .int .i64 c3, .int .i64 c4, .int .i64 c5] :: fs) := hS
                  refine any_fin rfl (hS.pickN 3 [2] (by decide)) ?_
                  refine any_step [9] (by kernel_rfl) rfl ?_
                  refine (all_cons ?_ all_nil)
                  · refine any_op (listed' := #[true, true, true, true, true, true, true, true, true, true]) (by kernel_rfl) (by kernel_rfl) ?_
                    refine at_runW 1 [] [] [1, 2, 3, 7, 8] [pl 1 (.slice A1 used1.length c6), pl 2 (.int .i64 n2), pl 3 (.pointer (some ⟨g1, 0, none⟩)), pl 7 (.pointer (some ⟨g2, 0, none⟩)), pl 8 (.int .i64 r2.2.2.2)] hF hS (by kernel_rfl) (by kernel_rfl) ?_ (fun a hF => ?_)
                    · exact obs_nil
                    refine any_finI rfl (fun h => h) ?_
                    refine any_end (by kernel_rfl) ?_
                    refine np_n ?_
                    refine then_n ?_
                    have hS := hS.pickN 3 [2, 0] (by decide)
                    exact ⟨r2.1, r2.2.1, r2.2.2.1, r2.2.2.2, g2, hF.weak [1, 2, 3, 7, 8] (by kernel_rfl), hS, hm⟩
              · refine any_op (listed' := #[true, true, true, true, true, true, false, true, true, false]) (by kernel_rfl) (by kernel_rfl) ?_
                obtain ⟨w, hrun, hS⟩ := run_putA (P := Try.prog) (t := 101) (us := (List.toArray (([] : List Value) ++ (arr1 (Value.int .i64) (0 : Int) 2 r2.1 ++ ([.int .i64 r2.2.1, .int .i64 r2.2.2.1] : List Value))))) (o := 0) (hS.at_ 0 rfl) (by kernel_rfl) (all_one (by kernel_rfl)) (Nat.le_of_ble_eq_true (by kernel_rfl))
                refine at_skip hF (by kernel_rfl) hrun ?_
                have hS : Sep w0 B w (blk g2 101 (List.toArray (([] : List Value) ++ (arr1 (Value.int .i64) (0 : Int) 2 r2.1 ++ ([.int .i64 r2.2.1, .int .i64 r2.2.2.1] : List Value)))) :: own 3 (.slice A3 r1.length c8) (vI r1) :: blk g1 98 #[.int .i64 c1, .int .i64 c2, .int .i64 c3, .int .i64 c4, .int .i64 c5] :: fs) := hS
                refine any_fin rfl (hS.pickN 3 [2] (by decide)) ?_
                refine any_step [6] (by kernel_rfl) rfl ?_
                refine (all_cons ?_ all_nil)
                · refine any_op (listed' := #[true, true, true, true, true, true, true, true, true, false]) (by kernel_rfl) (by kernel_rfl) ?_
                  refine at_runW 1 [] [] [1, 2, 3, 7, 24] [pl 1 (.slice A1 used1.length c6), pl 2 (.int .i64 n2), pl 3 (.pointer (some ⟨g1, 0, none⟩)), pl 7 (.pointer (some ⟨g2, 0, none⟩)), pl 24 (.int .i64 r2.2.2.2)] hF hS (by kernel_rfl) (by kernel_rfl) ?_ (fun a hF => ?_)
                  · exact obs_nil
                  refine any_finI rfl (fun h => h) ?_
                  refine any_step [9] (by kernel_rfl) rfl ?_
                  refine (all_cons ?_ all_nil)
                  · refine any_op (listed' := #[true, true, true, true, true, true, true, true, true, true]) (by kernel_rfl) (by kernel_rfl) ?_
                    refine at_runW 1 [] [] [1, 2, 3, 7, 8] [pl 1 (.slice A1 used1.length c6), pl 2 (.int .i64 n2), pl 3 (.pointer (some ⟨g1, 0, none⟩)), pl 7 (.pointer (some ⟨g2, 0, none⟩)), pl 8 (.int .i64 r2.2.2.2)] hF hS (by kernel_rfl) (by kernel_rfl) ?_ (fun a hF => ?_)
                    · exact obs_nil
                    refine any_finI rfl (fun h => h) ?_
                    refine any_end (by kernel_rfl) ?_
                    refine np_n ?_
                    refine then_n ?_
                    have hS := hS.pickN 3 [2, 0] (by decide)
                    exact ⟨r2.1, r2.2.1, r2.2.2.1, r2.2.2.2, g2, hF.weak [1, 2, 3, 7, 8] (by kernel_rfl), hS, hm⟩
          · refine any_op (listed' := #[true, true, true, true, true, false, true, false, false, false]) (by kernel_rfl) (by kernel_rfl) ?_
            refine at_runW 1 [] [] [1, 2, 3, 18, 24] [pl 1 (.slice A1 used1.length c6), pl 2 (.int .i64 n2), pl 3 (.pointer (some ⟨g1, 0, none⟩)), pl 18 (.tuple #[.agg (List.toArray (([] : List Value) ++ (arr1 (Value.int .i64) (0 : Int) 2 r2.1 ++ ([.int .i64 r2.2.1, .int .i64 r2.2.2.1] : List Value)))), .int .i64 r2.2.2.2]), pl 24 (.int .i64 r2.2.2.2)] hF hS (by kernel_rfl) (by kernel_rfl) ?_ (fun a hF => ?_)
            · exact obs_nil
            refine any_finI rfl (fun h => h) ?_
            refine any_step [5, 7] (by kernel_rfl) rfl ?_
            refine (all_cons ?_ (all_cons ?_ all_nil))
            · refine any_op (listed' := #[true, true, true, true, true, true, true, false, false, false]) (by kernel_rfl) (by kernel_rfl) ?_
              refine at_runW 1 [] [] [1, 2, 3, 23, 24] [pl 1 (.slice A1 used1.length c6), pl 2 (.int .i64 n2), pl 3 (.pointer (some ⟨g1, 0, none⟩)), pl 23 (.agg (List.toArray (([] : List Value) ++ (arr1 (Value.int .i64) (0 : Int) 2 r2.1 ++ ([.int .i64 r2.2.1, .int .i64 r2.2.2.1] : List Value))))), pl 24 (.int .i64 r2.2.2.2)] hF hS (by kernel_rfl) (by kernel_rfl) ?_ (fun a hF => ?_)
              · exact obs_nil
              refine any_finI rfl (fun h => h) ?_
              refine any_step [7] (by kernel_rfl) rfl ?_
              refine (all_cons ?_ all_nil)
              · refine any_op (listed' := #[true, true, true, true, true, true, true, true, false, false]) (by kernel_rfl) (by kernel_rfl) ?_
                refine at_do (d := 7) (s := vS (Instr.alloc 101 true (.tuple #[]))) (v := .pointer (some ⟨w.heap.size, 0, none⟩)) (w' := w.alloc (.cells (List.toArray (([] : List Value) ++ (arr1 (Value.int .i64) (0 : Int) 2 (List.replicate 2 (0 : Int)) ++ ([.int .i64 0, .int .i64 0] : List Value)))) 101)) hF (by kernel_rfl) (by kernel_rfl) (by kernel_rfl) (fun a hF => ?_)
                have hS : Sep w0 B (w.alloc (.cells (List.toArray (([] : List Value) ++ (arr1 (Value.int .i64) (0 : Int) 2 (List.replicate 2 (0 : Int)) ++ ([.int .i64 0, .int .i64 0] : List Value)))) 101)) (blk w.heap.size 101 (List.toArray (([] : List Value) ++ (arr1 (Value.int .i64) (0 : Int) 2 (List.replicate 2 (0 : Int)) ++ ([.int .i64 0, .int .i64 0] : List Value)))) :: (own 3 (.slice A3 r1.length c8) (vI r1) :: blk g1 98 #[.int .i64 c1, .int .i64 c2, .int .i64 c3, .int .i64 c4, .int .i64 c5] :: fs)) := hS.box 101 (List.toArray (([] : List Value) ++ (arr1 (Value.int .i64) (0 : Int) 2 (List.replicate 2 (0 : Int)) ++ ([.int .i64 0, .int .i64 0] : List Value))))
                generalize w.heap.size = g2 at hF hS
                generalize w.alloc (.cells (List.toArray (([] : List Value) ++ (arr1 (Value.int .i64) (0 : Int) 2 (List.replicate 2 (0 : Int)) ++ ([.int .i64 0, .int .i64 0] : List Value)))) 101) = w at hS ⊢
                refine any_fin rfl (hS.pickN 3 [2] (by decide)) ?_
                refine any_step [8] (by kernel_rfl) rfl ?_
                refine (all_cons ?_ all_nil)
                · refine any_op (listed' := #[true, true, true, true, true, true, true, true, true, false]) (by kernel_rfl) (by kernel_rfl) ?_
                  obtain ⟨w, hrun, hS⟩ := run_putA (P := Try.prog) (t := 101) (us := (List.toArray (([] : List Value) ++ (arr1 (Value.int .i64) (0 : Int) 2 r2.1 ++ ([.int .i64 r2.2.1, .int .i64 r2.2.2.1] : List Value))))) (o := 0) (hS.at_ 0 rfl) (by kernel_rfl) (all_one (by kernel_rfl)) (Nat.le_of_ble_eq_true (by kernel_rfl))
                  refine at_skip hF (by kernel_rfl) hrun ?_
                  have hS : Sep w0 B w (blk g2 101 (List.toArray (([] : List Value) ++ (arr1 (Value.int .i64) (0 : Int) 2 r2.1 ++ ([.int .i64 r2.2.1, .int .i64 r2.2.2.1] : List Value)))) :: own 3 (.slice A3 r1.length c8) (vI r1) :: blk g1 98 #[.int .i64 c1, .int .i64 c2, .int .i64 c3, .int .i64 c4, .int .i64 c5] :: fs) := hS
                  refine any_fin rfl (hS.pickN 3 [2] (by decide)) ?_
                  refine any_step [9] (by kernel_rfl) rfl ?_
                  refine (all_cons ?_ all_nil)
                  · refine any_op (listed' := #[true, true, true, true, true, true, true, true, true, true]) (by kernel_rfl) (by kernel_rfl) ?_
                    refine at_runW 1 [] [] [1, 2, 3, 7, 8] [pl 1 (.slice A1 used1.length c6), pl 2 (.int .i64 n2), pl 3 (.pointer (some ⟨g1, 0, none⟩)), pl 7 (.pointer (some ⟨g2, 0, none⟩)), pl 8 (.int .i64 r2.2.2.2)] hF hS (by kernel_rfl) (by kernel_rfl) ?_ (fun a hF => ?_)
                    · exact obs_nil
                    refine any_finI rfl (fun h => h) ?_
                    refine any_end (by kernel_rfl) ?_
                    refine np_n ?_
                    refine then_n ?_
                    have hS := hS.pickN 3 [2, 0] (by decide)
                    exact ⟨r2.1, r2.2.1, r2.2.2.1, r2.2.2.2, g2, hF.weak [1, 2, 3, 7, 8] (by kernel_rfl), hS, hm⟩
            · refine any_op (listed' := #[true, true, true, true, true, false, true, true, false, false]) (by kernel_rfl) (by kernel_rfl) ?_
              refine at_do (d := 7) (s := vS (Instr.alloc 101 true (.tuple #[]))) (v := .pointer (some ⟨w.heap.size, 0, none⟩)) (w' := w.alloc (.cells (List.toArray (([] : List Value) ++ (arr1 (Value.int .i64) (0 : Int) 2 (List.replicate 2 (0 : Int)) ++ ([.int .i64 0, .int .i64 0] : List Value)))) 101)) hF (by kernel_rfl) (by kernel_rfl) (by kernel_rfl) (fun a hF => ?_)
              have hS : Sep w0 B (w.alloc (.cells (List.toArray (([] : List Value) ++ (arr1 (Value.int .i64) (0 : Int) 2 (List.replicate 2 (0 : Int)) ++ ([.int .i64 0, .int .i64 0] : List Value)))) 101)) (blk w.heap.size 101 (List.toArray (([] : List Value) ++ (arr1 (Value.int .i64) (0 : Int) 2 (List.replicate 2 (0 : Int)) ++ ([.int .i64 0, .int .i64 0] : List Value)))) :: (own 3 (.slice A3 r1.length c8) (vI r1) :: blk g1 98 #[.int .i64 c1, .int .i64 c2, .int .i64 c3, .int .i64 c4, .int .i64 c5] :: fs)) := hS.box 101 (List.toArray (([] : List Value) ++ (arr1 (Value.int .i64) (0 : Int) 2 (List.replicate 2 (0 : Int)) ++ ([.int .i64 0, .int .i64 0] : List Value))))
              generalize w.heap.size = g2 at hF hS
              generalize w.alloc (.cells (List.toArray (([] : List Value) ++ (arr1 (Value.int .i64) (0 : Int) 2 (List.replicate 2 (0 : Int)) ++ ([.int .i64 0, .int .i64 0] : List Value)))) 101) = w at hS ⊢
              refine any_fin rfl (hS.pickN 3 [2] (by decide)) ?_
              refine any_step [5] (by kernel_rfl) rfl ?_
              refine (all_cons ?_ all_nil)
              · refine any_op (listed' := #[true, true, true, true, true, true, true, true, false, false]) (by kernel_rfl) (by kernel_rfl) ?_
                refine at_runW 1 [] [] [1, 2, 3, 7, 23, 24] [pl 1 (.slice A1 used1.length c6), pl 2 (.int .i64 n2), pl 3 (.pointer (some ⟨g1, 0, none⟩)), pl 7 (.pointer (some ⟨g2, 0, none⟩)), pl 23 (.agg (List.toArray (([] : List Value) ++ (arr1 (Value.int .i64) (0 : Int) 2 r2.1 ++ ([.int .i64 r2.2.1, .int .i64 r2.2.2.1] : List Value))))), pl 24 (.int .i64 r2.2.2.2)] hF hS (by kernel_rfl) (by kernel_rfl) ?_ (fun a hF => ?_)
                · exact obs_nil
                refine any_finI rfl (fun h => h) ?_
                refine any_step [8] (by kernel_rfl) rfl ?_
                refine (all_cons ?_ all_nil)
                · refine any_op (listed' := #[true, true, true, true, true, true, true, true, true, false]) (by kernel_rfl) (by kernel_rfl) ?_
                  obtain ⟨w, hrun, hS⟩ := run_putA (P := Try.prog) (t := 101) (us := (List.toArray (([] : List Value) ++ (arr1 (Value.int .i64) (0 : Int) 2 r2.1 ++ ([.int .i64 r2.2.1, .int .i64 r2.2.2.1] : List Value))))) (o := 0) (hS.at_ 0 rfl) (by kernel_rfl) (all_one (by kernel_rfl)) (Nat.le_of_ble_eq_true (by kernel_rfl))
                  refine at_skip hF (by kernel_rfl) hrun ?_
                  have hS : Sep w0 B w (blk g2 101 (List.toArray (([] : List Value) ++ (arr1 (Value.int .i64) (0 : Int) 2 r2.1 ++ ([.int .i64 r2.2.1, .int .i64 r2.2.2.1] : List Value)))) :: own 3 (.slice A3 r1.length c8) (vI r1) :: blk g1 98 #[.int .i64 c1, .int .i64 c2, .int .i64 c3, .int .i64 c4, .int .i64 c5] :: fs) := hS
                  refine any_fin rfl (hS.pickN 3 [2] (by decide)) ?_
                  refine any_step [9] (by kernel_rfl) rfl ?_
                  refine (all_cons ?_ all_nil)
                  · refine any_op (listed' := #[true, true, true, true, true, true, true, true, true, true]) (by kernel_rfl) (by kernel_rfl) ?_
                    refine at_runW 1 [] [] [1, 2, 3, 7, 8] [pl 1 (.slice A1 used1.length c6), pl 2 (.int .i64 n2), pl 3 (.pointer (some ⟨g1, 0, none⟩)), pl 7 (.pointer (some ⟨g2, 0, none⟩)), pl 8 (.int .i64 r2.2.2.2)] hF hS (by kernel_rfl) (by kernel_rfl) ?_ (fun a hF => ?_)
                    · exact obs_nil
                    refine any_finI rfl (fun h => h) ?_
                    refine any_end (by kernel_rfl) ?_
                    refine np_n ?_
                    refine then_n ?_
                    have hS := hS.pickN 3 [2, 0] (by decide)
                    exact ⟨r2.1, r2.2.1, r2.2.2.1, r2.2.2.2, g2, hF.weak [1, 2, 3, 7, 8] (by kernel_rfl), hS, hm⟩
          · refine any_op (listed' := #[true, true, true, true, true, false, false, true, false, false]) (by kernel_rfl) (by kernel_rfl) ?_
            refine at_do (d := 7) (s := vS (Instr.alloc 101 true (.tuple #[]))) (v := .pointer (some ⟨w.heap.size, 0, none⟩)) (w' := w.alloc (.cells (List.toArray (([] : List Value) ++ (arr1 (Value.int .i64) (0 : Int) 2 (List.replicate 2 (0 : Int)) ++ ([.int .i64 0, .int .i64 0] : List Value)))) 101)) hF (by kernel_rfl) (by kernel_rfl) (by kernel_rfl) (fun a hF => ?_)
            have hS : Sep w0 B (w.alloc (.cells (List.toArray (([] : List Value) ++ (arr1 (Value.int .i64) (0 : Int) 2 (List.replicate 2 (0 : Int)) ++ ([.int .i64 0, .int .i64 0] : List Value)))) 101)) (blk w.heap.size 101 (List.toArray (([] : List Value) ++ (arr1 (Value.int .i64) (0 : Int) 2 (List.replicate 2 (0 : Int)) ++ ([.int .i64 0, .int .i64 0] : List Value)))) :: (own 3 (.slice A3 r1.length c8) (vI r1) :: blk g1 98 #[.int .i64 c1, .int .i64 c2, .int .i64 c3, .int .i64 c4, .int .i64 c5] :: fs)) := hS.box 101 (List.toArray (([] : List Value) ++ (arr1 (Value.int .i64) (0 : Int) 2 (List.replicate 2 (0 : Int)) ++ ([.int .i64 0, .int .i64 0] : List Value))))
            generalize w.heap.size = g2 at hF hS
            generalize w.alloc (.cells (List.toArray (([] : List Value) ++ (arr1 (Value.int .i64) (0 : Int) 2 (List.replicate 2 (0 : Int)) ++ ([.int .i64 0, .int .i64 0] : List Value)))) 101) = w at hS ⊢
            refine any_fin rfl (hS.pickN 3 [2] (by decide)) ?_
            refine any_step [5, 6] (by kernel_rfl) rfl ?_
            refine (all_cons ?_ (all_cons ?_ all_nil))
            · refine any_op (listed' := #[true, true, true, true, true, true, false, true, false, false]) (by kernel_rfl) (by kernel_rfl) ?_
              refine at_runW 1 [] [] [1, 2, 3, 7, 18, 23] [pl 1 (.slice A1 used1.length c6), pl 2 (.int .i64 n2), pl 3 (.pointer (some ⟨g1, 0, none⟩)), pl 7 (.pointer (some ⟨g2, 0, none⟩)), pl 18 (.tuple #[.agg (List.toArray (([] : List Value) ++ (arr1 (Value.int .i64) (0 : Int) 2 r2.1 ++ ([.int .i64 r2.2.1, .int .i64 r2.2.2.1] : List Value)))), .int .i64 r2.2.2.2]), pl 23 (.agg (List.toArray (([] : List Value) ++ (arr1 (Value.int .i64) (0 : Int) 2 r2.1 ++ ([.int .i64 r2.2.1, .int .i64 r2.2.2.1] : List Value)))))] hF hS (by kernel_rfl) (by kernel_rfl) ?_ (fun a hF => ?_)
              · exact obs_nil
              refine any_finI rfl (fun h => h) ?_
              refine any_step [6, 8] (by kernel_rfl) rfl ?_
              refine (all_cons ?_ (all_cons ?_ all_nil))
              · refine any_op (listed' := #[true, true, true, true, true, true, true, true, false, false]) (by kernel_rfl) (by kernel_rfl) ?_
                refine at_runW 1 [] [] [1, 2, 3, 7, 23, 24] [pl 1 (.slice A1 used1.length c6), pl 2 (.int .i64 n2), pl 3 (.pointer (some ⟨g1, 0, none⟩)), pl 7 (.pointer (some ⟨g2, 0, none⟩)), pl 23 (.agg (List.toArray (([] : List Value) ++ (arr1 (Value.int .i64) (0 : Int) 2 r2.1 ++ ([.int .i64 r2.2.1, .int .i64 r2.2.2.1] : List Value))))), pl 24 (.int .i64 r2.2.2.2)] hF hS (by kernel_rfl) (by kernel_rfl) ?_ (fun a hF => ?_)
                · exact obs_nil
                refine any_finI rfl (fun h => h) ?_
                refine any_step [8] (by kernel_rfl) rfl ?_
                refine (all_cons ?_ all_nil)
                · refine any_op (listed' := #[true, true, true, true, true, true, true, true, true, false]) (by kernel_rfl) (by kernel_rfl) ?_
                  obtain ⟨w, hrun, hS⟩ := run_putA (P := Try.prog) (t := 101) (us := (List.toArray (([] : List Value) ++ (arr1 (Value.int .i64) (0 : Int) 2 r2.1 ++ ([.int .i64 r2.2.1, .int .i64 r2.2.2.1] : List Value))))) (o := 0) (hS.at_ 0 rfl) (by kernel_rfl) (all_one (by kernel_rfl)) (Nat.le_of_ble_eq_true (by kernel_rfl))
                  refine at_skip hF (by kernel_rfl) hrun ?_
                  have hS : Sep w0 B w (blk g2 101 (List.toArray (([] : List Value) ++ (arr1 (Value.int .i64) (0 : Int) 2 r2.1 ++ ([.int .i64 r2.2.1, .int .i64 r2.2.2.1] : List Value)))) :: own 3 (.slice A3 r1.length c8) (vI r1) :: blk g1 98 #[.int .i64 c1, .int .i64 c2, .int .i64 c3, .int .i64 c4, .int .i64 c5] :: fs) := hS
                  refine any_fin rfl (hS.pickN 3 [2] (by decide)) ?_
                  refine any_step [9] (by kernel_rfl) rfl ?_
                  refine (all_cons ?_ all_nil)
                  · refine any_op (listed' := #[true, true, true, true, true, true, true, true, true, true]) (by kernel_rfl) (by kernel_rfl) ?_
                    refine at_runW 1 [] [] [1, 2, 3, 7, 8] [pl 1 (.slice A1 used1.length c6), pl 2 (.int .i64 n2), pl 3 (.pointer (some ⟨g1, 0, none⟩)), pl 7 (.pointer (some ⟨g2, 0, none⟩)), pl 8 (.int .i64 r2.2.2.2)] hF hS (by kernel_rfl) (by kernel_rfl) ?_ (fun a hF => ?_)
                    · exact obs_nil
                    refine any_finI rfl (fun h => h) ?_
                    refine any_end (by kernel_rfl) ?_
                    refine np_n ?_
                    refine then_n ?_
                    have hS := hS.pickN 3 [2, 0] (by decide)
                    exact ⟨r2.1, r2.2.1, r2.2.2.1, r2.2.2.2, g2, hF.weak [1, 2, 3, 7, 8] (by kernel_rfl), hS, hm⟩
              · refine any_op (listed' := #[true, true, true, true, true, true, false, true, true, false]) (by kernel_rfl) (by kernel_rfl) ?_
                obtain ⟨w, hrun, hS⟩ := run_putA (P := Try.prog) (t := 101) (us := (List.toArray (([] : List Value) ++ (arr1 (Value.int .i64) (0 : Int) 2 r2.1 ++ ([.int .i64 r2.2.1, .int .i64 r2.2.2.1] : List Value))))) (o := 0) (hS.at_ 0 rfl) (by kernel_rfl) (all_one (by kernel_rfl)) (Nat.le_of_ble_eq_true (by kernel_rfl))
                refine at_skip hF (by kernel_rfl) hrun ?_
                have hS : Sep w0 B w (blk g2 101 (List.toArray (([] : List Value) ++ (arr1 (Value.int .i64) (0 : Int) 2 r2.1 ++ ([.int .i64 r2.2.1, .int .i64 r2.2.2.1] : List Value)))) :: own 3 (.slice A3 r1.length c8) (vI r1) :: blk g1 98 #[.int .i64 c1, .int .i64 c2, .int .i64 c3, .int .i64 c4, .int .i64 c5] :: fs) := hS
                refine any_fin rfl (hS.pickN 3 [2] (by decide)) ?_
                refine any_step [6] (by kernel_rfl) rfl ?_
                refine (all_cons ?_ all_nil)
                · refine any_op (listed' := #[true, true, true, true, true, true, true, true, true, false]) (by kernel_rfl) (by kernel_rfl) ?_
                  refine at_runW 1 [] [] [1, 2, 3, 7, 24] [pl 1 (.slice A1 used1.length c6), pl 2 (.int .i64 n2), pl 3 (.pointer (some ⟨g1, 0, none⟩)), pl 7 (.pointer (some ⟨g2, 0, none⟩)), pl 24 (.int .i64 r2.2.2.2)] hF hS (by kernel_rfl) (by kernel_rfl) ?_ (fun a hF => ?_)
                  · exact obs_nil
                  refine any_finI rfl (fun h => h) ?_
                  refine any_step [9] (by kernel_rfl) rfl ?_
                  refine (all_cons ?_ all_nil)
                  · refine any_op (listed' := #[true, true, true, true, true, true, true, true, true, true]) (by kernel_rfl) (by kernel_rfl) ?_
                    refine at_runW 1 [] [] [1, 2, 3, 7, 8] [pl 1 (.slice A1 used1.length c6), pl 2 (.int .i64 n2), pl 3 (.pointer (some ⟨g1, 0, none⟩)), pl 7 (.pointer (some ⟨g2, 0, none⟩)), pl 8 (.int .i64 r2.2.2.2)] hF hS (by kernel_rfl) (by kernel_rfl) ?_ (fun a hF => ?_)
                    · exact obs_nil
                    refine any_finI rfl (fun h => h) ?_
                    refine any_end (by kernel_rfl) ?_
                    refine np_n ?_
                    refine then_n ?_
                    have hS := hS.pickN 3 [2, 0] (by decide)
                    exact ⟨r2.1, r2.2.1, r2.2.2.1, r2.2.2.2, g2, hF.weak [1, 2, 3, 7, 8] (by kernel_rfl), hS, hm⟩
            · refine any_op (listed' := #[true, true, true, true, true, false, true, true, false, false]) (by kernel_rfl) (by kernel_rfl) ?_
              refine at_runW 1 [] [] [1, 2, 3, 7, 18, 24] [pl 1 (.slice A1 used1.length c6), pl 2 (.int .i64 n2), pl 3 (.pointer (some ⟨g1, 0, none⟩)), pl 7 (.pointer (some ⟨g2, 0, none⟩)), pl 18 (.tuple #[.agg (List.toArray (([] : List Value) ++ (arr1 (Value.int .i64) (0 : Int) 2 r2.1 ++ ([.int .i64 r2.2.1, .int .i64 r2.2.2.1] : List Value)))), .int .i64 r2.2.2.2]), pl 24 (.int .i64 r2.2.2.2)] hF hS (by kernel_rfl) (by kernel_rfl) ?_ (fun a hF => ?_)
              · exact obs_nil
              refine any_finI rfl (fun h => h) ?_
              refine any_step [5] (by kernel_rfl) rfl ?_
              refine (all_cons ?_ all_nil)
              · refine any_op (listed' := #[true, true, true, true, true, true, true, true, false, false]) (by kernel_rfl) (by kernel_rfl) ?_
                refine at_runW 1 [] [] [1, 2, 3, 7, 23, 24] [pl 1 (.slice A1 used1.length c6), pl 2 (.int .i64 n2), pl 3 (.pointer (some ⟨g1, 0, none⟩)), pl 7 (.pointer (some ⟨g2, 0, none⟩)), pl 23 (.agg (List.toArray (([] : List Value) ++ (arr1 (Value.int .i64) (0 : Int) 2 r2.1 ++ ([.int .i64 r2.2.1, .int .i64 r2.2.2.1] : List Value))))), pl 24 (.int .i64 r2.2.2.2)] hF hS (by kernel_rfl) (by kernel_rfl) ?_ (fun a hF => ?_)
                · exact obs_nil
                refine any_finI rfl (fun h => h) ?_
                refine any_step [8] (by kernel_rfl) rfl ?_
                refine (all_cons ?_ all_nil)
                · refine any_op (listed' := #[true, true, true, true, true, true, true, true, true, false]) (by kernel_rfl) (by kernel_rfl) ?_
                  obtain ⟨w, hrun, hS⟩ := run_putA (P := Try.prog) (t := 101) (us := (List.toArray (([] : List Value) ++ (arr1 (Value.int .i64) (0 : Int) 2 r2.1 ++ ([.int .i64 r2.2.1, .int .i64 r2.2.2.1] : List Value))))) (o := 0) (hS.at_ 0 rfl) (by kernel_rfl) (all_one (by kernel_rfl)) (Nat.le_of_ble_eq_true (by kernel_rfl))
                  refine at_skip hF (by kernel_rfl) hrun ?_
                  have hS : Sep w0 B w (blk g2 101 (List.toArray (([] : List Value) ++ (arr1 (Value.int .i64) (0 : Int) 2 r2.1 ++ ([.int .i64 r2.2.1, .int .i64 r2.2.2.1] : List Value)))) :: own 3 (.slice A3 r1.length c8) (vI r1) :: blk g1 98 #[.int .i64 c1, .int .i64 c2, .int .i64 c3, .int .i64 c4, .int .i64 c5] :: fs) := hS
                  refine any_fin rfl (hS.pickN 3 [2] (by decide)) ?_
                  refine any_step [9] (by kernel_rfl) rfl ?_
                  refine (all_cons ?_ all_nil)
                  · refine any_op (listed' := #[true, true, true, true, true, true, true, true, true, true]) (by kernel_rfl) (by kernel_rfl) ?_
                    refine at_runW 1 [] [] [1, 2, 3, 7, 8] [pl 1 (.slice A1 used1.length c6), pl 2 (.int .i64 n2), pl 3 (.pointer (some ⟨g1, 0, none⟩)), pl 7 (.pointer (some ⟨g2, 0, none⟩)), pl 8 (.int .i64 r2.2.2.2)] hF hS (by kernel_rfl) (by kernel_rfl) ?_ (fun a hF => ?_)
                    · exact obs_nil
                    refine any_finI rfl (fun h => h) ?_
                    refine any_end (by kernel_rfl) ?_
                    refine np_n ?_
                    refine then_n ?_
                    have hS := hS.pickN 3 [2, 0] (by decide)
                    exact ⟨r2.1, r2.2.1, r2.2.2.1, r2.2.2.2, g2, hF.weak [1, 2, 3, 7, 8] (by kernel_rfl), hS, hm⟩
        · refine any_op (listed' := #[true, true, true, true, false, false, false, true, false, false]) (by kernel_rfl) (by kernel_rfl) ?_
          refine at_do (d := 7) (s := vS (Instr.alloc 101 true (.tuple #[]))) (v := .pointer (some ⟨w.heap.size, 0, none⟩)) (w' := w.alloc (.cells (List.toArray (([] : List Value) ++ (arr1 (Value.int .i64) (0 : Int) 2 (List.replicate 2 (0 : Int)) ++ ([.int .i64 0, .int .i64 0] : List Value)))) 101)) hF (by kernel_rfl) (by kernel_rfl) (by kernel_rfl) (fun a hF => ?_)
          have hS : Sep w0 B (w.alloc (.cells (List.toArray (([] : List Value) ++ (arr1 (Value.int .i64) (0 : Int) 2 (List.replicate 2 (0 : Int)) ++ ([.int .i64 0, .int .i64 0] : List Value)))) 101)) (blk w.heap.size 101 (List.toArray (([] : List Value) ++ (arr1 (Value.int .i64) (0 : Int) 2 (List.replicate 2 (0 : Int)) ++ ([.int .i64 0, .int .i64 0] : List Value)))) :: (own 3 (.slice A3 r1.length c8) (vI r1) :: blk g1 98 #[.int .i64 c1, .int .i64 c2, .int .i64 c3, .int .i64 c4, .int .i64 c5] :: fs)) := hS.box 101 (List.toArray (([] : List Value) ++ (arr1 (Value.int .i64) (0 : Int) 2 (List.replicate 2 (0 : Int)) ++ ([.int .i64 0, .int .i64 0] : List Value))))
          generalize w.heap.size = g2 at hF hS
          generalize w.alloc (.cells (List.toArray (([] : List Value) ++ (arr1 (Value.int .i64) (0 : Int) 2 (List.replicate 2 (0 : Int)) ++ ([.int .i64 0, .int .i64 0] : List Value)))) 101) = w at hS ⊢
          refine any_fin rfl (hS.pickN 3 [2] (by decide)) ?_
          refine any_step [4] (by kernel_rfl) rfl ?_
          refine (all_cons ?_ all_nil)
          · refine any_op (listed' := #[true, true, true, true, true, false, false, true, false, false]) (by kernel_rfl) (by kernel_rfl) ?_
            refine at_runW 1 [] [] [1, 2, 3, 7, 18] [pl 1 (.slice A1 used1.length c6), pl 2 (.int .i64 n2), pl 3 (.pointer (some ⟨g1, 0, none⟩)), pl 7 (.pointer (some ⟨g2, 0, none⟩)), pl 18 (.tuple #[.agg (List.toArray (([] : List Value) ++ (arr1 (Value.int .i64) (0 : Int) 2 r2.1 ++ ([.int .i64 r2.2.1, .int .i64 r2.2.2.1] : List Value)))), .int .i64 r2.2.2.2])] hF hS (by kernel_rfl) (by kernel_rfl) ?_ (fun a hF => ?_)
            · exact obs_nil
            refine any_finI rfl (fun h => h) ?_
            refine any_step [5, 6] (by kernel_rfl) rfl ?_
            refine (all_cons ?_ (all_cons ?_ all_nil))
            · refine any_op (listed' := #[true, true, true, true, true, true, false, true, false, false]) (by kernel_rfl) (by kernel_rfl) ?_
              refine at_runW 1 [] [] [1, 2, 3, 7, 18, 23] [pl 1 (.slice A1 used1.length c6), pl 2 (.int .i64 n2), pl 3 (.pointer (some ⟨g1, 0, none⟩)), pl 7 (.pointer (some ⟨g2, 0, none⟩)), pl 18 (.tuple #[.agg (List.toArray (([] : List Value) ++ (arr1 (Value.int .i64) (0 : Int) 2 r2.1 ++ ([.int .i64 r2.2.1, .int .i64 r2.2.2.1] : List Value)))), .int .i64 r2.2.2.2]), pl 23 (.agg (List.toArray (([] : List Value) ++ (arr1 (Value.int .i64) (0 : Int) 2 r2.1 ++ ([.int .i64 r2.2.1, .int .i64 r2.2.2.1] : List Value)))))] hF hS (by kernel_rfl) (by kernel_rfl) ?_ (fun a hF => ?_)
              · exact obs_nil
              refine any_finI rfl (fun h => h) ?_
              refine any_step [6, 8] (by kernel_rfl) rfl ?_
              refine (all_cons ?_ (all_cons ?_ all_nil))
              · refine any_op (listed' := #[true, true, true, true, true, true, true, true, false, false]) (by kernel_rfl) (by kernel_rfl) ?_
                refine at_runW 1 [] [] [1, 2, 3, 7, 23, 24] [pl 1 (.slice A1 used1.length c6), pl 2 (.int .i64 n2), pl 3 (.pointer (some ⟨g1, 0, none⟩)), pl 7 (.pointer (some ⟨g2, 0, none⟩)), pl 23 (.agg (List.toArray (([] : List Value) ++ (arr1 (Value.int .i64) (0 : Int) 2 r2.1 ++ ([.int .i64 r2.2.1, .int .i64 r2.2.2.1] : List Value))))), pl 24 (.int .i64 r2.2.2.2)] hF hS (by kernel_rfl) (by kernel_rfl) ?_ (fun a hF => ?_)
                · exact obs_nil
                refine any_finI rfl (fun h => h) ?_
                refine any_step [8] (by kernel_rfl) rfl ?_
                refine (all_cons ?_ all_nil)
                · refine any_op (listed' := #[true, true, true, true, true, true, true, true, true, false]) (by kernel_rfl) (by kernel_rfl) ?_
                  obtain ⟨w, hrun, hS⟩ := run_putA (P := Try.prog) (t := 101) (us := (List.toArray (([] : List Value) ++ (arr1 (Value.int .i64) (0 : Int) 2 r2.1 ++ ([.int .i64 r2.2.1, .int .i64 r2.2.2.1] : List Value))))) (o := 0) (hS.at_ 0 rfl) (by kernel_rfl) (all_one (by kernel_rfl)) (Nat.le_of_ble_eq_true (by kernel_rfl))
                  refine at_skip hF (by kernel_rfl) hrun ?_
                  have hS : Sep w0 B w (blk g2 101 (List.toArray (([] : List Value) ++ (arr1 (Value.int .i64) (0 : Int) 2 r2.1 ++ ([.int .i64 r2.2.1, .int .i64 r2.2.2.1] : List Value)))) :: own 3 (.slice A3 r1.length c8) (vI r1) :: blk g1 98 #[.int .i64 c1, .int .i64 c2, .int .i64 c3, .int .i64 c4, .int .i64 c5] :: fs) := hS
                  refine any_fin rfl (hS.pickN 3 [2] (by decide)) ?_
                  refine any_step [9] (by kernel_rfl) rfl ?_
                  refine (all_cons ?_ all_nil)
                  · refine any_op (listed' := #[true, true, true, true, true, true, true, true, true, true]) (by kernel_rfl) (by kernel_rfl) ?_
                    refine at_runW 1 [] [] [1, 2, 3, 7, 8] [pl 1 (.slice A1 used1.length c6), pl 2 (.int .i64 n2), pl 3 (.pointer (some ⟨g1, 0, none⟩)), pl 7 (.pointer (some ⟨g2, 0, none⟩)), pl 8 (.int .i64 r2.2.2.2)] hF hS (by kernel_rfl) (by kernel_rfl) ?_ (fun a hF => ?_)
                    · exact obs_nil
                    refine any_finI rfl (fun h => h) ?_
                    refine any_end (by kernel_rfl) ?_
                    refine np_n ?_
                    refine then_n ?_
                    have hS := hS.pickN 3 [2, 0] (by decide)
                    exact ⟨r2.1, r2.2.1, r2.2.2.1, r2.2.2.2, g2, hF.weak [1, 2, 3, 7, 8] (by kernel_rfl), hS, hm⟩
              · refine any_op (listed' := #[true, true, true, true, true, true, false, true, true, false]) (by kernel_rfl) (by kernel_rfl) ?_
                obtain ⟨w, hrun, hS⟩ := run_putA (P := Try.prog) (t := 101) (us := (List.toArray (([] : List Value) ++ (arr1 (Value.int .i64) (0 : Int) 2 r2.1 ++ ([.int .i64 r2.2.1, .int .i64 r2.2.2.1] : List Value))))) (o := 0) (hS.at_ 0 rfl) (by kernel_rfl) (all_one (by kernel_rfl)) (Nat.le_of_ble_eq_true (by kernel_rfl))
                refine at_skip hF (by kernel_rfl) hrun ?_
                have hS : Sep w0 B w (blk g2 101 (List.toArray (([] : List Value) ++ (arr1 (Value.int .i64) (0 : Int) 2 r2.1 ++ ([.int .i64 r2.2.1, .int .i64 r2.2.2.1] : List Value)))) :: own 3 (.slice A3 r1.length c8) (vI r1) :: blk g1 98 #[.int .i64 c1, .int .i64 c2, .int .i64 c3, .int .i64 c4, .int .i64 c5] :: fs) := hS
                refine any_fin rfl (hS.pickN 3 [2] (by decide)) ?_
                refine any_step [6] (by kernel_rfl) rfl ?_
                refine (all_cons ?_ all_nil)
                · refine any_op (listed' := #[true, true, true, true, true, true, true, true, true, false]) (by kernel_rfl) (by kernel_rfl) ?_
                  refine at_runW 1 [] [] [1, 2, 3, 7, 24] [pl 1 (.slice A1 used1.length c6), pl 2 (.int .i64 n2), pl 3 (.pointer (some ⟨g1, 0, none⟩)), pl 7 (.pointer (some ⟨g2, 0, none⟩)), pl 24 (.int .i64 r2.2.2.2)] hF hS (by kernel_rfl) (by kernel_rfl) ?_ (fun a hF => ?_)
                  · exact obs_nil
                  refine any_finI rfl (fun h => h) ?_
                  refine any_step [9] (by kernel_rfl) rfl ?_
                  refine (all_cons ?_ all_nil)
                  · refine any_op (listed' := #[true, true, true, true, true, true, true, true, true, true]) (by kernel_rfl) (by kernel_rfl) ?_
                    refine at_runW 1 [] [] [1, 2, 3, 7, 8] [pl 1 (.slice A1 used1.length c6), pl 2 (.int .i64 n2), pl 3 (.pointer (some ⟨g1, 0, none⟩)), pl 7 (.pointer (some ⟨g2, 0, none⟩)), pl 8 (.int .i64 r2.2.2.2)] hF hS (by kernel_rfl) (by kernel_rfl) ?_ (fun a hF => ?_)
                    · exact obs_nil
                    refine any_finI rfl (fun h => h) ?_
                    refine any_end (by kernel_rfl) ?_
                    refine np_n ?_
                    refine then_n ?_
                    have hS := hS.pickN 3 [2, 0] (by decide)
                    exact ⟨r2.1, r2.2.1, r2.2.2.1, r2.2.2.2, g2, hF.weak [1, 2, 3, 7, 8] (by kernel_rfl), hS, hm⟩
            · refine any_op (listed' := #[true, true, true, true, true, false, true, true, false, false]) (by kernel_rfl) (by kernel_rfl) ?_
              refine at_runW 1 [] [] [1, 2, 3, 7, 18, 24] [pl 1 (.slice A1 used1.length c6), pl 2 (.int .i64 n2), pl 3 (.pointer (some ⟨g1, 0, none⟩)), pl 7 (.pointer (some ⟨g2, 0, none⟩)), pl 18 (.tuple #[.agg (List.toArray (([] : List Value) ++ (arr1 (Value.int .i64) (0 : Int) 2 r2.1 ++ ([.int .i64 r2.2.1, .int .i64 r2.2.2.1] : List Value)))), .int .i64 r2.2.2.2]), pl 24 (.int .i64 r2.2.2.2)] hF hS (by kernel_rfl) (by kernel_rfl) ?_ (fun a hF => ?_)
              · exact obs_nil
              refine any_finI rfl (fun h => h) ?_
              refine any_step [5] (by kernel_rfl) rfl ?_
              refine (all_cons ?_ all_nil)
              · refine any_op (listed' := #[true, true, true, true, true, true, true, true, false, false]) (by kernel_rfl) (by kernel_rfl) ?_
                refine at_runW 1 [] [] [1, 2, 3, 7, 23, 24] [pl 1 (.slice A1 used1.length c6), pl 2 (.int .i64 n2), pl 3 (.pointer (some ⟨g1, 0, none⟩)), pl 7 (.pointer (some ⟨g2, 0, none⟩)), pl 23 (.agg (List.toArray (([] : List Value) ++ (arr1 (Value.int .i64) (0 : Int) 2 r2.1 ++ ([.int .i64 r2.2.1, .int .i64 r2.2.2.1] : List Value))))), pl 24 (.int .i64 r2.2.2.2)] hF hS (by kernel_rfl) (by kernel_rfl) ?_ (fun a hF => ?_)
                · exact obs_nil
                refine any_finI rfl (fun h => h) ?_
                refine any_step [8] (by kernel_rfl) rfl ?_
                refine (all_cons ?_ all_nil)
                · refine any_op (listed' := #[true, true, true, true, true, true, true, true, true, false]) (by kernel_rfl) (by kernel_rfl) ?_
                  obtain ⟨w, hrun, hS⟩ := run_putA (P := Try.prog) (t := 101) (us := (List.toArray (([] : List Value) ++ (arr1 (Value.int .i64) (0 : Int) 2 r2.1 ++ ([.int .i64 r2.2.1, .int .i64 r2.2.2.1] : List Value))))) (o := 0) (hS.at_ 0 rfl) (by kernel_rfl) (all_one (by kernel_rfl)) (Nat.le_of_ble_eq_true (by kernel_rfl))
                  refine at_skip hF (by kernel_rfl) hrun ?_
                  have hS : Sep w0 B w (blk g2 101 (List.toArray (([] : List Value) ++ (arr1 (Value.int .i64) (0 : Int) 2 r2.1 ++ ([.int .i64 r2.2.1, .int .i64 r2.2.2.1] : List Value)))) :: own 3 (.slice A3 r1.length c8) (vI r1) :: blk g1 98 #[.int .i64 c1, .int .i64 c2, .int .i64 c3, .int .i64 c4, .int .i64 c5] :: fs) := hS
                  refine any_fin rfl (hS.pickN 3 [2] (by decide)) ?_
                  refine any_step [9] (by kernel_rfl) rfl ?_
                  refine (all_cons ?_ all_nil)
                  · refine any_op (listed' := #[true, true, true, true, true, true, true, true, true, true]) (by kernel_rfl) (by kernel_rfl) ?_
                    refine at_runW 1 [] [] [1, 2, 3, 7, 8] [pl 1 (.slice A1 used1.length c6), pl 2 (.int .i64 n2), pl 3 (.pointer (some ⟨g1, 0, none⟩)), pl 7 (.pointer (some ⟨g2, 0, none⟩)), pl 8 (.int .i64 r2.2.2.2)] hF hS (by kernel_rfl) (by kernel_rfl) ?_ (fun a hF => ?_)
                    · exact obs_nil
                    refine any_finI rfl (fun h => h) ?_
                    refine any_end (by kernel_rfl) ?_
                    refine np_n ?_
                    refine then_n ?_
                    have hS := hS.pickN 3 [2, 0] (by decide)
                    exact ⟨r2.1, r2.2.1, r2.2.2.1, r2.2.2.2, g2, hF.weak [1, 2, 3, 7, 8] (by kernel_rfl), hS, hm⟩
      · refine any_op (listed' := #[true, true, true, false, false, false, false, true, false, false]) (by kernel_rfl) (by kernel_rfl) ?_
        refine at_do (d := 7) (s := vS (Instr.alloc 101 true (.tuple #[]))) (v := .pointer (some ⟨w.heap.size, 0, none⟩)) (w' := w.alloc (.cells (List.toArray (([] : List Value) ++ (arr1 (Value.int .i64) (0 : Int) 2 (List.replicate 2 (0 : Int)) ++ ([.int .i64 0, .int .i64 0] : List Value)))) 101)) hF (by kernel_rfl) (by kernel_rfl) (by kernel_rfl) (fun a hF => ?_)
        have hS : Sep w0 B (w.alloc (.cells (List.toArray (([] : List Value) ++ (arr1 (Value.int .i64) (0 : Int) 2 (List.replicate 2 (0 : Int)) ++ ([.int .i64 0, .int .i64 0] : List Value)))) 101)) (blk w.heap.size 101 (List.toArray (([] : List Value) ++ (arr1 (Value.int .i64) (0 : Int) 2 (List.replicate 2 (0 : Int)) ++ ([.int .i64 0, .int .i64 0] : List Value)))) :: (own 3 (.slice A3 r1.length c8) (vI r1) :: blk g1 98 #[.int .i64 c1, .int .i64 c2, .int .i64 c3, .int .i64 c4, .int .i64 c5] :: fs)) := hS.box 101 (List.toArray (([] : List Value) ++ (arr1 (Value.int .i64) (0 : Int) 2 (List.replicate 2 (0 : Int)) ++ ([.int .i64 0, .int .i64 0] : List Value))))
        generalize w.heap.size = g2 at hF hS
        generalize w.alloc (.cells (List.toArray (([] : List Value) ++ (arr1 (Value.int .i64) (0 : Int) 2 (List.replicate 2 (0 : Int)) ++ ([.int .i64 0, .int .i64 0] : List Value)))) 101) = w at hS ⊢
        refine any_fin rfl (hS.pickN 3 [2] (by decide)) ?_
        refine any_step [3] (by kernel_rfl) rfl ?_
        refine (all_cons ?_ all_nil)
        · refine any_op (listed' := #[true, true, true, true, false, false, false, true, false, false]) (by kernel_rfl) (by kernel_rfl) ?_
          refine at_run 1 [⟨false, [], callFunc 68 #[.agg #[.int .i64 c1, .int .i64 c2, .int .i64 c3, .int .i64 c4, .int .i64 c5], .slice A3 r1.length c8], .tuple #[.agg (List.toArray (([] : List Value) ++ (arr1 (Value.int .i64) (0 : Int) 2 r2.1 ++ ([.int .i64 r2.2.1, .int .i64 r2.2.2.1] : List Value)))), .int .i64 r2.2.2.2]⟩] [some (.tuple #[.agg (List.toArray (([] : List Value) ++ (arr1 (Value.int .i64) (0 : Int) 2 r2.1 ++ ([.int .i64 r2.2.1, .int .i64 r2.2.2.1] : List Value)))), .int .i64 r2.2.2.2])] [1, 2, 3, 7, 22] [pl 1 (.slice A1 used1.length c6), pl 2 (.int .i64 n2), pl 3 (.pointer (some ⟨g1, 0, none⟩)), pl 7 (.pointer (some ⟨g2, 0, none⟩)), pl 22 (.tuple #[.agg (List.toArray (([] : List Value) ++ (arr1 (Value.int .i64) (0 : Int) 2 r2.1 ++ ([.int .i64 r2.2.1, .int .i64 r2.2.2.1] : List Value)))), .int .i64 r2.2.2.2])] hF hS (by kernel_rfl) (by kernel_rfl) ?_ (fun a w hF hS => ?_)
          · exact obs_cons (ob_call Try.func68 (by kernel_rfl) rfl (fun _ _ hS => clock_Run_w hr2 hS (fun _ hS => (hS.at_ 1 rfl).rd) ((hS.at_ 1 rfl).cap1) rfl)) <| obs_nil
          refine any_fin rfl (hS.pickN 3 [2] (by decide)) ?_
          refine any_step [4] (by kernel_rfl) rfl ?_
          refine (all_cons ?_ all_nil)
          · refine any_op (listed' := #[true, true, true, true, true, false, false, true, false, false]) (by kernel_rfl) (by kernel_rfl) ?_
            refine at_runW 1 [] [] [1, 2, 3, 7, 18] [pl 1 (.slice A1 used1.length c6), pl 2 (.int .i64 n2), pl 3 (.pointer (some ⟨g1, 0, none⟩)), pl 7 (.pointer (some ⟨g2, 0, none⟩)), pl 18 (.tuple #[.agg (List.toArray (([] : List Value) ++ (arr1 (Value.int .i64) (0 : Int) 2 r2.1 ++ ([.int .i64 r2.2.1, .int .i64 r2.2.2.1] : List Value)))), .int .i64 r2.2.2.2])] hF hS (by kernel_rfl) (by kernel_rfl) ?_ (fun a hF => ?_)
            · exact obs_nil
            refine any_finI rfl (fun h => h) ?_
            refine any_step [5, 6] (by kernel_rfl) rfl ?_
            refine (all_cons ?_ (all_cons ?_ all_nil))
            · refine any_op (listed' := #[true, true, true, true, true, true, false, true, false, false]) (by kernel_rfl) (by kernel_rfl) ?_
              refine at_runW 1 [] [] [1, 2, 3, 7, 18, 23] [pl 1 (.slice A1 used1.length c6), pl 2 (.int .i64 n2), pl 3 (.pointer (some ⟨g1, 0, none⟩)), pl 7 (.pointer (some ⟨g2, 0, none⟩)), pl 18 (.tuple #[.agg (List.toArray (([] : List Value) ++ (arr1 (Value.int .i64) (0 : Int) 2 r2.1 ++ ([.int .i64 r2.2.1, .int .i64 r2.2.2.1] : List Value)))), .int .i64 r2.2.2.2]), pl 23 (.agg (List.toArray (([] : List Value) ++ (arr1 (Value.int .i64) (0 : Int) 2 r2.1 ++ ([.int .i64 r2.2.1, .int .i64 r2.2.2.1] : List Value)))))] hF hS (by kernel_rfl) (by kernel_rfl) ?_ (fun a hF => ?_)
              · exact obs_nil
              refine any_finI rfl (fun h => h) ?_
              refine any_step [6, 8] (by kernel_rfl) rfl ?_
              refine (all_cons ?_ (all_cons ?_ all_nil))
              · refine any_op (listed' := #[true, true, true, true, true, true, true, true, false, false]) (by kernel_rfl) (by kernel_rfl) ?_
                refine at_runW 1 [] [] [1, 2, 3, 7, 23, 24] [pl 1 (.slice A1 used1.length c6), pl 2 (.int .i64 n2), pl 3 (.pointer (some ⟨g1, 0, none⟩)), pl 7 (.pointer (some ⟨g2, 0, none⟩)), pl 23 (.agg (List.toArray (([] : List Value) ++ (arr1 (Value.int .i64) (0 : Int) 2 r2.1 ++ ([.int .i64 r2.2.1, .int .i64 r2.2.2.1] : List Value))))), pl 24 (.int .i64 r2.2.2.2)] hF hS (by kernel_rfl) (by kernel_rfl) ?_ (fun a hF => ?_)
                · exact obs_nil
                refine any_finI rfl (fun h => h) ?_
                refine any_step [8] (by kernel_rfl) rfl ?_
                refine (all_cons ?_ all_nil)
                · refine any_op (listed' := #[true, true, true, true, true, true, true, true, true, false]) (by kernel_rfl) (by kernel_rfl) ?_
                  obtain ⟨w, hrun, hS⟩ := run_putA (P := Try.prog) (t := 101) (us := (List.toArray (([] : List Value) ++ (arr1 (Value.int .i64) (0 : Int) 2 r2.1 ++ ([.int .i64 r2.2.1, .int .i64 r2.2.2.1] : List Value))))) (o := 0) (hS.at_ 0 rfl) (by kernel_rfl) (all_one (by kernel_rfl)) (Nat.le_of_ble_eq_true (by kernel_rfl))
                  refine at_skip hF (by kernel_rfl) hrun ?_
                  have hS : Sep w0 B w (blk g2 101 (List.toArray (([] : List Value) ++ (arr1 (Value.int .i64) (0 : Int) 2 r2.1 ++ ([.int .i64 r2.2.1, .int .i64 r2.2.2.1] : List Value)))) :: own 3 (.slice A3 r1.length c8) (vI r1) :: blk g1 98 #[.int .i64 c1, .int .i64 c2, .int .i64 c3, .int .i64 c4, .int .i64 c5] :: fs) := hS
                  refine any_fin rfl (hS.pickN 3 [2] (by decide)) ?_
                  refine any_step [9] (by kernel_rfl) rfl ?_
                  refine (all_cons ?_ all_nil)
                  · refine any_op (listed' := #[true, true, true, true, true, true, true, true, true, true]) (by kernel_rfl) (by kernel_rfl) ?_
                    refine at_runW 1 [] [] [1, 2, 3, 7, 8] [pl 1 (.slice A1 used1.length c6), pl 2 (.int .i64 n2), pl 3 (.pointer (some ⟨g1, 0, none⟩)), pl 7 (.pointer (some ⟨g2, 0, none⟩)), pl 8 (.int .i64 r2.2.2.2)] hF hS (by kernel_rfl) (by kernel_rfl) ?_ (fun a hF => ?_)
                    · exact obs_nil
                    refine any_finI rfl (fun h => h) ?_
                    refine any_end (by kernel_rfl) ?_
                    refine np_n ?_
                    refine then_n ?_
                    have hS := hS.pickN 3 [2, 0] (by decide)
                    exact ⟨r2.1, r2.2.1, r2.2.2.1, r2.2.2.2, g2, hF.weak [1, 2, 3, 7, 8] (by kernel_rfl), hS, hm⟩
              · refine any_op (listed' := #[true, true, true, true, true, true, false, true, true, false]) (by kernel_rfl) (by kernel_rfl) ?_
                obtain ⟨w, hrun, hS⟩ := run_putA (P := Try.prog) (t := 101) (us := (List.toArray (([] : List Value) ++ (arr1 (Value.int .i64) (0 : Int) 2 r2.1 ++ ([.int .i64 r2.2.1, .int .i64 r2.2.2.1] : List Value))))) (o := 0) (hS.at_ 0 rfl) (by kernel_rfl) (all_one (by kernel_rfl)) (Nat.le_of_ble_eq_true (by kernel_rfl))
                refine at_skip hF (by kernel_rfl) hrun ?_
                have hS : Sep w0 B w (blk g2 101 (List.toArray (([] : List Value) ++ (arr1 (Value.int .i64) (0 : Int) 2 r2.1 ++ ([.int .i64 r2.2.1, .int .i64 r2.2.2.1] : List Value)))) :: own 3 (.slice A3 r1.length c8) (vI r1) :: blk g1 98 #[.int .i64 c1, .int .i64 c2, .int .i64 c3, .int .i64 c4, .int .i64 c5] :: fs) := hS
                refine any_fin rfl (hS.pickN 3 [2] (by decide)) ?_
                refine any_step [6] (by kernel_rfl) rfl ?_
                refine (all_cons ?_ all_nil)
                · refine any_op (listed' := #[true, true, true, true, true, true, true, true, true, false]) (by kernel_rfl) (by kernel_rfl) ?_
                  refine at_runW 1 [] [] [1, 2, 3, 7, 24] [pl 1 (.slice A1 used1.length c6), pl 2 (.int .i64 n2), pl 3 (.pointer (some ⟨g1, 0, none⟩)), pl 7 (.pointer (some ⟨g2, 0, none⟩)), pl 24 (.int .i64 r2.2.2.2)] hF hS (by kernel_rfl) (by kernel_rfl) ?_ (fun a hF => ?_)
                  · exact obs_nil
                  refine any_finI rfl (fun h => h) ?_
                  refine any_step [9] (by kernel_rfl) rfl ?_
                  refine (all_cons ?_ all_nil)
                  · refine any_op (listed' := #[true, true, true, true, true, true, true, true, true, true]) (by kernel_rfl) (by kernel_rfl) ?_
                    refine at_runW 1 [] [] [1, 2, 3, 7, 8] [pl 1 (.slice A1 used1.length c6), pl 2 (.int .i64 n2), pl 3 (.pointer (some ⟨g1, 0, none⟩)), pl 7 (.pointer (some ⟨g2, 0, none⟩)), pl 8 (.int .i64 r2.2.2.2)] hF hS (by kernel_rfl) (by kernel_rfl) ?_ (fun a hF => ?_)
                    · exact obs_nil
                    refine any_finI rfl (fun h => h) ?_
                    refine any_end (by kernel_rfl) ?_
                    refine np_n ?_
                    refine then_n ?_
                    have hS := hS.pickN 3 [2, 0] (by decide)
                    exact ⟨r2.1, r2.2.1, r2.2.2.1, r2.2.2.2, g2, hF.weak [1, 2, 3, 7, 8] (by kernel_rfl), hS, hm⟩
            · refine any_op (listed' := #[true, true, true, true, true, false, true, true, false, false]) (by kernel_rfl) (by kernel_rfl) ?_
              refine at_runW 1 [] [] [1, 2, 3, 7, 18, 24] [pl 1 (.slice A1 used1.length c6), pl 2 (.int .i64 n2), pl 3 (.pointer (some ⟨g1, 0, none⟩)), pl 7 (.pointer (some ⟨g2, 0, none⟩)), pl 18 (.tuple #[.agg (List.toArray (([] : List Value) ++ (arr1 (Value.int .i64) (0 : Int) 2 r2.1 ++ ([.int .i64 r2.2.1, .int .i64 r2.2.2.1] : List Value)))), .int .i64 r2.2.2.2]), pl 24 (.int .i64 r2.2.2.2)] hF hS (by kernel_rfl) (by kernel_rfl) ?_ (fun a hF => ?_)
              · exact obs_nil
              refine any_finI rfl (fun h => h) ?_
              refine any_step [5] (by kernel_rfl) rfl ?_
              refine (all_cons ?_ all_nil)
              · refine any_op (listed' := #[true, true, true, true, true, true, true, true, false, false]) (by kernel_rfl) (by kernel_rfl) ?_
                refine at_runW 1 [] [] [1, 2, 3, 7, 23, 24] [pl 1 (.slice A1 used1.length c6), pl 2 (.int .i64 n2), pl 3 (.pointer (some ⟨g1, 0, none⟩)), pl 7 (.pointer (some ⟨g2, 0, none⟩)), pl 23 (.agg (List.toArray (([] : List Value) ++ (arr1 (Value.int .i64) (0 : Int) 2 r2.1 ++ ([.int .i64 r2.2.1, .int .i64 r2.2.2.1] : List Value))))), pl 24 (.int .i64 r2.2.2.2)] hF hS (by kernel_rfl) (by kernel_rfl) ?_ (fun a hF => ?_)
                · exact obs_nil
                refine any_finI rfl (fun h => h) ?_
                refine any_step [8] (by kernel_rfl) rfl ?_
                refine (all_cons ?_ all_nil)
                · refine any_op (listed' := #[true, true, true, true, true, true, true, true, true, false]) (by kernel_rfl) (by kernel_rfl) ?_
                  obtain ⟨w, hrun, hS⟩ := run_putA (P := Try.prog) (t := 101) (us := (List.toArray (([] : List Value) ++ (arr1 (Value.int .i64) (0 : Int) 2 r2.1 ++ ([.int .i64 r2.2.1, .int .i64 r2.2.2.1] : List Value))))) (o := 0) (hS.at_ 0 rfl) (by kernel_rfl) (all_one (by kernel_rfl)) (Nat.le_of_ble_eq_true (by kernel_rfl))
                  refine at_skip hF (by kernel_rfl) hrun ?_
                  have hS : Sep w0 B w (blk g2 101 (List.toArray (([] : List Value) ++ (arr1 (Value.int .i64) (0 : Int) 2 r2.1 ++ ([.int .i64 r2.2.1, .int .i64 r2.2.2.1] : List Value)))) :: own 3 (.slice A3 r1.length c8) (vI r1) :: blk g1 98 #[.int .i64 c1, .int .i64 c2, .int .i64 c3, .int .i64 c4, .int .i64 c5] :: fs) := hS
                  refine any_fin rfl (hS.pickN 3 [2] (by decide)) ?_
                  refine any_step [9] (by kernel_rfl) rfl ?_
                  refine (all_cons ?_ all_nil)
                  · refine any_op (listed' := #[true, true, true, true, true, true, true, true, true, true]) (by kernel_rfl) (by kernel_rfl) ?_
                    refine at_runW 1 [] [] [1, 2, 3, 7, 8] [pl 1 (.slice A1 used1.length c6), pl 2 (.int .i64 n2), pl 3 (.pointer (some ⟨g1, 0, none⟩)), pl 7 (.pointer (some ⟨g2, 0, none⟩)), pl 8 (.int .i64 r2.2.2.2)] hF hS (by kernel_rfl) (by kernel_rfl) ?_ (fun a hF => ?_)
                    · exact obs_nil
                    refine any_finI rfl (fun h => h) ?_
                    refine any_end (by kernel_rfl) ?_
                    refine np_n ?_
                    refine then_n ?_
                    have hS := hS.pickN 3 [2, 0] (by decide)
                    exact ⟨r2.1, r2.2.1, r2.2.2.1, r2.2.2.2, g2, hF.weak [1, 2, 3, 7, 8] (by kernel_rfl), hS, hm⟩
    · refine any_op (listed' := #[true, true, false, false, false, false, false, true, false, false]) (by kernel_rfl) (by kernel_rfl) ?_
      refine at_do (d := 7) (s := vS (Instr.alloc 101 true (.tuple #[]))) (v := .pointer (some ⟨w.heap.size, 0, none⟩)) (w' := w.alloc (.cells (List.toArray (([] : List Value) ++ (arr1 (Value.int .i64) (0 : Int) 2 (List.replicate 2 (0 : Int)) ++ ([.int .i64 0, .int .i64 0] : List Value)))) 101)) hF (by kernel_rfl) (by kernel_rfl) (by kernel_rfl) (fun a hF => ?_)
      have hS : Sep w0 B (w.alloc (.cells (List.toArray (([] : List Value) ++ (arr1 (Value.int .i64) (0 : Int) 2 (List.replicate 2 (0 : Int)) ++ ([.int .i64 0, .int .i64 0] : List Value)))) 101)) (blk w.heap.size 101 (List.toArray (([] : List Value) ++ (arr1 (Value.int .i64) (0 : Int) 2 (List.replicate 2 (0 : Int)) ++ ([.int .i64 0, .int .i64 0] : List Value)))) :: (blk g1 98 #[.int .i64 c1, .int .i64 c2, .int .i64 c3, .int .i64 c4, .int .i64 c5] :: fs)) := hS.box 101 (List.toArray (([] : List Value) ++ (arr1 (Value.int .i64) (0 : Int) 2 (List.replicate 2 (0 : Int)) ++ ([.int .i64 0, .int .i64 0] : List Value))))
      generalize w.heap.size = g2 at hF hS
      generalize w.alloc (.cells (List.toArray (([] : List Value) ++ (arr1 (Value.int .i64) (0 : Int) 2 (List.replicate 2 (0 : Int)) ++ ([.int .i64 0, .int .i64 0] : List Value)))) 101) = w at hS ⊢
      refine any_fin rfl (hS.pickN 2 [1] (by decide)) ?_
      refine any_step [2] (by kernel_rfl) rfl ?_
      refine (all_cons ?_ all_nil)
      · refine any_op (listed' := #[true, true, true, false, false, false, false, true, false, false]) (by kernel_rfl) (by kernel_rfl) ?_
        refine at_call (f := 30) (args := #[.slice A1 used1.length c6]) (d := 21) hF (by kernel_rfl) (by kernel_rfl) Try.func30 (by kernel_rfl) rfl (gameroomlaw_ints_w hr1 hS (fun _ hS => (hr_used1 _ (hS.dropN 2))) _hc_used1 rfl) (fun v a w hR hF => ?_)
        clear hS
        obtain ⟨A4, c9, rfl, hS⟩ := hR
        have hS : Sep w0 B w (own 3 (.slice A4 r1.length c9) (vI r1) :: blk g2 101 (List.toArray (([] : List Value) ++ (arr1 (Value.int .i64) (0 : Int) 2 (List.replicate 2 (0 : Int)) ++ ([.int .i64 0, .int .i64 0] : List Value)))) :: blk g1 98 #[.int .i64 c1, .int .i64 c2, .int .i64 c3, .int .i64 c4, .int .i64 c5] :: fs) := hS
        refine any_fin rfl (hS.pickN 3 [2] (by decide)) ?_
        refine any_step [3] (by kernel_rfl) rfl ?_
        refine (all_cons ?_ all_nil)
        · refine any_op (listed' := #[true, true, true, true, false, false, false, true, false, false]) (by kernel_rfl) (by kernel_rfl) ?_
          refine at_run 1 [⟨false, [], callFunc 68 #[.agg #[.int .i64 c1, .int .i64 c2, .int .i64 c3, .int .i64 c4, .int .i64 c5], .slice A4 r1.length c9], .tuple #[.agg (List.toArray (([] : List Value) ++ (arr1 (Value.int .i64) (0 : Int) 2 r2.1 ++ ([.int .i64 r2.2.1, .int .i64 r2.2.2.1] : List Value)))), .int .i64 r2.2.2.2]⟩] [some (.tuple #[.agg (List.toArray (([] : List Value) ++ (arr1 (Value.int .i64) (0 : Int) 2 r2.1 ++ ([.int .i64 r2.2.1, .int .i64 r2.2.2.1] : List Value)))), .int .i64 r2.2.2.2])] [1, 2, 3, 7, 22] [pl 1 (.slice A1 used1.length c6), pl 2 (.int .i64 n2), pl 3 (.pointer (some ⟨g1, 0, none⟩)), pl 7 (.pointer (some ⟨g2, 0, none⟩)), pl 22 (.tuple #[.agg (List.toArray (([] : List Value) ++ (arr1 (Value.int .i64) (0 : Int) 2 r2.1 ++ ([.int .i64 r2.2.1, .int .i64 r2.2.2.1] : List Value)))), .int .i64 r2.2.2.2])] hF hS (by kernel_rfl) (by kernel_rfl) ?_ (fun a w hF hS => ?_)
          · exact obs_cons (ob_call Try.func68 (by kernel_rfl) rfl (fun _ _ hS => clock_Run_w hr2 hS (fun _ hS => (hS.at_ 0 rfl).rd) ((hS.at_ 0 rfl).cap1) rfl)) <| obs_nil
          refine any_fin rfl (hS.pickN 3 [2] (by decide)) ?_
          refine any_step [4] (by kernel_rfl) rfl ?_
          refine (all_cons ?_ all_nil)
          · refine any_op (listed' := #[true, true, true, true, true, false, false, true, false, false]) (by kernel_rfl) (by kernel_rfl) ?_
            refine at_runW 1 [] [] [1, 2, 3, 7, 18] [pl 1 (.slice A1 used1.length c6), pl 2 (.int .i64 n2), pl 3 (.pointer (some ⟨g1, 0, none⟩)), pl 7 (.pointer (some ⟨g2, 0, none⟩)), pl 18 (.tuple #[.agg (List.toArray (([] : List Value) ++ (arr1 (Value.int .i64) (0 : Int) 2 r2.1 ++ ([.int .i64 r2.2.1, .int .i64 r2.2.2.1] : List Value)))), .int .i64 r2.2.2.2])] hF hS (by kernel_rfl) (by kernel_rfl) ?_ (fun a hF => ?_)
            · exact obs_nil
            refine any_finI rfl (fun h => h) ?_
            refine any_step [5, 6] (by kernel_rfl) rfl ?_
            refine (all_cons ?_ (all_cons ?_ all_nil))
            · refine any_op (listed' := #[true, true, true, true, true, true, false, true, false, false]) (by kernel_rfl) (by kernel_rfl) ?_
              refine at_runW 1 [] [] [1, 2, 3, 7, 18, 23] [pl 1 (.slice A1 used1.length c6), pl 2 (.int .i64 n2), pl 3 (.pointer (some ⟨g1, 0, none⟩)), pl 7 (.pointer (some ⟨g2, 0, none⟩)), pl 18 (.tuple #[.agg (List.toArray (([] : List Value) ++ (arr1 (Value.int .i64) (0 : Int) 2 r2.1 ++ ([.int .i64 r2.2.1, .int .i64 r2.2.2.1] : List Value)))), .int .i64 r2.2.2.2]), pl 23 (.agg (List.toArray (([] : List Value) ++ (arr1 (Value.int .i64) (0 : Int) 2 r2.1 ++ ([.int .i64 r2.2.1, .int .i64 r2.2.2.1] : List Value)))))] hF hS (by kernel_rfl) (by kernel_rfl) ?_ (fun a hF => ?_)
              · exact obs_nil
              refine any_finI rfl (fun h => h) ?_
              refine any_step [6, 8] (by kernel_rfl) rfl ?_
              refine (all_cons ?_ (all_cons ?_ all_nil))
              · refine any_op (listed' := #[true, true, true, true, true, true, true, true, false, false]) (by kernel_rfl) (by kernel_rfl) ?_
                refine at_runW 1 [] [] [1, 2, 3, 7, 23, 24] [pl 1 (.slice A1 used1.length c6), pl 2 (.int .i64 n2), pl 3 (.pointer (some ⟨g1, 0, none⟩)), pl 7 (.pointer (some ⟨g2, 0, none⟩)), pl 23 (.agg (List.toArray (([] : List Value) ++ (arr1 (Value.int .i64) (0 : Int) 2 r2.1 ++ ([.int .i64 r2.2.1, .int .i64 r2.2.2.1] : List Value))))), pl 24 (.int .i64 r2.2.2.2)] hF hS (by kernel_rfl) (by kernel_rfl) ?_ (fun a hF => ?_)
                · exact obs_nil
                refine any_finI rfl (fun h => h) ?_
                refine any_step [8] (by kernel_rfl) rfl ?_
                refine (all_cons ?_ all_nil)
                · refine any_op (listed' := #[true, true, true, true, true, true, true, true, true, false]) (by kernel_rfl) (by kernel_rfl) ?_
                  obtain ⟨w, hrun, hS⟩ := run_putA (P := Try.prog) (t := 101) (us := (List.toArray (([] : List Value) ++ (arr1 (Value.int .i64) (0 : Int) 2 r2.1 ++ ([.int .i64 r2.2.1, .int .i64 r2.2.2.1] : List Value))))) (o := 0) (hS.at_ 1 rfl) (by kernel_rfl) (all_one (by kernel_rfl)) (Nat.le_of_ble_eq_true (by kernel_rfl))
                  refine at_skip hF (by kernel_rfl) hrun ?_
                  have hS : Sep w0 B w (own 3 (.slice A4 r1.length c9) (vI r1) :: blk g2 101 (List.toArray (([] : List Value) ++ (arr1 (Value.int .i64) (0 : Int) 2 r2.1 ++ ([.int .i64 r2.2.1, .int .i64 r2.2.2.1] : List Value)))) :: blk g1 98 #[.int .i64 c1, .int .i64 c2, .int .i64 c3, .int .i64 c4, .int .i64 c5] :: fs) := hS
                  refine any_fin rfl (hS.pickN 3 [2] (by decide)) ?_
                  refine any_step [9] (by kernel_rfl) rfl ?_
                  refine (all_cons ?_ all_nil)
                  · refine any_op (listed' := #[true, true, true, true, true, true, true, true, true, true]) (by kernel_rfl) (by kernel_rfl) ?_
                    refine at_runW 1 [] [] [1, 2, 3, 7, 8] [pl 1 (.slice A1 used1.length c6), pl 2 (.int .i64 n2), pl 3 (.pointer (some ⟨g1, 0, none⟩)), pl 7 (.pointer (some ⟨g2, 0, none⟩)), pl 8 (.int .i64 r2.2.2.2)] hF hS (by kernel_rfl) (by kernel_rfl) ?_ (fun a hF => ?_)
                    · exact obs_nil
                    refine any_finI rfl (fun h => h) ?_
                    refine any_end (by kernel_rfl) ?_
                    refine np_n ?_
                    refine then_n ?_
                    have hS := hS.pickN 3 [2, 1] (by decide)
                    exact ⟨r2.1, r2.2.1, r2.2.2.1, r2.2.2.2, g2, hF.weak [1, 2, 3, 7, 8] (by kernel_rfl), hS, hm⟩
              · refine any_op (listed' := #[true, true, true, true, true, true, false, true, true, false]) (by kernel_rfl) (by kernel_rfl) ?_
                obtain ⟨w, hrun, hS⟩ := run_putA (P := Try.prog) (t := 101) (us := (List.toArray (([] : List Value) ++ (arr1 (Value.int .i64) (0 : Int) 2 r2.1 ++ ([.int .i64 r2.2.1, .int .i64 r2.2.2.1] : List Value))))) (o := 0) (hS.at_ 1 rfl) (by kernel_rfl) (all_one (by kernel_rfl)) (Nat.le_of_ble_eq_true (by kernel_rfl))
                refine at_skip hF (by kernel_rfl) hrun ?_
                have hS : Sep w0 B w (own 3 (.slice A4 r1.length c9) (vI r1) :: blk g2 101 (List.toArray (([] : List Value) ++ (arr1 (Value.int .i64) (0 : Int) 2 r2.1 ++ ([.int .i64 r2.2.1, .int .i64 r2.2.2.1] : List Value)))) :: blk g1 98 #[.int .i64 c1, .int .i64 c2, .int .i64 c3, .int .i64 c4, .int .i64 c5] :: fs) := hS
                refine any_fin rfl (hS.pickN 3 [2] (by decide)) ?_
                refine any_step [6] (by kernel_rfl) rfl ?_
                refine (all_cons ?_ all_nil)
                · refine any_op (listed' := #[true, true, true, true, true, true, true, true, true, false]) (by kernel_rfl) (by kernel_rfl) ?_
                  refine at_runW 1 [] [] [1, 2, 3, 7, 24] [pl 1 (.slice A1 used1.length c6), pl 2 (.int .i64 n2), pl 3 (.pointer (some ⟨g1, 0, none⟩)), pl 7 (.pointer (some ⟨g2, 0, none⟩)), pl 24 (.int .i64 r2.2.2.2)] hF hS (by kernel_rfl) (by kernel_rfl) ?_ (fun a hF => ?_)
                  · exact obs_nil
                  refine any_finI rfl (fun h => h) ?_
                  refine any_step [9] (by kernel_rfl) rfl ?_
                  refine (all_cons ?_ all_nil)
                  · refine any_op (listed' := #[true, true, true, true, true, true, true, true, true, true]) (by kernel_rfl) (by kernel_rfl) ?_
                    refine at_runW 1 [] [] [1, 2, 3, 7, 8] [pl 1 (.slice A1 used1.length c6), pl 2 (.int .i64 n2), pl 3 (.pointer (some ⟨g1, 0, none⟩)), pl 7 (.pointer (some ⟨g2, 0, none⟩)), pl 8 (.int .i64 r2.2.2.2)] hF hS (by kernel_rfl) (by kernel_rfl) ?_ (fun a hF => ?_)
                    · exact obs_nil
                    refine any_finI rfl (fun h => h) ?_
                    refine any_end (by kernel_rfl) ?_
                    refine np_n ?_
                    refine then_n ?_
                    have hS := hS.pickN 3 [2, 1] (by decide)
                    exact ⟨r2.1, r2.2.1, r2.2.2.1, r2.2.2.2, g2, hF.weak [1, 2, 3, 7, 8] (by kernel_rfl), hS, hm⟩
            · refine any_op (listed' := #[true, true, true, true, true, false, true, true, false, false]) (by kernel_rfl) (by kernel_rfl) ?_
              refine at_runW 1 [] [] [1, 2, 3, 7, 18, 24] [pl 1 (.slice A1 used1.length c6), pl 2 (.int .i64 n2), pl 3 (.pointer (some ⟨g1, 0, none⟩)), pl 7 (.pointer (some ⟨g2, 0, none⟩)), pl 18 (.tuple #[.agg (List.toArray (([] : List Value) ++ (arr1 (Value.int .i64) (0 : Int) 2 r2.1 ++ ([.int .i64 r2.2.1, .int .i64 r2.2.2.1] : List Value)))), .int .i64 r2.2.2.2]), pl 24 (.int .i64 r2.2.2.2)] hF hS (by kernel_rfl) (by kernel_rfl) ?_ (fun a hF => ?_)
              · exact obs_nil
              refine any_finI rfl (fun h => h) ?_
              refine any_step [5] (by kernel_rfl) rfl ?_
              refine (all_cons ?_ all_nil)
              · refine any_op (listed' := #[true, true, true, true, true, true, true, true, false, false]) (by kernel_rfl) (by kernel_rfl) ?_
                refine at_runW 1 [] [] [1, 2, 3, 7, 23, 24] [pl 1 (.slice A1 used1.length c6), pl 2 (.int .i64 n2), pl 3 (.pointer (some ⟨g1, 0, none⟩)), pl 7 (.pointer (some ⟨g2, 0, none⟩)), pl 23 (.agg (List.toArray (([] : List Value) ++ (arr1 (Value.int .i64) (0 : Int) 2 r2.1 ++ ([.int .i64 r2.2.1, .int .i64 r2.2.2.1] : List Value))))), pl 24 (.int .i64 r2.2.2.2)] hF hS (by kernel_rfl) (by kernel_rfl) ?_ (fun a hF => ?_)
                · exact obs_nil
                refine any_finI rfl (fun h => h) ?_
                refine any_step [8] (by kernel_rfl) rfl ?_
                refine (all_cons ?_ all_nil)
                · refine any_op (listed' := #[true, true, true, true, true, true, true, true, true, false]) (by kernel_rfl) (by kernel_rfl) ?_
                  obtain ⟨w, hrun, hS⟩ := run_putA (P := Try.prog) (t := 101) (us := (List.toArray (([] : List Value) ++ (arr1 (Value.int .i64) (0 : Int) 2 r2.1 ++ ([.int .i64 r2.2.1, .int .i64 r2.2.2.1] : List Value))))) (o := 0) (hS.at_ 1 rfl) (by kernel_rfl) (all_one (by kernel_rfl)) (Nat.le_of_ble_eq_true (by kernel_rfl))
                  refine at_skip hF (by kernel_rfl) hrun ?_
                  have hS : Sep w0 B w (own 3 (.slice A4 r1.length c9) (vI r1) :: blk g2 101 (List.toArray (([] : List Value) ++ (arr1 (Value.int .i64) (0 : Int) 2 r2.1 ++ ([.int .i64 r2.2.1, .int .i64 r2.2.2.1] : List Value)))) :: blk g1 98 #[.int .i64 c1, .int .i64 c2, .int .i64 c3, .int .i64 c4, .int .i64 c5] :: fs) := hS
                  refine any_fin rfl (hS.pickN 3 [2] (by decide)) ?_
                  refine any_step [9] (by kernel_rfl) rfl ?_
                  refine (all_cons ?_ all_nil)
                  · refine any_op (listed' := #[true, true, true, true, true, true, true, true, true, true]) (by kernel_rfl) (by kernel_rfl) ?_
                    refine at_runW 1 [] [] [1, 2, 3, 7, 8] [pl 1 (.slice A1 used1.length c6), pl 2 (.int .i64 n2), pl 3 (.pointer (some ⟨g1, 0, none⟩)), pl 7 (.pointer (some ⟨g2, 0, none⟩)), pl 8 (.int .i64 r2.2.2.2)] hF hS (by kernel_rfl) (by kernel_rfl) ?_ (fun a hF => ?_)
                    · exact obs_nil
                    refine any_finI rfl (fun h => h) ?_
                    refine any_end (by kernel_rfl) ?_
                    refine np_n ?_
                    refine then_n ?_
                    have hS := hS.pickN 3 [2, 1] (by decide)
                    exact ⟨r2.1, r2.2.1, r2.2.2.1, r2.2.2.2, g2, hF.weak [1, 2, 3, 7, 8] (by kernel_rfl), hS, hm⟩

end Go.Proofs.Ytbmhcapeikebgaa
