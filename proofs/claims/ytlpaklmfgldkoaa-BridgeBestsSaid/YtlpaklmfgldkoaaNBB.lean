/-
  Models and walks, printed by our own program (wip/gen).
-/
import Derived.Test.YtlpaklmfgldkoaaFB
import Derived.Test.YtlpaklmfgldkoaaLibBg
import Derived.Test.YtlpaklmfgldkoaaLibHd
import Derived.Test.YtlpaklmfgldkoaaFM
import Derived.Test.YtlpaklmfgldkoaaSI
import Derived.Test.YtlpaklmfgldkoaaNBBa
namespace Go.Proofs.Ytlpaklmfgldkoaa
open Go Go.GL Go.RowKit

noncomputable def bridge_Best_m  (hands1 : List (List Int)) (strain1 : Int) (leader1 : Int) : Option (Int × Int) :=
  if ((hands1.length : Int) != 4) then (some (0, 11)) else ((bridge_Best_J1 hands1 strain1 leader1))

set_option maxRecDepth 100000 in
set_option maxHeartbeats 4000000 in
theorem bridge_Best_w {A1 : Option Addr} {c1 : Nat} {n1 : Nat} {hd1 : List Hd} {hands1 : List (List Int)} {strain1 : Int} {leader1 : Int} {r : (Int × Int)} {w0 w : World} {B : Nat} {fs : List HP} (hm : bridge_Best_m hands1 strain1 leader1 = some r) (hS : Sep w0 B w (fs)) (hr_hands1 : RdRowsF w0 B fs A1 hd1 hands1) (_hc_hands1 : hands1.length ≤ c1) (_hn_hands1 : n1 = hands1.length) :
    Calls Try.prog 50 #[.slice A1 n1 c1, .int .i64 strain1, .int .i64 leader1] w fun e w' => e = .returned (.tuple #[.int .i64 r.1, .int .i64 r.2]) ∧ Sep w0 B w' (fs) := by
  obtain ⟨i3, hi3, hz3, hs3, hb3⟩ := info_parts Info3
  obtain ⟨i34, hi34, hz34, hs34, hb34⟩ := info_parts Info34
  obtain rfl := _hn_hands1
  unfold bridge_Best_m at hm
  replace hm := start_b hm
  refine enter (l := [.slice A1 hands1.length c1, .int .i64 strain1, .int .i64 leader1]) (n := 94) Try.func50 rfl rfl (by simp) (fun a hF => ?_)
  refine reg [] [] [0, 1, 2] [pl 0 (.slice A1 hands1.length c1), pl 1 (.int .i64 strain1), pl 2 (.int .i64 leader1)] hF hS Fol (by kernel_rfl) (by kernel_rfl) (by kernel_rfl) ?_ (fun a w hF hS => ?_)
  · exact obs_nil
  refine seq_cut (fun a w => Fr 94 [pl 0 (.slice A1 hands1.length c1), pl 1 (.int .i64 strain1), pl 2 (.int .i64 leader1)] a ∧ Sep w0 B w (fs) ∧ ((bridge_Best_J1 hands1 strain1 leader1)).bind some = some r) ?_ ?_
  · rintro a w ⟨hF, hS, hm⟩
    unfold bridge_Best_J1 at hm
    refine seq_cut (fun a w => Fr 94 [pl 0 (.slice A1 hands1.length c1), pl 1 (.int .i64 strain1), pl 2 (.int .i64 leader1)] a ∧ Sep w0 B w (fs) ∧ ((bridge_Best_J2 hands1 strain1 leader1)).bind some = some r) ?_ ?_
    · rintro a w ⟨hF, hS, hm⟩
      unfold bridge_Best_J2 at hm
      refine seq_cut (fun a w => Fr 94 [pl 0 (.slice A1 hands1.length c1), pl 1 (.int .i64 strain1), pl 2 (.int .i64 leader1)] a ∧ Sep w0 B w (fs) ∧ ((bridge_Best_J5 hands1 strain1 leader1)).bind some = some r) ?_ ?_
      · rintro a w ⟨hF, hS, hm⟩
        unfold bridge_Best_J5 at hm
        refine seq_cut (fun a w => Fr 94 [pl 0 (.slice A1 hands1.length c1), pl 1 (.int .i64 strain1), pl 2 (.int .i64 leader1)] a ∧ Sep w0 B w (fs) ∧ ((bridge_Best_J6 hands1 strain1 leader1)).bind some = some r) ?_ ?_
        · rintro a w ⟨hF, hS, hm⟩
          unfold bridge_Best_J6 at hm
          refine seqR ?_
          refine at_do (d := 11) (s := vS (Instr.alloc 147 true (.tuple #[]))) (v := .pointer (some ⟨w.heap.size, 0, none⟩)) (w' := w.alloc (.cells (List.toArray (([] : List Value) ++ (arr1 (Value.int .i64) (0 : Int) 52 (List.replicate 52 (0 : Int)) ++ ([] : List Value)))) 147)) hF (by kernel_rfl) (by kernel_rfl) (by kernel_rfl) (fun a hF => ?_)
          have hS : Sep w0 B (w.alloc (.cells (List.toArray (([] : List Value) ++ (arr1 (Value.int .i64) (0 : Int) 52 (List.replicate 52 (0 : Int)) ++ ([] : List Value)))) 147)) (blk w.heap.size 147 (List.toArray (([] : List Value) ++ (arr1 (Value.int .i64) (0 : Int) 52 (List.replicate 52 (0 : Int)) ++ ([] : List Value)))) :: (fs)) := hS.box 147 (List.toArray (([] : List Value) ++ (arr1 (Value.int .i64) (0 : Int) 52 (List.replicate 52 (0 : Int)) ++ ([] : List Value))))
          generalize w.heap.size = g1 at hF hS
          generalize w.alloc (.cells (List.toArray (([] : List Value) ++ (arr1 (Value.int .i64) (0 : Int) 52 (List.replicate 52 (0 : Int)) ++ ([] : List Value)))) 147) = w at hS ⊢
          refine at_end [0, 1, 2, 11] [pl 0 (.slice A1 hands1.length c1), pl 1 (.int .i64 strain1), pl 2 (.int .i64 leader1), pl 11 (.pointer (some ⟨g1, 0, none⟩))] hF rfl (by kernel_rfl) (fun hF => ?_)
          refine then_n ?_
          refine seq_cut (fun a w => ∃ (d2 : List Int), Fr 94 [pl 0 (.slice A1 hands1.length c1), pl 1 (.int .i64 strain1), pl 2 (.int .i64 leader1), pl 11 (.pointer (some ⟨g1, 0, none⟩))] a ∧ Sep w0 B w (blk g1 147 (List.toArray (([] : List Value) ++ (arr1 (Value.int .i64) (0 : Int) 52 d2 ++ ([] : List Value)))) :: fs) ∧ ((bridge_Best_J7 hands1 strain1 leader1) d2).bind some = some r) ?_ ?_
          · rintro a w ⟨d2, hF, hS, hm⟩
            unfold bridge_Best_J7 at hm
            refine seq_cut (fun a w => ∃ (d4 : List Int), Fr 94 [pl 1 (.int .i64 strain1), pl 2 (.int .i64 leader1), pl 11 (.pointer (some ⟨g1, 0, none⟩))] a ∧ Sep w0 B w (blk g1 147 (List.toArray (([] : List Value) ++ (arr1 (Value.int .i64) (0 : Int) 52 d4 ++ ([] : List Value)))) :: fs) ∧ ((bridge_Best_J10 strain1 leader1) d4).bind some = some r) ?_ ?_
            · rintro a w ⟨d4, hF, hS, hm⟩
              unfold bridge_Best_J10 at hm
              refine seqR ?_
              refine at_run 1 [] [] [2, 11, 89] [pl 2 (.int .i64 leader1), pl 11 (.pointer (some ⟨g1, 0, none⟩)), pl 89 (.int .i64 strain1)] hF hS (by kernel_rfl) (by kernel_rfl) ?_ (fun a w hF hS => ?_)
              · exact obs_nil
              refine at_do (d := 90) (s := vS (Instr.makeMap 148 none)) (v := .map (some w.heap.size)) (w' := w.alloc (.map #[] 0)) hF (by kernel_rfl) (by kernel_rfl) (by kernel_rfl) (fun a hF => ?_)
              have hS : Sep w0 B (w.alloc (.map #[] 0)) (mapH kf198 (Value.int .i64) w.heap.size ([] : List ((Int × Int) × Int)) :: (blk g1 147 (List.toArray (([] : List Value) ++ (arr1 (Value.int .i64) (0 : Int) 52 d4 ++ ([] : List Value)))) :: fs)) := hS.mapNew _ _
              generalize w.heap.size = g2 at hF hS
              generalize w.alloc (.map #[] 0) = w at hS ⊢
              refine at_run 1 [] [] [2, 11, 91] [pl 2 (.int .i64 leader1), pl 11 (.pointer (some ⟨g1, 0, none⟩)), pl 91 (.agg #[.int .i64 strain1, .map (some g2)])] hF hS (by kernel_rfl) (by kernel_rfl) ?_ (fun a w hF hS => ?_)
              · exact obs_nil
              refine at_do (d := 17) (s := vS (Instr.alloc 150 true (.tuple #[]))) (v := .pointer (some ⟨w.heap.size, 0, none⟩)) (w' := w.alloc (.cells #[.int .i64 0, .map none] 150)) hF (by kernel_rfl) (by kernel_rfl) (by kernel_rfl) (fun a hF => ?_)
              have hS : Sep w0 B (w.alloc (.cells #[.int .i64 0, .map none] 150)) (blk w.heap.size 150 #[.int .i64 0, .map none] :: (mapH kf198 (Value.int .i64) g2 ([] : List ((Int × Int) × Int)) :: blk g1 147 (List.toArray (([] : List Value) ++ (arr1 (Value.int .i64) (0 : Int) 52 d4 ++ ([] : List Value)))) :: fs)) := hS.box 150 #[.int .i64 0, .map none]
              generalize w.heap.size = g3 at hF hS
              generalize w.alloc (.cells #[.int .i64 0, .map none] 150) = w at hS ⊢
              obtain ⟨w, hrun, hS⟩ := run_putA (P := Try.prog) (t := 150) (us := #[.int .i64 strain1, .map (some g2)]) (o := 0) (hS.at_ 0 rfl) (by kernel_rfl) (all_one (by kernel_rfl)) (Nat.le_of_ble_eq_true (by kernel_rfl))
              refine at_skip hF (by kernel_rfl) hrun ?_
              have hS : Sep w0 B w (blk g3 150 #[.int .i64 strain1, .map (some g2)] :: mapH kf198 (Value.int .i64) g2 ([] : List ((Int × Int) × Int)) :: blk g1 147 (List.toArray (([] : List Value) ++ (arr1 (Value.int .i64) (0 : Int) 52 d4 ++ ([] : List Value)))) :: fs) := hS
              refine at_end [2, 11, 17] [pl 2 (.int .i64 leader1), pl 11 (.pointer (some ⟨g1, 0, none⟩)), pl 17 (.pointer (some ⟨g3, 0, none⟩))] hF rfl (by kernel_rfl) (fun hF => ?_)
              refine then_n ?_
              refine seqR ?_
              obtain ⟨r3, hr3, hm⟩ := call_b hm
              refine at_run 1 [] [] [11, 17, 92] [pl 11 (.pointer (some ⟨g1, 0, none⟩)), pl 17 (.pointer (some ⟨g3, 0, none⟩)), pl 92 (.int .i64 leader1)] hF hS (by kernel_rfl) (by kernel_rfl) ?_ (fun a w hF hS => ?_)
              · exact obs_nil
              refine at_call (f := 113) (args := #[.pointer (some ⟨g3, 0, none⟩), .pointer (some ⟨g1, 0, none⟩), .int .i64 leader1]) (d := 93) hF (by kernel_rfl) (by kernel_rfl) Try.func113 (by kernel_rfl) rfl (bridge_table_best_w hr3 hS ) (fun v a w hR hF => ?_)
              clear hS
              obtain ⟨rfl, hS⟩ := hR
              have hS : Sep w0 B w (blk g3 150 #[.int .i64 strain1, .map (some g2)] :: mapH kf198 (Value.int .i64) g2 r3.2.1 :: blk g1 147 (List.toArray (([] : List Value) ++ (arr1 (Value.int .i64) (0 : Int) 52 r3.2.2 ++ ([] : List Value)))) :: fs) := hS
              refine at_run 2 [] [] [6, 7] [pl 6 (.int .i64 r3.1), pl 7 (.int .i64 0)] hF hS (by kernel_rfl) (by kernel_rfl) ?_ (fun a w hF hS => ?_)
              · exact obs_nil
              refine at_end [6, 7] [pl 6 (.int .i64 r3.1), pl 7 (.int .i64 0)] hF rfl (by kernel_rfl) (fun hF => ?_)
              refine then_n ?_
              refine wpIn_ret ?_
              have hS := hS.pickN 3 [] (by decide)
              have hm : some (r3.1, 0) = some r := hm
              obtain rfl := Option.some.inj hm
              exact retV (rs := [.tmp 6, .tmp 7]) (vs := [.int .i64 r3.1, .int .i64 0]) hF rfl (rv_t (by kernel_rfl) <| rv_t (by kernel_rfl) <| rv_nil) rfl ⟨rfl, hS⟩
            · refine reg [] [] [1, 2, 11, 71, 72, 73] [pl 1 (.int .i64 strain1), pl 2 (.int .i64 leader1), pl 11 (.pointer (some ⟨g1, 0, none⟩)), pl 71 (.slice A1 hands1.length c1), pl 72 (.int .i64 (hands1.length : Int)), pl 73 (.int .i64 0)] hF hS Fol (by kernel_rfl) (by kernel_rfl) (by kernel_rfl) ?_ (fun a w hF hS => ?_)
              · exact obs_nil
              refine wpIn_block ?_
              refine wp_loop_model (S := (List Int × Int)) (R := (List Int)) (bridge_Best_L3 hands1) (fun x => ((bridge_Best_K3 strain1 leader1) x).bind some) r (fun (x : (List Int × Int)) a w => Fr 94 [pl 1 (.int .i64 strain1), pl 2 (.int .i64 leader1), pl 11 (.pointer (some ⟨g1, 0, none⟩)), pl 71 (.slice A1 hands1.length c1), pl 72 (.int .i64 (hands1.length : Int)), pl 73 (.int .i64 x.2)] a ∧ Sep w0 B w (blk g1 147 (List.toArray (([] : List Value) ++ (arr1 (Value.int .i64) (0 : Int) 52 x.1 ++ ([] : List Value)))) :: fs)) (assoc_b hm) ⟨hF.weak [1, 2, 11, 71, 72, 73] (by kernel_rfl), hS⟩ ?_
              clear hF hS hm
              rintro nn3 ⟨d3, z3⟩ a w ⟨hF, hS⟩ hm
              generalize hφ3 : stK (bridge_Best_L3 hands1) nn3 (fun x => ((bridge_Best_K3 strain1 leader1) x).bind some) = φ3 at hm
              unfold bridge_Best_L3 at hm
              dsimp only at hF hS hm
              refine reg [] [] [1, 2, 11, 71, 72, 73, 74] [pl 1 (.int .i64 strain1), pl 2 (.int .i64 leader1), pl 11 (.pointer (some ⟨g1, 0, none⟩)), pl 71 (.slice A1 hands1.length c1), pl 72 (.int .i64 (hands1.length : Int)), pl 73 (.int .i64 z3), pl 74 (.bool (decide (z3 < (hands1.length : Int))))] hF hS Fol (by kernel_rfl) (by kernel_rfl) (by kernel_rfl) ?_ (fun a w hF hS => ?_)
              · exact obs_nil
              refine seq_cut (fun a w => Fr 94 [pl 1 (.int .i64 strain1), pl 2 (.int .i64 leader1), pl 11 (.pointer (some ⟨g1, 0, none⟩)), pl 71 (.slice A1 hands1.length c1), pl 72 (.int .i64 (hands1.length : Int)), pl 73 (.int .i64 z3)] a ∧ Sep w0 B w (blk g1 147 (List.toArray (([] : List Value) ++ (arr1 (Value.int .i64) (0 : Int) 52 d3 ++ ([] : List Value)))) :: fs) ∧ ((bridge_Best_J11 hands1 d3 z3)).bind φ3 = some r) ?_ ?_
              · rintro a w ⟨hF, hS, hm⟩
                unfold bridge_Best_J11 at hm
                refine seq_cut (fun a w => ∃ (d6 : List Int), Fr 94 [pl 1 (.int .i64 strain1), pl 2 (.int .i64 leader1), pl 11 (.pointer (some ⟨g1, 0, none⟩)), pl 71 (.slice A1 hands1.length c1), pl 72 (.int .i64 (hands1.length : Int)), pl 73 (.int .i64 z3)] a ∧ Sep w0 B w (blk g1 147 (List.toArray (([] : List Value) ++ (arr1 (Value.int .i64) (0 : Int) 52 d6 ++ ([] : List Value)))) :: fs) ∧ ((bridge_Best_J12 z3) d6).bind φ3 = some r) ?_ ?_
                · rintro a w ⟨d6, hF, hS, hm⟩
                  unfold bridge_Best_J12 at hm
                  refine reg1 [] [] [1, 2, 11, 71, 72, 73] [pl 1 (.int .i64 strain1), pl 2 (.int .i64 leader1), pl 11 (.pointer (some ⟨g1, 0, none⟩)), pl 71 (.slice A1 hands1.length c1), pl 72 (.int .i64 (hands1.length : Int)), pl 73 (.int .i64 (w64 (z3 + 1)))] hF hS Fol (by kernel_rfl) (by kernel_rfl) (by kernel_rfl) ?_ (fun a w hF hS => ?_)
                  · exact obs_nil
                  refine then_n ?_
                  rw [← hφ3] at hm
                  exact ⟨(d6, (w64 (z3 + 1))), ⟨hF.weak [1, 2, 11, 71, 72, 73] (by kernel_rfl), hS⟩, hm⟩
                · refine wpIn_block ?_
                  obtain ⟨hp5, hm⟩ := asrt_b hm
                  refine reg [⟨true, [], vS (Instr.indexAt 45 (.slice A1 hands1.length c1) (.int .i64 z3)), .pointer (some (sAddr A1 z3))⟩, ⟨false, [], vS (Instr.loadAt 34 (.pointer (some (sAddr A1 z3)))), .slice (hdA hd1 z3) ((geti2 hands1 z3).length) (hdC hd1 z3)⟩] [none, some (.pointer (some (sAddr A1 z3))), some (.slice (hdA hd1 z3) ((geti2 hands1 z3).length) (hdC hd1 z3)), none, none] [1, 2, 11, 13, 14, 71, 72, 73] [pl 1 (.int .i64 strain1), pl 2 (.int .i64 leader1), pl 11 (.pointer (some ⟨g1, 0, none⟩)), pl 13 (.int .i64 z3), pl 14 (.slice (hdA hd1 z3) ((geti2 hands1 z3).length) (hdC hd1 z3)), pl 71 (.slice A1 hands1.length c1), pl 72 (.int .i64 (hands1.length : Int)), pl 73 (.int .i64 z3)] hF hS Fol (by kernel_rfl) (by kernel_rfl) (by kernel_rfl) ?_ (fun a w hF hS => ?_)
                  · exact obs_cons (ob_ixRn Und45 hi34 hs34 (hr_hands1 _ (hS.dropN 1)) rfl (fun _ => hp5)) <| obs_cons (ob_getR Agg34 (fun _ hS => ⟨_, (hr_hands1 _ (hS.dropN 1))⟩) (fun _ => hp5)) <| obs_nil
                  refine reg [] [] [1, 2, 11, 13, 71, 72, 73, 78, 79, 80] [pl 1 (.int .i64 strain1), pl 2 (.int .i64 leader1), pl 11 (.pointer (some ⟨g1, 0, none⟩)), pl 13 (.int .i64 z3), pl 71 (.slice A1 hands1.length c1), pl 72 (.int .i64 (hands1.length : Int)), pl 73 (.int .i64 z3), pl 78 (.slice (hdA hd1 z3) ((geti2 hands1 z3).length) (hdC hd1 z3)), pl 79 (.int .i64 (((geti2 hands1 z3).length : Nat) : Int)), pl 80 (.int .i64 0)] hF hS Fol (by kernel_rfl) (by kernel_rfl) (by kernel_rfl) ?_ (fun a w hF hS => ?_)
                  · exact obs_nil
                  refine wpIn_block ?_
                  refine wp_loop_model (S := (List Int × Int)) (R := (List Int)) (bridge_Best_L4 hands1 z3) (fun x => ((bridge_Best_K4 z3) x).bind φ3) r (fun (x : (List Int × Int)) a w => Fr 94 [pl 1 (.int .i64 strain1), pl 2 (.int .i64 leader1), pl 11 (.pointer (some ⟨g1, 0, none⟩)), pl 13 (.int .i64 z3), pl 71 (.slice A1 hands1.length c1), pl 72 (.int .i64 (hands1.length : Int)), pl 73 (.int .i64 z3), pl 78 (.slice (hdA hd1 z3) ((geti2 hands1 z3).length) (hdC hd1 z3)), pl 79 (.int .i64 (((geti2 hands1 z3).length : Nat) : Int)), pl 80 (.int .i64 x.2)] a ∧ Sep w0 B w (blk g1 147 (List.toArray (([] : List Value) ++ (arr1 (Value.int .i64) (0 : Int) 52 x.1 ++ ([] : List Value)))) :: fs)) (assoc_b hm) ⟨hF.weak [1, 2, 11, 13, 71, 72, 73, 78, 79, 80] (by kernel_rfl), hS⟩ ?_
                  clear hF hS hm
                  rintro nn4 ⟨d5, z4⟩ a w ⟨hF, hS⟩ hm
                  generalize hφ4 : stK (bridge_Best_L4 hands1 z3) nn4 (fun x => ((bridge_Best_K4 z3) x).bind φ3) = φ4 at hm
                  unfold bridge_Best_L4 at hm
                  dsimp only at hF hS hm
                  refine reg [] [] [1, 2, 11, 13, 71, 72, 73, 78, 79, 80, 81] [pl 1 (.int .i64 strain1), pl 2 (.int .i64 leader1), pl 11 (.pointer (some ⟨g1, 0, none⟩)), pl 13 (.int .i64 z3), pl 71 (.slice A1 hands1.length c1), pl 72 (.int .i64 (hands1.length : Int)), pl 73 (.int .i64 z3), pl 78 (.slice (hdA hd1 z3) ((geti2 hands1 z3).length) (hdC hd1 z3)), pl 79 (.int .i64 (((geti2 hands1 z3).length : Nat) : Int)), pl 80 (.int .i64 z4), pl 81 (.bool (decide (z4 < (((geti2 hands1 z3).length : Nat) : Int))))] hF hS Fol (by kernel_rfl) (by kernel_rfl) (by kernel_rfl) ?_ (fun a w hF hS => ?_)
                  · exact obs_nil
                  refine seq_cut (fun a w => Fr 94 [pl 1 (.int .i64 strain1), pl 2 (.int .i64 leader1), pl 11 (.pointer (some ⟨g1, 0, none⟩)), pl 13 (.int .i64 z3), pl 71 (.slice A1 hands1.length c1), pl 72 (.int .i64 (hands1.length : Int)), pl 73 (.int .i64 z3), pl 78 (.slice (hdA hd1 z3) ((geti2 hands1 z3).length) (hdC hd1 z3)), pl 79 (.int .i64 (((geti2 hands1 z3).length : Nat) : Int)), pl 80 (.int .i64 z4)] a ∧ Sep w0 B w (blk g1 147 (List.toArray (([] : List Value) ++ (arr1 (Value.int .i64) (0 : Int) 52 d5 ++ ([] : List Value)))) :: fs) ∧ ((bridge_Best_J13 hands1 z3 d5 z4)).bind φ4 = some r) ?_ ?_
                  · rintro a w ⟨hF, hS, hm⟩
                    unfold bridge_Best_J13 at hm
                    refine seq_cut (fun a w => Fr 94 [pl 1 (.int .i64 strain1), pl 2 (.int .i64 leader1), pl 11 (.pointer (some ⟨g1, 0, none⟩)), pl 13 (.int .i64 z3), pl 71 (.slice A1 hands1.length c1), pl 72 (.int .i64 (hands1.length : Int)), pl 73 (.int .i64 z3), pl 78 (.slice (hdA hd1 z3) ((geti2 hands1 z3).length) (hdC hd1 z3)), pl 79 (.int .i64 (((geti2 hands1 z3).length : Nat) : Int)), pl 80 (.int .i64 z4)] a ∧ Sep w0 B w (blk g1 147 (List.toArray (([] : List Value) ++ (arr1 (Value.int .i64) (0 : Int) 52 (d5.set (Int.toNat (geti (geti2 hands1 z3) z4)) z3) ++ ([] : List Value)))) :: fs) ∧ ((bridge_Best_J14 hands1 z3 d5 z4)).bind φ4 = some r) ?_ ?_
                    · rintro a w ⟨hF, hS, hm⟩
                      unfold bridge_Best_J14 at hm
                      refine reg1 [] [] [1, 2, 11, 13, 71, 72, 73, 78, 79, 80] [pl 1 (.int .i64 strain1), pl 2 (.int .i64 leader1), pl 11 (.pointer (some ⟨g1, 0, none⟩)), pl 13 (.int .i64 z3), pl 71 (.slice A1 hands1.length c1), pl 72 (.int .i64 (hands1.length : Int)), pl 73 (.int .i64 z3), pl 78 (.slice (hdA hd1 z3) ((geti2 hands1 z3).length) (hdC hd1 z3)), pl 79 (.int .i64 (((geti2 hands1 z3).length : Nat) : Int)), pl 80 (.int .i64 (w64 (z4 + 1)))] hF hS Fol (by kernel_rfl) (by kernel_rfl) (by kernel_rfl) ?_ (fun a w hF hS => ?_)
                      · exact obs_nil
                      refine then_n ?_
                      rw [← hφ4] at hm
                      exact ⟨((d5.set (Int.toNat (geti (geti2 hands1 z3) z4)) z3), (w64 (z4 + 1))), ⟨hF.weak [1, 2, 11, 13, 71, 72, 73, 78, 79, 80] (by kernel_rfl), hS⟩, hm⟩
                    · refine wpIn_block ?_
                      obtain ⟨hp6, hm⟩ := asrt_b hm
                      refine reg [⟨true, [], vS (Instr.indexAt 34 (.slice (hdA hd1 z3) ((geti2 hands1 z3).length) (hdC hd1 z3)) (.int .i64 z4)), .pointer (some (sAddr (hdA hd1 z3) z4))⟩, ⟨false, [], vS (Instr.loadAt 3 (.pointer (some (sAddr (hdA hd1 z3) z4)))), .int .i64 (geti (geti2 hands1 z3) z4)⟩] [some (.pointer (some (sAddr (hdA hd1 z3) z4))), some (.int .i64 (geti (geti2 hands1 z3) z4)), none] [1, 2, 11, 13, 16, 71, 72, 73, 78, 79, 80] [pl 1 (.int .i64 strain1), pl 2 (.int .i64 leader1), pl 11 (.pointer (some ⟨g1, 0, none⟩)), pl 13 (.int .i64 z3), pl 16 (.int .i64 (geti (geti2 hands1 z3) z4)), pl 71 (.slice A1 hands1.length c1), pl 72 (.int .i64 (hands1.length : Int)), pl 73 (.int .i64 z3), pl 78 (.slice (hdA hd1 z3) ((geti2 hands1 z3).length) (hdC hd1 z3)), pl 79 (.int .i64 (((geti2 hands1 z3).length : Nat) : Int)), pl 80 (.int .i64 z4)] hF hS Fol (by kernel_rfl) (by kernel_rfl) (by kernel_rfl) ?_ (fun a w hF hS => ?_)
                      · exact obs_cons (ob_ix1 (f := (Value.int .i64)) (m := (geti2 hands1 z3)) Und34 hi3 hs3 ((hr_hands1 _ (hS.dropN 1)).row _ hp5).1 rfl (fun _ => hp6)) <| obs_cons (ob_get1 (n := (geti2 hands1 z3).length) (m := (geti2 hands1 z3)) (Value.int .i64) (0 : Int) Agg3 (fun _ hS => ⟨_, ((hr_hands1 _ (hS.dropN 1)).row _ hp5).1⟩) (fun _ hS => rfl) (fun _ => hp6)) <| obs_nil
                      refine oneR ?_
                      obtain ⟨hp7, hm⟩ := asrt_b hm
                      obtain ⟨hp8, hm⟩ := asrt_b hm
                      refine at_run 3 [⟨true, [], vS (Instr.indexAt 147 (.pointer (some ⟨g1, 0, none⟩)) (.int .i64 (geti (geti2 hands1 z3) z4))), .pointer (some ((⟨g1, 0, none⟩ : Addr).add (Int.toNat (geti (geti2 hands1 z3) z4) * 1)))⟩] [none, none, some (.pointer (some ((⟨g1, 0, none⟩ : Addr).add (Int.toNat (geti (geti2 hands1 z3) z4) * 1))))] [1, 2, 11, 13, 71, 72, 73, 78, 79, 80, 85, 86] [pl 1 (.int .i64 strain1), pl 2 (.int .i64 leader1), pl 11 (.pointer (some ⟨g1, 0, none⟩)), pl 13 (.int .i64 z3), pl 71 (.slice A1 hands1.length c1), pl 72 (.int .i64 (hands1.length : Int)), pl 73 (.int .i64 z3), pl 78 (.slice (hdA hd1 z3) ((geti2 hands1 z3).length) (hdC hd1 z3)), pl 79 (.int .i64 (((geti2 hands1 z3).length : Nat) : Int)), pl 80 (.int .i64 z4), pl 85 (.int .i64 z3), pl 86 (.pointer (some ((⟨g1, 0, none⟩ : Addr).add (Int.toNat (geti (geti2 hands1 z3) z4) * 1))))] hF hS (by kernel_rfl) (by kernel_rfl) ?_ (fun a w hF hS => ?_)
                      · exact obs_cons (ob_ixA UndA147 hi3 hs3 (fun _ => hp7)) <| obs_nil
                      obtain ⟨w, hrun, hS⟩ := run_setA (P := Try.prog) (t := 3) (x := z3) (i := (geti (geti2 hands1 z3) z4)) (m := d5) (d := Int.toNat (geti (geti2 hands1 z3) z4) * 1) (Value.int .i64) (0 : Int) 52 ([] : List Value) ([] : List Value) (hS.at_ 0 rfl) rfl hi3 hs3 rfl (by have h0 := hp7; omega) (by have h0 := hp7; have h9 := hp8; omega)
                      refine at_skip hF (by kernel_rfl) hrun ?_
                      have hS : Sep w0 B w (blk g1 147 (List.toArray (([] : List Value) ++ (arr1 (Value.int .i64) (0 : Int) 52 (d5.set (Int.toNat (geti (geti2 hands1 z3) z4)) z3) ++ ([] : List Value)))) :: fs) := hS
                      refine at_end [1, 2, 11, 13, 71, 72, 73, 78, 79, 80] [pl 1 (.int .i64 strain1), pl 2 (.int .i64 leader1), pl 11 (.pointer (some ⟨g1, 0, none⟩)), pl 13 (.int .i64 z3), pl 71 (.slice A1 hands1.length c1), pl 72 (.int .i64 (hands1.length : Int)), pl 73 (.int .i64 z3), pl 78 (.slice (hdA hd1 z3) ((geti2 hands1 z3).length) (hdC hd1 z3)), pl 79 (.int .i64 (((geti2 hands1 z3).length : Nat) : Int)), pl 80 (.int .i64 z4)] hF rfl (by kernel_rfl) (fun hF => ?_)
                      refine block_n ?_
                      refine then_n ?_
                      exact ⟨hF.weak [1, 2, 11, 13, 71, 72, 73, 78, 79, 80] (by kernel_rfl), hS, hm⟩
                  · refine cond_ev (t := 81) (b := decide (z4 < (((geti2 hands1 z3).length : Nat) : Int))) hF (by kernel_rfl) (fun hb => ?_) (fun hb => ?_)
                    · replace hm := if_t hm hb
                      refine wpIn_skip ?_
                      refine then_n ?_
                      exact ⟨hF.weak [1, 2, 11, 13, 71, 72, 73, 78, 79, 80] (by kernel_rfl), hS, hm⟩
                    · replace hm := if_f hm hb
                      refine wpIn_exit ?_
                      refine then_e (then_e (block_e (block_n (then_n ?_))))
                      rw [← hφ4] at hm
                      replace hm := done_b hm
                      unfold bridge_Best_K4 at hm
                      try dsimp only at hm
                      have hm : ((bridge_Best_J12 z3) d5).bind φ3 = some r := hm
                      exact ⟨d5, hF.weak [1, 2, 11, 71, 72, 73] (by kernel_rfl), hS, hm⟩
              · refine cond_ev (t := 74) (b := decide (z3 < (hands1.length : Int))) hF (by kernel_rfl) (fun hb => ?_) (fun hb => ?_)
                · replace hm := if_t hm hb
                  refine wpIn_skip ?_
                  refine then_n ?_
                  exact ⟨hF.weak [1, 2, 11, 71, 72, 73] (by kernel_rfl), hS, hm⟩
                · replace hm := if_f hm hb
                  refine wpIn_exit ?_
                  refine then_e (then_e (block_e (then_n ?_)))
                  rw [← hφ3] at hm
                  replace hm := done_b hm
                  unfold bridge_Best_K3 at hm
                  try dsimp only at hm
                  have hm : ((bridge_Best_J10 strain1 leader1) d3).bind some = some r := hm
                  exact ⟨d3, hF.weak [1, 2, 11] (by kernel_rfl), hS, hm⟩
          · refine reg [] [] [0, 1, 2, 11, 65] [pl 0 (.slice A1 hands1.length c1), pl 1 (.int .i64 strain1), pl 2 (.int .i64 leader1), pl 11 (.pointer (some ⟨g1, 0, none⟩)), pl 65 (.int .i64 0)] hF hS Fol (by kernel_rfl) (by kernel_rfl) (by kernel_rfl) ?_ (fun a w hF hS => ?_)
            · exact obs_nil
            refine wpIn_block ?_
            refine wp_loop_model (S := (List Int × Int)) (R := (List Int)) bridge_Best_L2 (fun x => ((bridge_Best_K2 hands1 strain1 leader1) x).bind some) r (fun (x : (List Int × Int)) a w => Fr 94 [pl 0 (.slice A1 hands1.length c1), pl 1 (.int .i64 strain1), pl 2 (.int .i64 leader1), pl 11 (.pointer (some ⟨g1, 0, none⟩)), pl 65 (.int .i64 x.2)] a ∧ Sep w0 B w (blk g1 147 (List.toArray (([] : List Value) ++ (arr1 (Value.int .i64) (0 : Int) 52 x.1 ++ ([] : List Value)))) :: fs)) (assoc_b hm) ⟨hF.weak [0, 1, 2, 11, 65] (by kernel_rfl), hS⟩ ?_
            clear hF hS hm
            rintro nn2 ⟨d1, z2⟩ a w ⟨hF, hS⟩ hm
            generalize hφ2 : stK bridge_Best_L2 nn2 (fun x => ((bridge_Best_K2 hands1 strain1 leader1) x).bind some) = φ2 at hm
            unfold bridge_Best_L2 at hm
            dsimp only at hF hS hm
            refine reg [] [] [0, 1, 2, 11, 65, 66] [pl 0 (.slice A1 hands1.length c1), pl 1 (.int .i64 strain1), pl 2 (.int .i64 leader1), pl 11 (.pointer (some ⟨g1, 0, none⟩)), pl 65 (.int .i64 z2), pl 66 (.bool (decide (z2 < 52)))] hF hS Fol (by kernel_rfl) (by kernel_rfl) (by kernel_rfl) ?_ (fun a w hF hS => ?_)
            · exact obs_nil
            refine seq_cut (fun a w => Fr 94 [pl 0 (.slice A1 hands1.length c1), pl 1 (.int .i64 strain1), pl 2 (.int .i64 leader1), pl 11 (.pointer (some ⟨g1, 0, none⟩)), pl 65 (.int .i64 z2)] a ∧ Sep w0 B w (blk g1 147 (List.toArray (([] : List Value) ++ (arr1 (Value.int .i64) (0 : Int) 52 d1 ++ ([] : List Value)))) :: fs) ∧ ((bridge_Best_J8 d1 z2)).bind φ2 = some r) ?_ ?_
            · rintro a w ⟨hF, hS, hm⟩
              unfold bridge_Best_J8 at hm
              refine seq_cut (fun a w => Fr 94 [pl 0 (.slice A1 hands1.length c1), pl 1 (.int .i64 strain1), pl 2 (.int .i64 leader1), pl 11 (.pointer (some ⟨g1, 0, none⟩)), pl 65 (.int .i64 z2)] a ∧ Sep w0 B w (blk g1 147 (List.toArray (([] : List Value) ++ (arr1 (Value.int .i64) (0 : Int) 52 (d1.set (Int.toNat z2) 4) ++ ([] : List Value)))) :: fs) ∧ ((bridge_Best_J9 d1 z2)).bind φ2 = some r) ?_ ?_
              · rintro a w ⟨hF, hS, hm⟩
                unfold bridge_Best_J9 at hm
                refine reg1 [] [] [0, 1, 2, 11, 65] [pl 0 (.slice A1 hands1.length c1), pl 1 (.int .i64 strain1), pl 2 (.int .i64 leader1), pl 11 (.pointer (some ⟨g1, 0, none⟩)), pl 65 (.int .i64 (w64 (z2 + 1)))] hF hS Fol (by kernel_rfl) (by kernel_rfl) (by kernel_rfl) ?_ (fun a w hF hS => ?_)
                · exact obs_nil
                refine then_n ?_
                rw [← hφ2] at hm
                exact ⟨((d1.set (Int.toNat z2) 4), (w64 (z2 + 1))), ⟨hF.weak [0, 1, 2, 11, 65] (by kernel_rfl), hS⟩, hm⟩
              · refine wpIn_block ?_
                refine reg [] [] [0, 1, 2, 11, 12, 65] [pl 0 (.slice A1 hands1.length c1), pl 1 (.int .i64 strain1), pl 2 (.int .i64 leader1), pl 11 (.pointer (some ⟨g1, 0, none⟩)), pl 12 (.int .i64 z2), pl 65 (.int .i64 z2)] hF hS Fol (by kernel_rfl) (by kernel_rfl) (by kernel_rfl) ?_ (fun a w hF hS => ?_)
                · exact obs_nil
                refine oneR ?_
                obtain ⟨hp3, hm⟩ := asrt_b hm
                obtain ⟨hp4, hm⟩ := asrt_b hm
                refine at_run 2 [⟨true, [], vS (Instr.indexAt 147 (.pointer (some ⟨g1, 0, none⟩)) (.int .i64 z2)), .pointer (some ((⟨g1, 0, none⟩ : Addr).add (Int.toNat z2 * 1)))⟩] [none, some (.pointer (some ((⟨g1, 0, none⟩ : Addr).add (Int.toNat z2 * 1))))] [0, 1, 2, 11, 65, 69] [pl 0 (.slice A1 hands1.length c1), pl 1 (.int .i64 strain1), pl 2 (.int .i64 leader1), pl 11 (.pointer (some ⟨g1, 0, none⟩)), pl 65 (.int .i64 z2), pl 69 (.pointer (some ((⟨g1, 0, none⟩ : Addr).add (Int.toNat z2 * 1))))] hF hS (by kernel_rfl) (by kernel_rfl) ?_ (fun a w hF hS => ?_)
                · exact obs_cons (ob_ixA UndA147 hi3 hs3 (fun _ => hp3)) <| obs_nil
                obtain ⟨w, hrun, hS⟩ := run_setA (P := Try.prog) (t := 3) (x := 4) (i := z2) (m := d1) (d := Int.toNat z2 * 1) (Value.int .i64) (0 : Int) 52 ([] : List Value) ([] : List Value) (hS.at_ 0 rfl) rfl hi3 hs3 rfl (by have h0 := hp3; omega) (by have h0 := hp3; have h9 := hp4; omega)
                refine at_skip hF (by kernel_rfl) hrun ?_
                have hS : Sep w0 B w (blk g1 147 (List.toArray (([] : List Value) ++ (arr1 (Value.int .i64) (0 : Int) 52 (d1.set (Int.toNat z2) 4) ++ ([] : List Value)))) :: fs) := hS
                refine at_end [0, 1, 2, 11, 65] [pl 0 (.slice A1 hands1.length c1), pl 1 (.int .i64 strain1), pl 2 (.int .i64 leader1), pl 11 (.pointer (some ⟨g1, 0, none⟩)), pl 65 (.int .i64 z2)] hF rfl (by kernel_rfl) (fun hF => ?_)
                refine block_n ?_
                refine then_n ?_
                exact ⟨hF.weak [0, 1, 2, 11, 65] (by kernel_rfl), hS, hm⟩
            · refine cond_ev (t := 66) (b := decide (z2 < 52)) hF (by kernel_rfl) (fun hb => ?_) (fun hb => ?_)
              · replace hm := if_t hm hb
                refine wpIn_skip ?_
                refine then_n ?_
                exact ⟨hF.weak [0, 1, 2, 11, 65] (by kernel_rfl), hS, hm⟩
              · replace hm := if_f hm hb
                refine wpIn_exit ?_
                refine then_e (then_e (block_e (then_n ?_)))
                rw [← hφ2] at hm
                replace hm := done_b hm
                unfold bridge_Best_K2 at hm
                try dsimp only at hm
                have hm : ((bridge_Best_J7 hands1 strain1 leader1) d1).bind some = some r := hm
                exact ⟨d1, hF.weak [0, 1, 2, 11] (by kernel_rfl), hS, hm⟩
        · refine wpIn_block ?_
          refine reg [] [] [0, 1, 2, 51] [pl 0 (.slice A1 hands1.length c1), pl 1 (.int .i64 strain1), pl 2 (.int .i64 leader1), pl 51 (.bool ((decide (strain1 < 0)) || (decide ((4 : Int) < strain1))))] hF hS Fol (by kernel_rfl) (by kernel_rfl) (by kernel_rfl) ?_ (fun a w hF hS => ?_)
          · exact obs_nil
          refine cond_ev (t := 51) (b := (decide (strain1 < 0)) || (decide ((4 : Int) < strain1))) hF (by kernel_rfl) (fun hb => ?_) (fun hb => ?_)
          · replace hm := if_t hm hb
            refine reg [] [] [6, 7] [pl 6 (.int .i64 0), pl 7 (.int .i64 4)] hF hS Fol (by kernel_rfl) (by kernel_rfl) (by kernel_rfl) ?_ (fun a w hF hS => ?_)
            · exact obs_nil
            refine wpIn_ret ?_
            refine block_r (then_r ?_)
            have hm : some (0, 4) = some r := hm
            obtain rfl := Option.some.inj hm
            exact retV (rs := [.tmp 6, .tmp 7]) (vs := [.int .i64 0, .int .i64 4]) hF rfl (rv_t (by kernel_rfl) <| rv_t (by kernel_rfl) <| rv_nil) rfl ⟨rfl, hS⟩
          · replace hm := if_f hm hb
            refine reg [] [] [0, 1, 2, 58] [pl 0 (.slice A1 hands1.length c1), pl 1 (.int .i64 strain1), pl 2 (.int .i64 leader1), pl 58 (.bool ((decide (leader1 < 0)) || (decide ((3 : Int) < leader1))))] hF hS Fol (by kernel_rfl) (by kernel_rfl) (by kernel_rfl) ?_ (fun a w hF hS => ?_)
            · exact obs_nil
            refine cond_ev (t := 58) (b := (decide (leader1 < 0)) || (decide ((3 : Int) < leader1))) hF (by kernel_rfl) (fun hb => ?_) (fun hb => ?_)
            · replace hm := if_t hm hb
              refine reg [] [] [6, 7] [pl 6 (.int .i64 0), pl 7 (.int .i64 5)] hF hS Fol (by kernel_rfl) (by kernel_rfl) (by kernel_rfl) ?_ (fun a w hF hS => ?_)
              · exact obs_nil
              refine wpIn_ret ?_
              refine block_r (then_r ?_)
              have hm : some (0, 5) = some r := hm
              obtain rfl := Option.some.inj hm
              exact retV (rs := [.tmp 6, .tmp 7]) (vs := [.int .i64 0, .int .i64 5]) hF rfl (rv_t (by kernel_rfl) <| rv_t (by kernel_rfl) <| rv_nil) rfl ⟨rfl, hS⟩
            · replace hm := if_f hm hb
              refine wpIn_skip ?_
              refine block_n ?_
              refine then_n ?_
              exact ⟨hF.weak [0, 1, 2] (by kernel_rfl), hS, hm⟩
      · refine seqR ?_
        obtain ⟨r1, hr1, hm⟩ := call_b hm
        obtain ⟨r2, hr2, hm⟩ := call_b hm
        refine at_run 1 [] [] [0, 1, 2, 45] [pl 0 (.slice A1 hands1.length c1), pl 1 (.int .i64 strain1), pl 2 (.int .i64 leader1), pl 45 (.slice A1 hands1.length c1)] hF hS (by kernel_rfl) (by kernel_rfl) ?_ (fun a w hF hS => ?_)
        · exact obs_nil
        refine at_call (f := 112) (args := #[.slice A1 hands1.length c1]) (d := 46) hF (by kernel_rfl) (by kernel_rfl) Try.func112 (by kernel_rfl) rfl (slices_Concat_w hr1 hS (fun _ hS => (hr_hands1 _ (hS.dropN 0))) _hc_hands1 rfl) (fun v a w hR hF => ?_)
        clear hS
        obtain ⟨A2, c2, rfl, hS⟩ := hR
        have hS : Sep w0 B w (own 3 (.slice A2 r1.length c2) (vI r1) :: fs) := hS
        refine at_run 2 [⟨false, [], callFunc 111 #[.slice A2 r1.length c2], .int .i64 r2⟩] [some (.int .i64 r2), none] [0, 1, 2, 10] [pl 0 (.slice A1 hands1.length c1), pl 1 (.int .i64 strain1), pl 2 (.int .i64 leader1), pl 10 (.int .i64 r2)] hF hS (by kernel_rfl) (by kernel_rfl) ?_ (fun a w hF hS => ?_)
        · exact obs_cons (ob_call Try.func111 (by kernel_rfl) rfl (fun _ _ hS => bridge_check_w hr2 hS (fun _ hS => (hS.at_ 0 rfl).rd) ((hS.at_ 0 rfl).cap1) rfl)) <| obs_nil
        refine at_end [0, 1, 2, 10] [pl 0 (.slice A1 hands1.length c1), pl 1 (.int .i64 strain1), pl 2 (.int .i64 leader1), pl 10 (.int .i64 r2)] hF rfl (by kernel_rfl) (fun hF => ?_)
        refine then_n ?_
        refine reg [] [] [0, 1, 2, 10, 49] [pl 0 (.slice A1 hands1.length c1), pl 1 (.int .i64 strain1), pl 2 (.int .i64 leader1), pl 10 (.int .i64 r2), pl 49 (.bool (r2 != 0))] hF hS Fol (by kernel_rfl) (by kernel_rfl) (by kernel_rfl) ?_ (fun a w hF hS => ?_)
        · exact obs_nil
        refine cond_ev (t := 49) (b := (r2 != 0)) hF (by kernel_rfl) (fun hb => ?_) (fun hb => ?_)
        · replace hm := if_t hm hb
          refine reg [] [] [6, 7] [pl 6 (.int .i64 0), pl 7 (.int .i64 r2)] hF hS Fol (by kernel_rfl) (by kernel_rfl) (by kernel_rfl) ?_ (fun a w hF hS => ?_)
          · exact obs_nil
          refine wpIn_ret ?_
          refine then_r ?_
          have hS := hS.pickN 1 [] (by decide)
          have hm : some (0, r2) = some r := hm
          obtain rfl := Option.some.inj hm
          exact retV (rs := [.tmp 6, .tmp 7]) (vs := [.int .i64 0, .int .i64 r2]) hF rfl (rv_t (by kernel_rfl) <| rv_t (by kernel_rfl) <| rv_nil) rfl ⟨rfl, hS⟩
        · replace hm := if_f hm hb
          refine wpIn_skip ?_
          refine then_n ?_
          have hS := hS.pickN 1 [] (by decide)
          exact ⟨hF.weak [0, 1, 2] (by kernel_rfl), hS, hm⟩
    · refine reg [] [] [0, 1, 2, 21, 22, 23] [pl 0 (.slice A1 hands1.length c1), pl 1 (.int .i64 strain1), pl 2 (.int .i64 leader1), pl 21 (.slice A1 hands1.length c1), pl 22 (.int .i64 (hands1.length : Int)), pl 23 (.int .i64 0)] hF hS Fol (by kernel_rfl) (by kernel_rfl) (by kernel_rfl) ?_ (fun a w hF hS => ?_)
      · exact obs_nil
      refine wpIn_block ?_
      refine wp_loop_model (S := Int) (R := (Fl Unit (Int × Int))) (bridge_Best_L1 hands1) (fun x => ((bridge_Best_K1 hands1 strain1 leader1) x).bind some) r (fun (x : Int) a w => Fr 94 [pl 0 (.slice A1 hands1.length c1), pl 1 (.int .i64 strain1), pl 2 (.int .i64 leader1), pl 21 (.slice A1 hands1.length c1), pl 22 (.int .i64 (hands1.length : Int)), pl 23 (.int .i64 x)] a ∧ Sep w0 B w (fs)) (assoc_b hm) ⟨hF.weak [0, 1, 2, 21, 22, 23] (by kernel_rfl), hS⟩ ?_
      clear hF hS hm
      rintro nn1 z1 a w ⟨hF, hS⟩ hm
      generalize hφ1 : stK (bridge_Best_L1 hands1) nn1 (fun x => ((bridge_Best_K1 hands1 strain1 leader1) x).bind some) = φ1 at hm
      unfold bridge_Best_L1 at hm
      dsimp only at hm
      refine reg [] [] [0, 1, 2, 21, 22, 23, 24] [pl 0 (.slice A1 hands1.length c1), pl 1 (.int .i64 strain1), pl 2 (.int .i64 leader1), pl 21 (.slice A1 hands1.length c1), pl 22 (.int .i64 (hands1.length : Int)), pl 23 (.int .i64 z1), pl 24 (.bool (decide (z1 < (hands1.length : Int))))] hF hS Fol (by kernel_rfl) (by kernel_rfl) (by kernel_rfl) ?_ (fun a w hF hS => ?_)
      · exact obs_nil
      refine seq_cut (fun a w => Fr 94 [pl 0 (.slice A1 hands1.length c1), pl 1 (.int .i64 strain1), pl 2 (.int .i64 leader1), pl 21 (.slice A1 hands1.length c1), pl 22 (.int .i64 (hands1.length : Int)), pl 23 (.int .i64 z1)] a ∧ Sep w0 B w (fs) ∧ ((bridge_Best_J3 hands1 z1)).bind φ1 = some r) ?_ ?_
      · rintro a w ⟨hF, hS, hm⟩
        unfold bridge_Best_J3 at hm
        refine seq_cut (fun a w => Fr 94 [pl 0 (.slice A1 hands1.length c1), pl 1 (.int .i64 strain1), pl 2 (.int .i64 leader1), pl 21 (.slice A1 hands1.length c1), pl 22 (.int .i64 (hands1.length : Int)), pl 23 (.int .i64 z1)] a ∧ Sep w0 B w (fs) ∧ ((bridge_Best_J4 z1)).bind φ1 = some r) ?_ ?_
        · rintro a w ⟨hF, hS, hm⟩
          unfold bridge_Best_J4 at hm
          refine reg1 [] [] [0, 1, 2, 21, 22, 23] [pl 0 (.slice A1 hands1.length c1), pl 1 (.int .i64 strain1), pl 2 (.int .i64 leader1), pl 21 (.slice A1 hands1.length c1), pl 22 (.int .i64 (hands1.length : Int)), pl 23 (.int .i64 (w64 (z1 + 1)))] hF hS Fol (by kernel_rfl) (by kernel_rfl) (by kernel_rfl) ?_ (fun a w hF hS => ?_)
          · exact obs_nil
          refine then_n ?_
          rw [← hφ1] at hm
          exact ⟨(w64 (z1 + 1)), ⟨hF.weak [0, 1, 2, 21, 22, 23] (by kernel_rfl), hS⟩, hm⟩
        · refine wpIn_block ?_
          obtain ⟨hp1, hm⟩ := asrt_b hm
          refine reg [⟨true, [], vS (Instr.indexAt 45 (.slice A1 hands1.length c1) (.int .i64 z1)), .pointer (some (sAddr A1 z1))⟩, ⟨false, [], vS (Instr.loadAt 34 (.pointer (some (sAddr A1 z1)))), .slice (hdA hd1 z1) ((geti2 hands1 z1).length) (hdC hd1 z1)⟩] [some (.pointer (some (sAddr A1 z1))), some (.slice (hdA hd1 z1) ((geti2 hands1 z1).length) (hdC hd1 z1)), none] [0, 1, 2, 9, 21, 22, 23] [pl 0 (.slice A1 hands1.length c1), pl 1 (.int .i64 strain1), pl 2 (.int .i64 leader1), pl 9 (.slice (hdA hd1 z1) ((geti2 hands1 z1).length) (hdC hd1 z1)), pl 21 (.slice A1 hands1.length c1), pl 22 (.int .i64 (hands1.length : Int)), pl 23 (.int .i64 z1)] hF hS Fol (by kernel_rfl) (by kernel_rfl) (by kernel_rfl) ?_ (fun a w hF hS => ?_)
          · exact obs_cons (ob_ixRn Und45 hi34 hs34 (hr_hands1 _ (hS.dropN 0)) rfl (fun _ => hp1)) <| obs_cons (ob_getR Agg34 (fun _ hS => ⟨_, (hr_hands1 _ (hS.dropN 0))⟩) (fun _ => hp1)) <| obs_nil
          obtain ⟨hp2, hm⟩ := asrt_b hm
          refine reg [⟨true, [], vS (Instr.indexAt 45 (.slice A1 hands1.length c1) (.int .i64 0)), .pointer (some (sAddr A1 0))⟩, ⟨false, [], vS (Instr.loadAt 34 (.pointer (some (sAddr A1 0)))), .slice (hdA hd1 0) ((geti2 hands1 0).length) (hdC hd1 0)⟩] [none, none, none, some (.pointer (some (sAddr A1 0))), some (.slice (hdA hd1 0) ((geti2 hands1 0).length) (hdC hd1 0)), none, none, none, none, none, none, none, none, none, none, none, none] [0, 1, 2, 21, 22, 23, 43] [pl 0 (.slice A1 hands1.length c1), pl 1 (.int .i64 strain1), pl 2 (.int .i64 leader1), pl 21 (.slice A1 hands1.length c1), pl 22 (.int .i64 (hands1.length : Int)), pl 23 (.int .i64 z1), pl 43 (.bool ((((((geti2 hands1 z1).length : Nat) : Int) != (((geti2 hands1 0).length : Nat) : Int)) || (decide ((((geti2 hands1 z1).length : Nat) : Int) < 1))) || (decide ((4 : Int) < (((geti2 hands1 z1).length : Nat) : Int)))))] hF hS Fol (by kernel_rfl) (by kernel_rfl) (by kernel_rfl) ?_ (fun a w hF hS => ?_)
          · exact obs_cons (ob_ixRn Und45 hi34 hs34 (hr_hands1 _ (hS.dropN 0)) rfl (fun _ => hp2)) <| obs_cons (ob_getR Agg34 (fun _ hS => ⟨_, (hr_hands1 _ (hS.dropN 0))⟩) (fun _ => hp2)) <| obs_nil
          refine cond_ev (t := 43) (b := (((((geti2 hands1 z1).length : Nat) : Int) != (((geti2 hands1 0).length : Nat) : Int)) || (decide ((((geti2 hands1 z1).length : Nat) : Int) < 1))) || (decide ((4 : Int) < (((geti2 hands1 z1).length : Nat) : Int)))) hF (by kernel_rfl) (fun hb => ?_) (fun hb => ?_)
          · replace hm := if_t hm hb
            refine reg [] [] [6, 7] [pl 6 (.int .i64 0), pl 7 (.int .i64 11)] hF hS Fol (by kernel_rfl) (by kernel_rfl) (by kernel_rfl) ?_ (fun a w hF hS => ?_)
            · exact obs_nil
            refine wpIn_ret ?_
            refine block_r (then_r (then_r (block_r (then_r ?_))))
            rw [← hφ1] at hm
            replace hm := done_b hm
            unfold bridge_Best_K1 at hm
            try dsimp only at hm
            have hm : some (0, 11) = some r := hm
            obtain rfl := Option.some.inj hm
            exact retV (rs := [.tmp 6, .tmp 7]) (vs := [.int .i64 0, .int .i64 11]) hF rfl (rv_t (by kernel_rfl) <| rv_t (by kernel_rfl) <| rv_nil) rfl ⟨rfl, hS⟩
          · replace hm := if_f hm hb
            refine wpIn_skip ?_
            refine block_n ?_
            refine then_n ?_
            exact ⟨hF.weak [0, 1, 2, 21, 22, 23] (by kernel_rfl), hS, hm⟩
      · refine cond_ev (t := 24) (b := decide (z1 < (hands1.length : Int))) hF (by kernel_rfl) (fun hb => ?_) (fun hb => ?_)
        · replace hm := if_t hm hb
          refine wpIn_skip ?_
          refine then_n ?_
          exact ⟨hF.weak [0, 1, 2, 21, 22, 23] (by kernel_rfl), hS, hm⟩
        · replace hm := if_f hm hb
          refine wpIn_exit ?_
          refine then_e (then_e (block_e (then_n ?_)))
          rw [← hφ1] at hm
          replace hm := done_b hm
          unfold bridge_Best_K1 at hm
          try dsimp only at hm
          have hm : ((bridge_Best_J2 hands1 strain1 leader1)).bind some = some r := hm
          exact ⟨hF.weak [0, 1, 2] (by kernel_rfl), hS, hm⟩
  · refine reg [] [] [0, 1, 2, 20] [pl 0 (.slice A1 hands1.length c1), pl 1 (.int .i64 strain1), pl 2 (.int .i64 leader1), pl 20 (.bool ((hands1.length : Int) != 4))] hF hS Fol (by kernel_rfl) (by kernel_rfl) (by kernel_rfl) ?_ (fun a w hF hS => ?_)
    · exact obs_nil
    refine cond_ev (t := 20) (b := ((hands1.length : Int) != 4)) hF (by kernel_rfl) (fun hb => ?_) (fun hb => ?_)
    · replace hm := if_t hm hb
      refine reg [] [] [6, 7] [pl 6 (.int .i64 0), pl 7 (.int .i64 11)] hF hS Fol (by kernel_rfl) (by kernel_rfl) (by kernel_rfl) ?_ (fun a w hF hS => ?_)
      · exact obs_nil
      refine wpIn_ret ?_
      refine then_r ?_
      have hm : some (0, 11) = some r := hm
      obtain rfl := Option.some.inj hm
      exact retV (rs := [.tmp 6, .tmp 7]) (vs := [.int .i64 0, .int .i64 11]) hF rfl (rv_t (by kernel_rfl) <| rv_t (by kernel_rfl) <| rv_nil) rfl ⟨rfl, hS⟩
    · replace hm := if_f hm hb
      refine wpIn_skip ?_
      refine then_n ?_
      exact ⟨hF.weak [0, 1, 2] (by kernel_rfl), hS, hm⟩

noncomputable def gameroomref_within_m  (n1 : Int) (low1 : Int) (high1 : Int) : Option Bool :=
  some ((decide (low1 ≤ n1)) && (decide (n1 ≤ high1)))

set_option maxRecDepth 100000 in
set_option maxHeartbeats 4000000 in
theorem gameroomref_within_w {n1 : Int} {low1 : Int} {high1 : Int} {r : Bool} {w0 w : World} {B : Nat} {fs : List HP} (hm : gameroomref_within_m n1 low1 high1 = some r) (hS : Sep w0 B w (fs)) :
    Calls Try.prog 72 #[.int .i64 n1, .int .i64 low1, .int .i64 high1] w fun e w' => e = .returned (.bool r) ∧ Sep w0 B w' (fs) := by
  unfold gameroomref_within_m at hm
  replace hm := start_b hm
  refine enter (l := [.int .i64 n1, .int .i64 low1, .int .i64 high1]) (n := 15) Try.func72 rfl rfl (by simp) (fun a hF => ?_)
  refine reg [] [] [0, 1, 2] [pl 0 (.int .i64 n1), pl 1 (.int .i64 low1), pl 2 (.int .i64 high1)] hF hS Fol (by kernel_rfl) (by kernel_rfl) (by kernel_rfl) ?_ (fun a w hF hS => ?_)
  · exact obs_nil
  refine reg [] [] [6] [pl 6 (.bool ((decide (low1 ≤ n1)) && (decide (n1 ≤ high1))))] hF hS Fol (by kernel_rfl) (by kernel_rfl) (by kernel_rfl) ?_ (fun a w hF hS => ?_)
  · exact obs_nil
  refine wpIn_ret ?_
  have hm : some ((decide (low1 ≤ n1)) && (decide (n1 ≤ high1))) = some r := hm
  obtain rfl := Option.some.inj hm
  exact retV (rs := [.tmp 6]) (vs := [.bool ((decide (low1 ≤ n1)) && (decide (n1 ≤ high1)))]) hF rfl (rv_t (by kernel_rfl) <| rv_nil) rfl ⟨rfl, hS⟩

noncomputable def gameroomref_at_J3  (i1 : Int) : Option (St Int (Fl Unit Int)) :=
  some (.next (w64 (i1 + 1)))

noncomputable def gameroomref_at_J2  (l1 : List Int) (n2 : Int) (i1 : Int) : Option (St Int (Fl Unit Int)) :=
  asrt (0 ≤ i1 ∧ i1 < (l1.length : Int)) <| if ((geti l1 i1) == n2) then (some (.done (.ret i1))) else ((gameroomref_at_J3 i1))

noncomputable def gameroomref_at_J1  : Option Int :=
  some (-1)

noncomputable def gameroomref_at_K1  : (Fl Unit Int) → Option Int :=
  fun (x : (Fl Unit Int)) => match x with | .go _ => gameroomref_at_J1 | .ret x => some x

noncomputable def gameroomref_at_L1  (l1 : List Int) (n2 : Int) : Int → Option (St Int (Fl Unit Int)) :=
  fun (x : Int) => match x with | i1 => if (decide (i1 < (l1.length : Int))) then ((gameroomref_at_J2 l1 n2 i1)) else (some (.done (.go ())))

noncomputable def gameroomref_at_m  (l1 : List Int) (n2 : Int) : Option Int :=
  (loop (gameroomref_at_L1 l1 n2) 0).bind gameroomref_at_K1

set_option maxRecDepth 100000 in
set_option maxHeartbeats 4000000 in
theorem gameroomref_at_w {A1 : Option Addr} {c1 : Nat} {n1 : Nat} {l1 : List Int} {n2 : Int} {r : Int} {w0 w : World} {B : Nat} {fs : List HP} (hm : gameroomref_at_m l1 n2 = some r) (hS : Sep w0 B w (fs)) (hr_l1 : RdF w0 B fs A1 (vI l1)) (_hc_l1 : l1.length ≤ c1) (_hn_l1 : n1 = l1.length) :
    Calls Try.prog 78 #[.slice A1 n1 c1, .int .i64 n2] w fun e w' => e = .returned (.int .i64 r) ∧ Sep w0 B w' (fs) := by
  obtain ⟨i3, hi3, hz3, hs3, hb3⟩ := info_parts Info3
  obtain rfl := _hn_l1
  unfold gameroomref_at_m at hm
  replace hm := start_b hm
  refine enter (l := [.slice A1 l1.length c1, .int .i64 n2]) (n := 19) Try.func78 rfl rfl (by simp) (fun a hF => ?_)
  refine reg [] [] [0, 1] [pl 0 (.slice A1 l1.length c1), pl 1 (.int .i64 n2)] hF hS Fol (by kernel_rfl) (by kernel_rfl) (by kernel_rfl) ?_ (fun a w hF hS => ?_)
  · exact obs_nil
  refine seq_cut (fun a w => Fr 19 [] a ∧ Sep w0 B w (fs) ∧ (gameroomref_at_J1).bind some = some r) ?_ ?_
  · rintro a w ⟨hF, hS, hm⟩
    unfold gameroomref_at_J1 at hm
    refine reg [] [] [4] [pl 4 (.int .i64 (-1))] hF hS Fol (by kernel_rfl) (by kernel_rfl) (by kernel_rfl) ?_ (fun a w hF hS => ?_)
    · exact obs_nil
    refine wpIn_ret ?_
    have hm : some (-1) = some r := hm
    obtain rfl := Option.some.inj hm
    exact retV (rs := [.tmp 4]) (vs := [.int .i64 (-1)]) hF rfl (rv_t (by kernel_rfl) <| rv_nil) rfl ⟨rfl, hS⟩
  · refine reg [] [] [0, 1, 5] [pl 0 (.slice A1 l1.length c1), pl 1 (.int .i64 n2), pl 5 (.int .i64 0)] hF hS Fol (by kernel_rfl) (by kernel_rfl) (by kernel_rfl) ?_ (fun a w hF hS => ?_)
    · exact obs_nil
    refine wpIn_block ?_
    refine wp_loop_model (S := Int) (R := (Fl Unit Int)) (gameroomref_at_L1 l1 n2) (fun x => (gameroomref_at_K1 x).bind some) r (fun (x : Int) a w => Fr 19 [pl 0 (.slice A1 l1.length c1), pl 1 (.int .i64 n2), pl 5 (.int .i64 x)] a ∧ Sep w0 B w (fs)) (assoc_b hm) ⟨hF.weak [0, 1, 5] (by kernel_rfl), hS⟩ ?_
    clear hF hS hm
    rintro nn1 i1 a w ⟨hF, hS⟩ hm
    generalize hφ1 : stK (gameroomref_at_L1 l1 n2) nn1 (fun x => (gameroomref_at_K1 x).bind some) = φ1 at hm
    unfold gameroomref_at_L1 at hm
    dsimp only at hm
    refine seq_cut (fun a w => Fr 19 [pl 0 (.slice A1 l1.length c1), pl 1 (.int .i64 n2), pl 5 (.int .i64 i1)] a ∧ Sep w0 B w (fs) ∧ ((gameroomref_at_J2 l1 n2 i1)).bind φ1 = some r) ?_ ?_
    · rintro a w ⟨hF, hS, hm⟩
      unfold gameroomref_at_J2 at hm
      refine seq_cut (fun a w => Fr 19 [pl 0 (.slice A1 l1.length c1), pl 1 (.int .i64 n2), pl 5 (.int .i64 i1)] a ∧ Sep w0 B w (fs) ∧ ((gameroomref_at_J3 i1)).bind φ1 = some r) ?_ ?_
      · rintro a w ⟨hF, hS, hm⟩
        unfold gameroomref_at_J3 at hm
        refine reg1 [] [] [0, 1, 5] [pl 0 (.slice A1 l1.length c1), pl 1 (.int .i64 n2), pl 5 (.int .i64 (w64 (i1 + 1)))] hF hS Fol (by kernel_rfl) (by kernel_rfl) (by kernel_rfl) ?_ (fun a w hF hS => ?_)
        · exact obs_nil
        refine then_n ?_
        rw [← hφ1] at hm
        exact ⟨(w64 (i1 + 1)), ⟨hF.weak [0, 1, 5] (by kernel_rfl), hS⟩, hm⟩
      · refine wpIn_block ?_
        obtain ⟨hp1, hm⟩ := asrt_b hm
        refine reg [⟨true, [], vS (Instr.indexAt 34 (.slice A1 l1.length c1) (.int .i64 i1)), .pointer (some (sAddr A1 i1))⟩, ⟨false, [], vS (Instr.loadAt 3 (.pointer (some (sAddr A1 i1)))), .int .i64 (geti l1 i1)⟩] [none, none, some (.pointer (some (sAddr A1 i1))), some (.int .i64 (geti l1 i1)), none, none] [0, 1, 5, 17] [pl 0 (.slice A1 l1.length c1), pl 1 (.int .i64 n2), pl 5 (.int .i64 i1), pl 17 (.bool ((geti l1 i1) == n2))] hF hS Fol (by kernel_rfl) (by kernel_rfl) (by kernel_rfl) ?_ (fun a w hF hS => ?_)
        · exact obs_cons (ob_ix1 (f := (Value.int .i64)) (m := l1) Und34 hi3 hs3 (hr_l1 _ (hS.dropN 0)) rfl (fun _ => hp1)) <| obs_cons (ob_get1 (n := l1.length) (m := l1) (Value.int .i64) (0 : Int) Agg3 (fun _ hS => ⟨_, (hr_l1 _ (hS.dropN 0))⟩) (fun _ hS => rfl) (fun _ => hp1)) <| obs_nil
        refine cond_ev (t := 17) (b := ((geti l1 i1) == n2)) hF (by kernel_rfl) (fun hb => ?_) (fun hb => ?_)
        · replace hm := if_t hm hb
          refine reg [] [] [4] [pl 4 (.int .i64 i1)] hF hS Fol (by kernel_rfl) (by kernel_rfl) (by kernel_rfl) ?_ (fun a w hF hS => ?_)
          · exact obs_nil
          refine wpIn_ret ?_
          refine block_r (then_r (then_r (block_r (then_r ?_))))
          rw [← hφ1] at hm
          replace hm := done_b hm
          unfold gameroomref_at_K1 at hm
          try dsimp only at hm
          have hm : some i1 = some r := hm
          obtain rfl := Option.some.inj hm
          exact retV (rs := [.tmp 4]) (vs := [.int .i64 i1]) hF rfl (rv_t (by kernel_rfl) <| rv_nil) rfl ⟨rfl, hS⟩
        · replace hm := if_f hm hb
          refine wpIn_skip ?_
          refine block_n ?_
          refine then_n ?_
          exact ⟨hF.weak [0, 1, 5] (by kernel_rfl), hS, hm⟩
    · refine reg [] [] [0, 1, 5, 9] [pl 0 (.slice A1 l1.length c1), pl 1 (.int .i64 n2), pl 5 (.int .i64 i1), pl 9 (.bool (decide (i1 < (l1.length : Int))))] hF hS Fol (by kernel_rfl) (by kernel_rfl) (by kernel_rfl) ?_ (fun a w hF hS => ?_)
      · exact obs_nil
      refine cond_ev (t := 9) (b := decide (i1 < (l1.length : Int))) hF (by kernel_rfl) (fun hb => ?_) (fun hb => ?_)
      · replace hm := if_t hm hb
        refine wpIn_skip ?_
        refine then_n ?_
        exact ⟨hF.weak [0, 1, 5] (by kernel_rfl), hS, hm⟩
      · replace hm := if_f hm hb
        refine wpIn_exit ?_
        refine then_e (then_e (block_e (then_n ?_)))
        rw [← hφ1] at hm
        replace hm := done_b hm
        unfold gameroomref_at_K1 at hm
        try dsimp only at hm
        have hm : (gameroomref_at_J1).bind some = some r := hm
        exact ⟨hF.weak [] (by kernel_rfl), hS, hm⟩

noncomputable def gameroomref_CardsMay_J3  (i1 : Int) : Option (St Int (Fl Unit Int)) :=
  some (.next (w64 (i1 + 1)))

noncomputable def gameroomref_CardsMay_J2  (l1 : List Int) (i1 : Int) : Option (St Int (Fl Unit Int)) :=
  asrt (0 ≤ i1 ∧ i1 < (l1.length : Int)) <| (gameroomref_within_m (geti l1 i1) 0 51).bind fun r1 => if (!r1) then (some (.done (.ret 3))) else ((gameroomref_CardsMay_J3 i1))

noncomputable def gameroomref_CardsMay_J6  (i2 : Int) : Option (St Int (Fl Unit Int)) :=
  some (.next (w64 (i2 + 1)))

noncomputable def gameroomref_CardsMay_J5  (l1 : List Int) (i2 : Int) : Option (St Int (Fl Unit Int)) :=
  asrt (0 ≤ (0 : Int) ∧ (0 : Int) ≤ i2 ∧ i2 ≤ (l1.length : Int)) <| asrt (0 ≤ i2 ∧ i2 < (l1.length : Int)) <| (gameroomref_at_m (cut l1 (0 : Int) i2) (geti l1 i2)).bind fun r2 => if (decide ((0 : Int) ≤ r2)) then (some (.done (.ret 6))) else ((gameroomref_CardsMay_J6 i2))

noncomputable def gameroomref_CardsMay_L2  (l1 : List Int) : Int → Option (St Int (Fl Unit Int)) :=
  fun (x : Int) => match x with | i2 => if (decide (i2 < (l1.length : Int))) then ((gameroomref_CardsMay_J5 l1 i2)) else (some (.done (.go ())))

noncomputable def gameroomref_CardsMay_J4  : Option Int :=
  some 0

noncomputable def gameroomref_CardsMay_K2  : (Fl Unit Int) → Option Int :=
  fun (x : (Fl Unit Int)) => match x with | .go _ => gameroomref_CardsMay_J4 | .ret x => some x

noncomputable def gameroomref_CardsMay_J1  (l1 : List Int) : Option Int :=
  (loop (gameroomref_CardsMay_L2 l1) 0).bind gameroomref_CardsMay_K2

noncomputable def gameroomref_CardsMay_K1  (l1 : List Int) : (Fl Unit Int) → Option Int :=
  fun (x : (Fl Unit Int)) => match x with | .go _ => (gameroomref_CardsMay_J1 l1) | .ret x => some x

noncomputable def gameroomref_CardsMay_L1  (l1 : List Int) : Int → Option (St Int (Fl Unit Int)) :=
  fun (x : Int) => match x with | i1 => if (decide (i1 < (l1.length : Int))) then ((gameroomref_CardsMay_J2 l1 i1)) else (some (.done (.go ())))

noncomputable def gameroomref_CardsMay_m  (l1 : List Int) : Option Int :=
  (loop (gameroomref_CardsMay_L1 l1) 0).bind (gameroomref_CardsMay_K1 l1)

set_option maxRecDepth 100000 in
set_option maxHeartbeats 4000000 in
theorem gameroomref_CardsMay_w {A1 : Option Addr} {c1 : Nat} {n1 : Nat} {l1 : List Int} {r : Int} {w0 w : World} {B : Nat} {fs : List HP} (hm : gameroomref_CardsMay_m l1 = some r) (hS : Sep w0 B w (fs)) (hr_l1 : RdF w0 B fs A1 (vI l1)) (_hc_l1 : l1.length ≤ c1) (_hn_l1 : n1 = l1.length) :
    Calls Try.prog 51 #[.slice A1 n1 c1] w fun e w' => e = .returned (.int .i64 r) ∧ Sep w0 B w' (fs) := by
  obtain ⟨i3, hi3, hz3, hs3, hb3⟩ := info_parts Info3
  obtain rfl := _hn_l1
  unfold gameroomref_CardsMay_m at hm
  replace hm := start_b hm
  refine enter (l := [.slice A1 l1.length c1]) (n := 32) Try.func51 rfl rfl (by simp) (fun a hF => ?_)
  refine reg [] [] [0] [pl 0 (.slice A1 l1.length c1)] hF hS Fol (by kernel_rfl) (by kernel_rfl) (by kernel_rfl) ?_ (fun a w hF hS => ?_)
  · exact obs_nil
  refine seq_cut (fun a w => Fr 32 [pl 0 (.slice A1 l1.length c1)] a ∧ Sep w0 B w (fs) ∧ ((gameroomref_CardsMay_J1 l1)).bind some = some r) ?_ ?_
  · rintro a w ⟨hF, hS, hm⟩
    unfold gameroomref_CardsMay_J1 at hm
    refine seq_cut (fun a w => Fr 32 [] a ∧ Sep w0 B w (fs) ∧ (gameroomref_CardsMay_J4).bind some = some r) ?_ ?_
    · rintro a w ⟨hF, hS, hm⟩
      unfold gameroomref_CardsMay_J4 at hm
      refine reg [] [] [2] [pl 2 (.int .i64 0)] hF hS Fol (by kernel_rfl) (by kernel_rfl) (by kernel_rfl) ?_ (fun a w hF hS => ?_)
      · exact obs_nil
      refine wpIn_ret ?_
      have hm : some 0 = some r := hm
      obtain rfl := Option.some.inj hm
      exact retV (rs := [.tmp 2]) (vs := [.int .i64 0]) hF rfl (rv_t (by kernel_rfl) <| rv_nil) rfl ⟨rfl, hS⟩
    · refine reg [] [] [0, 4] [pl 0 (.slice A1 l1.length c1), pl 4 (.int .i64 0)] hF hS Fol (by kernel_rfl) (by kernel_rfl) (by kernel_rfl) ?_ (fun a w hF hS => ?_)
      · exact obs_nil
      refine wpIn_block ?_
      refine wp_loop_model (S := Int) (R := (Fl Unit Int)) (gameroomref_CardsMay_L2 l1) (fun x => (gameroomref_CardsMay_K2 x).bind some) r (fun (x : Int) a w => Fr 32 [pl 0 (.slice A1 l1.length c1), pl 4 (.int .i64 x)] a ∧ Sep w0 B w (fs)) (assoc_b hm) ⟨hF.weak [0, 4] (by kernel_rfl), hS⟩ ?_
      clear hF hS hm
      rintro nn2 i2 a w ⟨hF, hS⟩ hm
      generalize hφ2 : stK (gameroomref_CardsMay_L2 l1) nn2 (fun x => (gameroomref_CardsMay_K2 x).bind some) = φ2 at hm
      unfold gameroomref_CardsMay_L2 at hm
      dsimp only at hm
      refine seq_cut (fun a w => Fr 32 [pl 0 (.slice A1 l1.length c1), pl 4 (.int .i64 i2)] a ∧ Sep w0 B w (fs) ∧ ((gameroomref_CardsMay_J5 l1 i2)).bind φ2 = some r) ?_ ?_
      · rintro a w ⟨hF, hS, hm⟩
        unfold gameroomref_CardsMay_J5 at hm
        refine seq_cut (fun a w => Fr 32 [pl 0 (.slice A1 l1.length c1), pl 4 (.int .i64 i2)] a ∧ Sep w0 B w (fs) ∧ ((gameroomref_CardsMay_J6 i2)).bind φ2 = some r) ?_ ?_
        · rintro a w ⟨hF, hS, hm⟩
          unfold gameroomref_CardsMay_J6 at hm
          refine reg1 [] [] [0, 4] [pl 0 (.slice A1 l1.length c1), pl 4 (.int .i64 (w64 (i2 + 1)))] hF hS Fol (by kernel_rfl) (by kernel_rfl) (by kernel_rfl) ?_ (fun a w hF hS => ?_)
          · exact obs_nil
          refine then_n ?_
          rw [← hφ2] at hm
          exact ⟨(w64 (i2 + 1)), ⟨hF.weak [0, 4] (by kernel_rfl), hS⟩, hm⟩
        · refine wpIn_block ?_
          obtain ⟨hp2, hm⟩ := asrt_b hm
          obtain ⟨hp3, hm⟩ := asrt_b hm
          obtain ⟨r2, hr2, hm⟩ := call_b hm
          refine reg [⟨true, [], vS (Instr.sliceAt 34 (.slice A1 l1.length c1) none (some (.int .i64 i2)) none), .slice (cutAddr A1 c1 (0 : Int)) ((cut l1 (0 : Int) i2).length) (c1 - Int.toNat (0 : Int))⟩, ⟨true, [], vS (Instr.indexAt 34 (.slice A1 l1.length c1) (.int .i64 i2)), .pointer (some (sAddr A1 i2))⟩, ⟨false, [], vS (Instr.loadAt 3 (.pointer (some (sAddr A1 i2)))), .int .i64 (geti l1 i2)⟩, ⟨false, [], callFunc 78 #[.slice (cutAddr A1 c1 (0 : Int)) ((cut l1 (0 : Int) i2).length) (c1 - Int.toNat (0 : Int)), .int .i64 (geti l1 i2)], .int .i64 r2⟩] [none, none, some (.slice (cutAddr A1 c1 (0 : Int)) ((cut l1 (0 : Int) i2).length) (c1 - Int.toNat (0 : Int))), none, none, some (.pointer (some (sAddr A1 i2))), some (.int .i64 (geti l1 i2)), some (.int .i64 r2), none] [0, 4, 31] [pl 0 (.slice A1 l1.length c1), pl 4 (.int .i64 i2), pl 31 (.bool (decide ((0 : Int) ≤ r2)))] hF hS Fol (by kernel_rfl) (by kernel_rfl) (by kernel_rfl) ?_ (fun a w hF hS => ?_)
          · exact obs_cons (ob_cutn (l := l1) (k := .i64) (k' := .i64) Und34 hi3 hs3 rfl (.inr ⟨rfl, rfl⟩) (.inl rfl) (fun _ => hp2) _hc_l1) <| obs_cons (ob_ix1 (f := (Value.int .i64)) (m := l1) Und34 hi3 hs3 (hr_l1 _ (hS.dropN 0)) rfl (fun _ => hp3)) <| obs_cons (ob_get1 (n := l1.length) (m := l1) (Value.int .i64) (0 : Int) Agg3 (fun _ hS => ⟨_, (hr_l1 _ (hS.dropN 0))⟩) (fun _ hS => rfl) (fun _ => hp3)) <| obs_cons (ob_call Try.func78 (by kernel_rfl) rfl (fun _ _ hS => gameroomref_at_w hr2 hS (fun _ hS => (Rd.cutF (hr_l1 _ (hS.dropN 0)) hp2 _hc_l1)) (cap_cut hp2 _hc_l1) rfl)) <| obs_nil
          refine cond_ev (t := 31) (b := decide ((0 : Int) ≤ r2)) hF (by kernel_rfl) (fun hb => ?_) (fun hb => ?_)
          · replace hm := if_t hm hb
            refine reg [] [] [2] [pl 2 (.int .i64 6)] hF hS Fol (by kernel_rfl) (by kernel_rfl) (by kernel_rfl) ?_ (fun a w hF hS => ?_)
            · exact obs_nil
            refine wpIn_ret ?_
            refine block_r (then_r (then_r (block_r (then_r ?_))))
            rw [← hφ2] at hm
            replace hm := done_b hm
            unfold gameroomref_CardsMay_K2 at hm
            try dsimp only at hm
            have hm : some 6 = some r := hm
            obtain rfl := Option.some.inj hm
            exact retV (rs := [.tmp 2]) (vs := [.int .i64 6]) hF rfl (rv_t (by kernel_rfl) <| rv_nil) rfl ⟨rfl, hS⟩
          · replace hm := if_f hm hb
            refine wpIn_skip ?_
            refine block_n ?_
            refine then_n ?_
            exact ⟨hF.weak [0, 4] (by kernel_rfl), hS, hm⟩
      · refine reg [] [] [0, 4, 20] [pl 0 (.slice A1 l1.length c1), pl 4 (.int .i64 i2), pl 20 (.bool (decide (i2 < (l1.length : Int))))] hF hS Fol (by kernel_rfl) (by kernel_rfl) (by kernel_rfl) ?_ (fun a w hF hS => ?_)
        · exact obs_nil
        refine cond_ev (t := 20) (b := decide (i2 < (l1.length : Int))) hF (by kernel_rfl) (fun hb => ?_) (fun hb => ?_)
        · replace hm := if_t hm hb
          refine wpIn_skip ?_
          refine then_n ?_
          exact ⟨hF.weak [0, 4] (by kernel_rfl), hS, hm⟩
        · replace hm := if_f hm hb
          refine wpIn_exit ?_
          refine then_e (then_e (block_e (then_n ?_)))
          rw [← hφ2] at hm
          replace hm := done_b hm
          unfold gameroomref_CardsMay_K2 at hm
          try dsimp only at hm
          have hm : (gameroomref_CardsMay_J4).bind some = some r := hm
          exact ⟨hF.weak [] (by kernel_rfl), hS, hm⟩
  · refine reg [] [] [0, 3] [pl 0 (.slice A1 l1.length c1), pl 3 (.int .i64 0)] hF hS Fol (by kernel_rfl) (by kernel_rfl) (by kernel_rfl) ?_ (fun a w hF hS => ?_)
    · exact obs_nil
    refine wpIn_block ?_
    refine wp_loop_model (S := Int) (R := (Fl Unit Int)) (gameroomref_CardsMay_L1 l1) (fun x => ((gameroomref_CardsMay_K1 l1) x).bind some) r (fun (x : Int) a w => Fr 32 [pl 0 (.slice A1 l1.length c1), pl 3 (.int .i64 x)] a ∧ Sep w0 B w (fs)) (assoc_b hm) ⟨hF.weak [0, 3] (by kernel_rfl), hS⟩ ?_
    clear hF hS hm
    rintro nn1 i1 a w ⟨hF, hS⟩ hm
    generalize hφ1 : stK (gameroomref_CardsMay_L1 l1) nn1 (fun x => ((gameroomref_CardsMay_K1 l1) x).bind some) = φ1 at hm
    unfold gameroomref_CardsMay_L1 at hm
    dsimp only at hm
    refine seq_cut (fun a w => Fr 32 [pl 0 (.slice A1 l1.length c1), pl 3 (.int .i64 i1)] a ∧ Sep w0 B w (fs) ∧ ((gameroomref_CardsMay_J2 l1 i1)).bind φ1 = some r) ?_ ?_
    · rintro a w ⟨hF, hS, hm⟩
      unfold gameroomref_CardsMay_J2 at hm
      refine seq_cut (fun a w => Fr 32 [pl 0 (.slice A1 l1.length c1), pl 3 (.int .i64 i1)] a ∧ Sep w0 B w (fs) ∧ ((gameroomref_CardsMay_J3 i1)).bind φ1 = some r) ?_ ?_
      · rintro a w ⟨hF, hS, hm⟩
        unfold gameroomref_CardsMay_J3 at hm
        refine reg1 [] [] [0, 3] [pl 0 (.slice A1 l1.length c1), pl 3 (.int .i64 (w64 (i1 + 1)))] hF hS Fol (by kernel_rfl) (by kernel_rfl) (by kernel_rfl) ?_ (fun a w hF hS => ?_)
        · exact obs_nil
        refine then_n ?_
        rw [← hφ1] at hm
        exact ⟨(w64 (i1 + 1)), ⟨hF.weak [0, 3] (by kernel_rfl), hS⟩, hm⟩
      · refine wpIn_block ?_
        obtain ⟨hp1, hm⟩ := asrt_b hm
        obtain ⟨r1, hr1, hm⟩ := call_b hm
        refine reg [⟨true, [], vS (Instr.indexAt 34 (.slice A1 l1.length c1) (.int .i64 i1)), .pointer (some (sAddr A1 i1))⟩, ⟨false, [], vS (Instr.loadAt 3 (.pointer (some (sAddr A1 i1)))), .int .i64 (geti l1 i1)⟩, ⟨false, [], callFunc 72 #[.int .i64 (geti l1 i1), .int .i64 0, .int .i64 51], .bool r1⟩] [none, none, some (.pointer (some (sAddr A1 i1))), some (.int .i64 (geti l1 i1)), some (.bool r1), none] [0, 3, 16] [pl 0 (.slice A1 l1.length c1), pl 3 (.int .i64 i1), pl 16 (.bool (!r1))] hF hS Fol (by kernel_rfl) (by kernel_rfl) (by kernel_rfl) ?_ (fun a w hF hS => ?_)
        · exact obs_cons (ob_ix1 (f := (Value.int .i64)) (m := l1) Und34 hi3 hs3 (hr_l1 _ (hS.dropN 0)) rfl (fun _ => hp1)) <| obs_cons (ob_get1 (n := l1.length) (m := l1) (Value.int .i64) (0 : Int) Agg3 (fun _ hS => ⟨_, (hr_l1 _ (hS.dropN 0))⟩) (fun _ hS => rfl) (fun _ => hp1)) <| obs_cons (ob_call Try.func72 (by kernel_rfl) rfl (fun _ _ hS => gameroomref_within_w hr1 hS )) <| obs_nil
        refine cond_ev (t := 16) (b := !r1) hF (by kernel_rfl) (fun hb => ?_) (fun hb => ?_)
        · replace hm := if_t hm hb
          refine reg [] [] [2] [pl 2 (.int .i64 3)] hF hS Fol (by kernel_rfl) (by kernel_rfl) (by kernel_rfl) ?_ (fun a w hF hS => ?_)
          · exact obs_nil
          refine wpIn_ret ?_
          refine block_r (then_r (then_r (block_r (then_r ?_))))
          rw [← hφ1] at hm
          replace hm := done_b hm
          unfold gameroomref_CardsMay_K1 at hm
          try dsimp only at hm
          have hm : some 3 = some r := hm
          obtain rfl := Option.some.inj hm
          exact retV (rs := [.tmp 2]) (vs := [.int .i64 3]) hF rfl (rv_t (by kernel_rfl) <| rv_nil) rfl ⟨rfl, hS⟩
        · replace hm := if_f hm hb
          refine wpIn_skip ?_
          refine block_n ?_
          refine then_n ?_
          exact ⟨hF.weak [0, 3] (by kernel_rfl), hS, hm⟩
    · refine reg [] [] [0, 3, 8] [pl 0 (.slice A1 l1.length c1), pl 3 (.int .i64 i1), pl 8 (.bool (decide (i1 < (l1.length : Int))))] hF hS Fol (by kernel_rfl) (by kernel_rfl) (by kernel_rfl) ?_ (fun a w hF hS => ?_)
      · exact obs_nil
      refine cond_ev (t := 8) (b := decide (i1 < (l1.length : Int))) hF (by kernel_rfl) (fun hb => ?_) (fun hb => ?_)
      · replace hm := if_t hm hb
        refine wpIn_skip ?_
        refine then_n ?_
        exact ⟨hF.weak [0, 3] (by kernel_rfl), hS, hm⟩
      · replace hm := if_f hm hb
        refine wpIn_exit ?_
        refine then_e (then_e (block_e (then_n ?_)))
        rw [← hφ1] at hm
        replace hm := done_b hm
        unfold gameroomref_CardsMay_K1 at hm
        try dsimp only at hm
        have hm : ((gameroomref_CardsMay_J1 l1)).bind some = some r := hm
        exact ⟨hF.weak [0] (by kernel_rfl), hS, hm⟩

noncomputable def gameroomref_TrickWinner_J3  (i1 : Int) (best3 : Int) : Option (St (Int × Int) Int) :=
  some (.next (best3, (w64 (i1 + 1))))

noncomputable def gameroomref_TrickWinner_J2  (l1 : List Int) (strain1 : Int) (best1 : Int) (i1 : Int) : Option (St (Int × Int) Int) :=
  asrt (0 ≤ i1 ∧ i1 < (l1.length : Int)) <| asrt (0 ≤ best1 ∧ best1 < (l1.length : Int)) <| if ((((Int.tmod (geti l1 i1) 4) == (Int.tmod (geti l1 best1) 4)) && (decide ((geti l1 best1) < (geti l1 i1)))) || (((Int.tmod (geti l1 i1) 4) != (Int.tmod (geti l1 best1) 4)) && ((Int.tmod (geti l1 i1) 4) == strain1))) then ((gameroomref_TrickWinner_J3 i1) i1) else ((gameroomref_TrickWinner_J3 i1) best1)

noncomputable def gameroomref_TrickWinner_J1  (best2 : Int) : Option Int :=
  some best2

noncomputable def gameroomref_TrickWinner_K1  : Int → Option Int :=
  fun (x : Int) => match x with | best2 => gameroomref_TrickWinner_J1 best2

noncomputable def gameroomref_TrickWinner_L1  (l1 : List Int) (strain1 : Int) : (Int × Int) → Option (St (Int × Int) Int) :=
  fun (x : (Int × Int)) => match x with | (best1, i1) => if (decide (i1 < 4)) then ((gameroomref_TrickWinner_J2 l1 strain1 best1 i1)) else (some (.done best1))

noncomputable def gameroomref_TrickWinner_m  (l1 : List Int) (strain1 : Int) : Option Int :=
  (loop (gameroomref_TrickWinner_L1 l1 strain1) (0, 1)).bind gameroomref_TrickWinner_K1

set_option maxRecDepth 100000 in
set_option maxHeartbeats 4000000 in
theorem gameroomref_TrickWinner_w {A1 : Option Addr} {c1 : Nat} {n1 : Nat} {l1 : List Int} {strain1 : Int} {r : Int} {w0 w : World} {B : Nat} {fs : List HP} (hm : gameroomref_TrickWinner_m l1 strain1 = some r) (hS : Sep w0 B w (fs)) (hr_l1 : RdF w0 B fs A1 (vI l1)) (_hc_l1 : l1.length ≤ c1) (_hn_l1 : n1 = l1.length) :
    Calls Try.prog 114 #[.slice A1 n1 c1, .int .i64 strain1] w fun e w' => e = .returned (.int .i64 r) ∧ Sep w0 B w' (fs) := by
  obtain ⟨i3, hi3, hz3, hs3, hb3⟩ := info_parts Info3
  obtain rfl := _hn_l1
  unfold gameroomref_TrickWinner_m at hm
  replace hm := start_b hm
  refine enter (l := [.slice A1 l1.length c1, .int .i64 strain1]) (n := 46) Try.func114 rfl rfl (by simp) (fun a hF => ?_)
  refine reg [] [] [0, 1] [pl 0 (.slice A1 l1.length c1), pl 1 (.int .i64 strain1)] hF hS Fol (by kernel_rfl) (by kernel_rfl) (by kernel_rfl) ?_ (fun a w hF hS => ?_)
  · exact obs_nil
  refine reg [] [] [0, 1, 5] [pl 0 (.slice A1 l1.length c1), pl 1 (.int .i64 strain1), pl 5 (.int .i64 0)] hF hS Fol (by kernel_rfl) (by kernel_rfl) (by kernel_rfl) ?_ (fun a w hF hS => ?_)
  · exact obs_nil
  refine seq_cut (fun a w => ∃ (best2 : Int), Fr 46 [pl 5 (.int .i64 best2)] a ∧ Sep w0 B w (fs) ∧ (gameroomref_TrickWinner_J1 best2).bind some = some r) ?_ ?_
  · rintro a w ⟨best2, hF, hS, hm⟩
    unfold gameroomref_TrickWinner_J1 at hm
    refine reg [] [] [4] [pl 4 (.int .i64 best2)] hF hS Fol (by kernel_rfl) (by kernel_rfl) (by kernel_rfl) ?_ (fun a w hF hS => ?_)
    · exact obs_nil
    refine wpIn_ret ?_
    have hm : some best2 = some r := hm
    obtain rfl := Option.some.inj hm
    exact retV (rs := [.tmp 4]) (vs := [.int .i64 best2]) hF rfl (rv_t (by kernel_rfl) <| rv_nil) rfl ⟨rfl, hS⟩
  · refine reg [] [] [0, 1, 5, 6] [pl 0 (.slice A1 l1.length c1), pl 1 (.int .i64 strain1), pl 5 (.int .i64 0), pl 6 (.int .i64 1)] hF hS Fol (by kernel_rfl) (by kernel_rfl) (by kernel_rfl) ?_ (fun a w hF hS => ?_)
    · exact obs_nil
    refine wpIn_block ?_
    refine wp_loop_model (S := (Int × Int)) (R := Int) (gameroomref_TrickWinner_L1 l1 strain1) (fun x => (gameroomref_TrickWinner_K1 x).bind some) r (fun (x : (Int × Int)) a w => Fr 46 [pl 0 (.slice A1 l1.length c1), pl 1 (.int .i64 strain1), pl 5 (.int .i64 x.1), pl 6 (.int .i64 x.2)] a ∧ Sep w0 B w (fs)) (assoc_b hm) ⟨hF.weak [0, 1, 5, 6] (by kernel_rfl), hS⟩ ?_
    clear hF hS hm
    rintro nn1 ⟨best1, i1⟩ a w ⟨hF, hS⟩ hm
    generalize hφ1 : stK (gameroomref_TrickWinner_L1 l1 strain1) nn1 (fun x => (gameroomref_TrickWinner_K1 x).bind some) = φ1 at hm
    unfold gameroomref_TrickWinner_L1 at hm
    dsimp only at hF hS hm
    refine seq_cut (fun a w => Fr 46 [pl 0 (.slice A1 l1.length c1), pl 1 (.int .i64 strain1), pl 5 (.int .i64 best1), pl 6 (.int .i64 i1)] a ∧ Sep w0 B w (fs) ∧ ((gameroomref_TrickWinner_J2 l1 strain1 best1 i1)).bind φ1 = some r) ?_ ?_
    · rintro a w ⟨hF, hS, hm⟩
      unfold gameroomref_TrickWinner_J2 at hm
      refine seq_cut (fun a w => ∃ (best3 : Int), Fr 46 [pl 0 (.slice A1 l1.length c1), pl 1 (.int .i64 strain1), pl 5 (.int .i64 best3), pl 6 (.int .i64 i1)] a ∧ Sep w0 B w (fs) ∧ ((gameroomref_TrickWinner_J3 i1) best3).bind φ1 = some r) ?_ ?_
      · rintro a w ⟨best3, hF, hS, hm⟩
        unfold gameroomref_TrickWinner_J3 at hm
        refine reg1 [] [] [0, 1, 5, 6] [pl 0 (.slice A1 l1.length c1), pl 1 (.int .i64 strain1), pl 5 (.int .i64 best3), pl 6 (.int .i64 (w64 (i1 + 1)))] hF hS Fol (by kernel_rfl) (by kernel_rfl) (by kernel_rfl) ?_ (fun a w hF hS => ?_)
        · exact obs_nil
        refine then_n ?_
        rw [← hφ1] at hm
        exact ⟨(best3, (w64 (i1 + 1))), ⟨hF.weak [0, 1, 5, 6] (by kernel_rfl), hS⟩, hm⟩
      · refine wpIn_block ?_
        obtain ⟨hp1, hm⟩ := asrt_b hm
        obtain ⟨hp2, hm⟩ := asrt_b hm
        refine reg [⟨true, [], vS (Instr.indexAt 34 (.slice A1 l1.length c1) (.int .i64 i1)), .pointer (some (sAddr A1 i1))⟩, ⟨false, [], vS (Instr.loadAt 3 (.pointer (some (sAddr A1 i1)))), .int .i64 (geti l1 i1)⟩, ⟨true, [], vS (Instr.indexAt 34 (.slice A1 l1.length c1) (.int .i64 best1)), .pointer (some (sAddr A1 best1))⟩, ⟨false, [], vS (Instr.loadAt 3 (.pointer (some (sAddr A1 best1)))), .int .i64 (geti l1 best1)⟩] [none, none, some (.pointer (some (sAddr A1 i1))), some (.int .i64 (geti l1 i1)), none, none, some (.pointer (some (sAddr A1 best1))), some (.int .i64 (geti l1 best1)), none, none] [0, 1, 5, 6, 7, 8] [pl 0 (.slice A1 l1.length c1), pl 1 (.int .i64 strain1), pl 5 (.int .i64 best1), pl 6 (.int .i64 i1), pl 7 (.int .i64 (geti l1 i1)), pl 8 (.int .i64 (geti l1 best1))] hF hS Fol (by kernel_rfl) (by kernel_rfl) (by kernel_rfl) ?_ (fun a w hF hS => ?_)
        · exact obs_cons (ob_ix1 (f := (Value.int .i64)) (m := l1) Und34 hi3 hs3 (hr_l1 _ (hS.dropN 0)) rfl (fun _ => hp1)) <| obs_cons (ob_get1 (n := l1.length) (m := l1) (Value.int .i64) (0 : Int) Agg3 (fun _ hS => ⟨_, (hr_l1 _ (hS.dropN 0))⟩) (fun _ hS => rfl) (fun _ => hp1)) <| obs_cons (ob_ix1 (f := (Value.int .i64)) (m := l1) Und34 hi3 hs3 (hr_l1 _ (hS.dropN 0)) rfl (fun _ => hp2)) <| obs_cons (ob_get1 (n := l1.length) (m := l1) (Value.int .i64) (0 : Int) Agg3 (fun _ hS => ⟨_, (hr_l1 _ (hS.dropN 0))⟩) (fun _ hS => rfl) (fun _ => hp2)) <| obs_nil
        refine reg [] [] [0, 1, 5, 6, 43] [pl 0 (.slice A1 l1.length c1), pl 1 (.int .i64 strain1), pl 5 (.int .i64 best1), pl 6 (.int .i64 i1), pl 43 (.bool ((((Int.tmod (geti l1 i1) 4) == (Int.tmod (geti l1 best1) 4)) && (decide ((geti l1 best1) < (geti l1 i1)))) || (((Int.tmod (geti l1 i1) 4) != (Int.tmod (geti l1 best1) 4)) && ((Int.tmod (geti l1 i1) 4) == strain1))))] hF hS Fol (by kernel_rfl) (by kernel_rfl) (by kernel_rfl) ?_ (fun a w hF hS => ?_)
        · exact obs_nil
        refine cond_ev (t := 43) (b := (((Int.tmod (geti l1 i1) 4) == (Int.tmod (geti l1 best1) 4)) && (decide ((geti l1 best1) < (geti l1 i1)))) || (((Int.tmod (geti l1 i1) 4) != (Int.tmod (geti l1 best1) 4)) && ((Int.tmod (geti l1 i1) 4) == strain1))) hF (by kernel_rfl) (fun hb => ?_) (fun hb => ?_)
        · replace hm := if_t hm hb
          refine reg1 [] [] [0, 1, 5, 6] [pl 0 (.slice A1 l1.length c1), pl 1 (.int .i64 strain1), pl 5 (.int .i64 i1), pl 6 (.int .i64 i1)] hF hS Fol (by kernel_rfl) (by kernel_rfl) (by kernel_rfl) ?_ (fun a w hF hS => ?_)
          · exact obs_nil
          refine block_n ?_
          refine then_n ?_
          exact ⟨i1, hF.weak [0, 1, 5, 6] (by kernel_rfl), hS, hm⟩
        · replace hm := if_f hm hb
          refine wpIn_skip ?_
          refine block_n ?_
          refine then_n ?_
          exact ⟨best1, hF.weak [0, 1, 5, 6] (by kernel_rfl), hS, hm⟩
    · refine reg [] [] [0, 1, 5, 6, 10] [pl 0 (.slice A1 l1.length c1), pl 1 (.int .i64 strain1), pl 5 (.int .i64 best1), pl 6 (.int .i64 i1), pl 10 (.bool (decide (i1 < 4)))] hF hS Fol (by kernel_rfl) (by kernel_rfl) (by kernel_rfl) ?_ (fun a w hF hS => ?_)
      · exact obs_nil
      refine cond_ev (t := 10) (b := decide (i1 < 4)) hF (by kernel_rfl) (fun hb => ?_) (fun hb => ?_)
      · replace hm := if_t hm hb
        refine wpIn_skip ?_
        refine then_n ?_
        exact ⟨hF.weak [0, 1, 5, 6] (by kernel_rfl), hS, hm⟩
      · replace hm := if_f hm hb
        refine wpIn_exit ?_
        refine then_e (then_e (block_e (then_n ?_)))
        rw [← hφ1] at hm
        replace hm := done_b hm
        unfold gameroomref_TrickWinner_K1 at hm
        try dsimp only at hm
        have hm : (gameroomref_TrickWinner_J1 best1).bind some = some r := hm
        exact ⟨best1, hF.weak [5] (by kernel_rfl), hS, hm⟩

noncomputable def gameroomref_PlayMay_J4  (hand1 : List Int) (led1 : Int) (has1 : Bool) (i1 : Int) : Option (St (Bool × Int) Bool) :=
  some (.next ((has1 || ((Int.tmod (geti hand1 i1) 4) == (Int.tmod led1 4))), (w64 (i1 + 1))))

noncomputable def gameroomref_PlayMay_J3  (hand1 : List Int) (led1 : Int) (has1 : Bool) (i1 : Int) : Option (St (Bool × Int) Bool) :=
  asrt (has1 = false → 0 ≤ i1 ∧ i1 < (hand1.length : Int)) <| (gameroomref_PlayMay_J4 hand1 led1 has1 i1)

noncomputable def gameroomref_PlayMay_J2  (led1 : Int) (card1 : Int) (has2 : Bool) : Option Bool :=
  some ((!has2) || ((Int.tmod card1 4) == (Int.tmod led1 4)))

noncomputable def gameroomref_PlayMay_K1  (led1 : Int) (card1 : Int) : Bool → Option Bool :=
  fun (x : Bool) => match x with | has2 => (gameroomref_PlayMay_J2 led1 card1) has2

noncomputable def gameroomref_PlayMay_L1  (hand1 : List Int) (led1 : Int) : (Bool × Int) → Option (St (Bool × Int) Bool) :=
  fun (x : (Bool × Int)) => match x with | (has1, i1) => if (decide (i1 < (hand1.length : Int))) then ((gameroomref_PlayMay_J3 hand1 led1 has1 i1)) else (some (.done has1))

noncomputable def gameroomref_PlayMay_J1  (hand1 : List Int) (led1 : Int) (card1 : Int) : Option Bool :=
  (loop (gameroomref_PlayMay_L1 hand1 led1) (false, 0)).bind (gameroomref_PlayMay_K1 led1 card1)

noncomputable def gameroomref_PlayMay_m  (hand1 : List Int) (led1 : Int) (card1 : Int) : Option Bool :=
  if (decide (led1 < 0)) then (some true) else ((gameroomref_PlayMay_J1 hand1 led1 card1))

set_option maxRecDepth 100000 in
set_option maxHeartbeats 4000000 in
theorem gameroomref_PlayMay_w {A1 : Option Addr} {c1 : Nat} {n1 : Nat} {hand1 : List Int} {led1 : Int} {card1 : Int} {r : Bool} {w0 w : World} {B : Nat} {fs : List HP} (hm : gameroomref_PlayMay_m hand1 led1 card1 = some r) (hS : Sep w0 B w (fs)) (hr_hand1 : RdF w0 B fs A1 (vI hand1)) (_hc_hand1 : hand1.length ≤ c1) (_hn_hand1 : n1 = hand1.length) :
    Calls Try.prog 115 #[.slice A1 n1 c1, .int .i64 led1, .int .i64 card1] w fun e w' => e = .returned (.bool r) ∧ Sep w0 B w' (fs) := by
  obtain ⟨i3, hi3, hz3, hs3, hb3⟩ := info_parts Info3
  obtain rfl := _hn_hand1
  unfold gameroomref_PlayMay_m at hm
  replace hm := start_b hm
  refine enter (l := [.slice A1 hand1.length c1, .int .i64 led1, .int .i64 card1]) (n := 37) Try.func115 rfl rfl (by simp) (fun a hF => ?_)
  refine reg [] [] [0, 1, 2] [pl 0 (.slice A1 hand1.length c1), pl 1 (.int .i64 led1), pl 2 (.int .i64 card1)] hF hS Fol (by kernel_rfl) (by kernel_rfl) (by kernel_rfl) ?_ (fun a w hF hS => ?_)
  · exact obs_nil
  refine seq_cut (fun a w => Fr 37 [pl 0 (.slice A1 hand1.length c1), pl 1 (.int .i64 led1), pl 2 (.int .i64 card1)] a ∧ Sep w0 B w (fs) ∧ ((gameroomref_PlayMay_J1 hand1 led1 card1)).bind some = some r) ?_ ?_
  · rintro a w ⟨hF, hS, hm⟩
    unfold gameroomref_PlayMay_J1 at hm
    refine reg [] [] [0, 1, 2, 7] [pl 0 (.slice A1 hand1.length c1), pl 1 (.int .i64 led1), pl 2 (.int .i64 card1), pl 7 (.bool false)] hF hS Fol (by kernel_rfl) (by kernel_rfl) (by kernel_rfl) ?_ (fun a w hF hS => ?_)
    · exact obs_nil
    refine seq_cut (fun a w => ∃ (has2 : Bool), Fr 37 [pl 1 (.int .i64 led1), pl 2 (.int .i64 card1), pl 7 (.bool has2)] a ∧ Sep w0 B w (fs) ∧ ((gameroomref_PlayMay_J2 led1 card1) has2).bind some = some r) ?_ ?_
    · rintro a w ⟨has2, hF, hS, hm⟩
      unfold gameroomref_PlayMay_J2 at hm
      refine reg [] [] [6] [pl 6 (.bool ((!has2) || ((Int.tmod card1 4) == (Int.tmod led1 4))))] hF hS Fol (by kernel_rfl) (by kernel_rfl) (by kernel_rfl) ?_ (fun a w hF hS => ?_)
      · exact obs_nil
      refine wpIn_ret ?_
      have hm : some ((!has2) || ((Int.tmod card1 4) == (Int.tmod led1 4))) = some r := hm
      obtain rfl := Option.some.inj hm
      exact retV (rs := [.tmp 6]) (vs := [.bool ((!has2) || ((Int.tmod card1 4) == (Int.tmod led1 4)))]) hF rfl (rv_t (by kernel_rfl) <| rv_nil) rfl ⟨rfl, hS⟩
    · refine reg [] [] [0, 1, 2, 7, 8] [pl 0 (.slice A1 hand1.length c1), pl 1 (.int .i64 led1), pl 2 (.int .i64 card1), pl 7 (.bool false), pl 8 (.int .i64 0)] hF hS Fol (by kernel_rfl) (by kernel_rfl) (by kernel_rfl) ?_ (fun a w hF hS => ?_)
      · exact obs_nil
      refine wpIn_block ?_
      refine wp_loop_model (S := (Bool × Int)) (R := Bool) (gameroomref_PlayMay_L1 hand1 led1) (fun x => ((gameroomref_PlayMay_K1 led1 card1) x).bind some) r (fun (x : (Bool × Int)) a w => Fr 37 [pl 0 (.slice A1 hand1.length c1), pl 1 (.int .i64 led1), pl 2 (.int .i64 card1), pl 7 (.bool x.1), pl 8 (.int .i64 x.2)] a ∧ Sep w0 B w (fs)) (assoc_b hm) ⟨hF.weak [0, 1, 2, 7, 8] (by kernel_rfl), hS⟩ ?_
      clear hF hS hm
      rintro nn1 ⟨has1, i1⟩ a w ⟨hF, hS⟩ hm
      generalize hφ1 : stK (gameroomref_PlayMay_L1 hand1 led1) nn1 (fun x => ((gameroomref_PlayMay_K1 led1 card1) x).bind some) = φ1 at hm
      unfold gameroomref_PlayMay_L1 at hm
      dsimp only at hF hS hm
      refine seq_cut (fun a w => Fr 37 [pl 0 (.slice A1 hand1.length c1), pl 1 (.int .i64 led1), pl 2 (.int .i64 card1), pl 7 (.bool has1), pl 8 (.int .i64 i1)] a ∧ Sep w0 B w (fs) ∧ ((gameroomref_PlayMay_J3 hand1 led1 has1 i1)).bind φ1 = some r) ?_ ?_
      · rintro a w ⟨hF, hS, hm⟩
        unfold gameroomref_PlayMay_J3 at hm
        refine seq_cut (fun a w => Fr 37 [pl 0 (.slice A1 hand1.length c1), pl 1 (.int .i64 led1), pl 2 (.int .i64 card1), pl 7 (.bool (has1 || ((Int.tmod (geti hand1 i1) 4) == (Int.tmod led1 4)))), pl 8 (.int .i64 i1)] a ∧ Sep w0 B w (fs) ∧ ((gameroomref_PlayMay_J4 hand1 led1 has1 i1)).bind φ1 = some r) ?_ ?_
        · rintro a w ⟨hF, hS, hm⟩
          unfold gameroomref_PlayMay_J4 at hm
          refine reg1 [] [] [0, 1, 2, 7, 8] [pl 0 (.slice A1 hand1.length c1), pl 1 (.int .i64 led1), pl 2 (.int .i64 card1), pl 7 (.bool (has1 || ((Int.tmod (geti hand1 i1) 4) == (Int.tmod led1 4)))), pl 8 (.int .i64 (w64 (i1 + 1)))] hF hS Fol (by kernel_rfl) (by kernel_rfl) (by kernel_rfl) ?_ (fun a w hF hS => ?_)
          · exact obs_nil
          refine then_n ?_
          rw [← hφ1] at hm
          exact ⟨((has1 || ((Int.tmod (geti hand1 i1) 4) == (Int.tmod led1 4))), (w64 (i1 + 1))), ⟨hF.weak [0, 1, 2, 7, 8] (by kernel_rfl), hS⟩, hm⟩
        · refine wpIn_block ?_
          obtain ⟨hp1, hm⟩ := asrt_b hm
          refine reg1 [⟨true, [(has1, false)], vS (Instr.indexAt 34 (.slice A1 hand1.length c1) (.int .i64 i1)), .pointer (some (sAddr A1 i1))⟩, ⟨false, [(has1, false)], vS (Instr.loadAt 3 (.pointer (some (sAddr A1 i1)))), .int .i64 (geti hand1 i1)⟩] [none, none, none, none, some (.pointer (some (sAddr A1 i1))), some (.int .i64 (geti hand1 i1)), none, none, none, none, none, none] [0, 1, 2, 7, 8] [pl 0 (.slice A1 hand1.length c1), pl 1 (.int .i64 led1), pl 2 (.int .i64 card1), pl 7 (.bool (has1 || ((Int.tmod (geti hand1 i1) 4) == (Int.tmod led1 4)))), pl 8 (.int .i64 i1)] hF hS Fol (by kernel_rfl) (by kernel_rfl) (by kernel_rfl) ?_ (fun a w hF hS => ?_)
          · exact obs_cons (ob_ix1 (f := (Value.int .i64)) (m := hand1) Und34 hi3 hs3 (hr_hand1 _ (hS.dropN 0)) rfl (fun hy => hp1 (hy (has1, false) (by simp)))) <| obs_cons (ob_get1 (n := hand1.length) (m := hand1) (Value.int .i64) (0 : Int) Agg3 (fun _ hS => ⟨_, (hr_hand1 _ (hS.dropN 0))⟩) (fun _ hS => rfl) (fun hy => hp1 (hy (has1, false) (by simp)))) <| obs_nil
          refine block_n ?_
          refine then_n ?_
          exact ⟨hF.weak [0, 1, 2, 7, 8] (by kernel_rfl), hS, hm⟩
      · refine reg [] [] [0, 1, 2, 7, 8, 14] [pl 0 (.slice A1 hand1.length c1), pl 1 (.int .i64 led1), pl 2 (.int .i64 card1), pl 7 (.bool has1), pl 8 (.int .i64 i1), pl 14 (.bool (decide (i1 < (hand1.length : Int))))] hF hS Fol (by kernel_rfl) (by kernel_rfl) (by kernel_rfl) ?_ (fun a w hF hS => ?_)
        · exact obs_nil
        refine cond_ev (t := 14) (b := decide (i1 < (hand1.length : Int))) hF (by kernel_rfl) (fun hb => ?_) (fun hb => ?_)
        · replace hm := if_t hm hb
          refine wpIn_skip ?_
          refine then_n ?_
          exact ⟨hF.weak [0, 1, 2, 7, 8] (by kernel_rfl), hS, hm⟩
        · replace hm := if_f hm hb
          refine wpIn_exit ?_
          refine then_e (then_e (block_e (then_n ?_)))
          rw [← hφ1] at hm
          replace hm := done_b hm
          unfold gameroomref_PlayMay_K1 at hm
          try dsimp only at hm
          have hm : ((gameroomref_PlayMay_J2 led1 card1) has1).bind some = some r := hm
          exact ⟨has1, hF.weak [1, 2, 7] (by kernel_rfl), hS, hm⟩
  · refine reg [] [] [0, 1, 2, 10] [pl 0 (.slice A1 hand1.length c1), pl 1 (.int .i64 led1), pl 2 (.int .i64 card1), pl 10 (.bool (decide (led1 < 0)))] hF hS Fol (by kernel_rfl) (by kernel_rfl) (by kernel_rfl) ?_ (fun a w hF hS => ?_)
    · exact obs_nil
    refine cond_ev (t := 10) (b := decide (led1 < 0)) hF (by kernel_rfl) (fun hb => ?_) (fun hb => ?_)
    · replace hm := if_t hm hb
      refine reg [] [] [6] [pl 6 (.bool true)] hF hS Fol (by kernel_rfl) (by kernel_rfl) (by kernel_rfl) ?_ (fun a w hF hS => ?_)
      · exact obs_nil
      refine wpIn_ret ?_
      refine then_r ?_
      have hm : some true = some r := hm
      obtain rfl := Option.some.inj hm
      exact retV (rs := [.tmp 6]) (vs := [.bool true]) hF rfl (rv_t (by kernel_rfl) <| rv_nil) rfl ⟨rfl, hS⟩
    · replace hm := if_f hm hb
      refine wpIn_skip ?_
      refine then_n ?_
      exact ⟨hF.weak [0, 1, 2] (by kernel_rfl), hS, hm⟩

noncomputable def gameroomref_Ints_m  (l1 : List Int) : Option (List Int) :=
  asrt ((0 : Int) + (l1.length : Int) ≤ bigN) <| some ([] ++ l1)

set_option maxRecDepth 100000 in
set_option maxHeartbeats 4000000 in
theorem gameroomref_Ints_w {A1 : Option Addr} {c1 : Nat} {n1 : Nat} {l1 : List Int} {r : (List Int)} {w0 w : World} {B : Nat} {fs : List HP} (hm : gameroomref_Ints_m l1 = some r) (hS : Sep w0 B w (fs)) (hr_l1 : RdF w0 B fs A1 (vI l1)) (_hc_l1 : l1.length ≤ c1) (_hn_l1 : n1 = l1.length) :
    Calls Try.prog 71 #[.slice A1 n1 c1] w fun e w' => ∃ v, e = .returned v ∧ ∃ (A3 : Option Addr) (c3 : Nat), v = .slice A3 r.length c3 ∧ Sep w0 B w' (own 3 (.slice A3 r.length c3) (vI r) :: fs) := by
  obtain ⟨i3, hi3, hz3, hs3, hb3⟩ := info_parts Info3
  obtain rfl := _hn_l1
  unfold gameroomref_Ints_m at hm
  replace hm := start_b hm
  refine enter (l := [.slice A1 l1.length c1]) (n := 5) Try.func71 rfl rfl (by simp) (fun a hF => ?_)
  refine reg [] [] [0] [pl 0 (.slice A1 l1.length c1)] hF hS Fol (by kernel_rfl) (by kernel_rfl) (by kernel_rfl) ?_ (fun a w hF hS => ?_)
  · exact obs_nil
  refine seqR ?_
  obtain ⟨hp1, hm⟩ := asrt_b hm
  refine at_run 1 [] [] [3] [pl 3 (.slice A1 l1.length c1)] hF hS (by kernel_rfl) (by kernel_rfl) ?_ (fun a w hF hS => ?_)
  · exact obs_nil
  have hS : Sep w0 B w (own 3 (.slice none 0 0) (vI ([] : List Int)) :: fs) := hS.nil 3
  obtain ⟨A2, c2, w, hrun, hS⟩ := run_app1 (P := Try.prog) (t := 34) (m := ([] : List Int)) (ys := l1) (A2 := A1) (m2 := l1.length) (c2 := c1) (Value.int .i64) (0 : Int) (hS.at_ 0 rfl) (hr_l1 _ (hS.dropN 1)) rfl 34 Und34 hi3 hz3 hs3 (by omega) rfl (fun _ => rfl) hp1
  have hS : Sep w0 B w (own 3 (.slice A2 (([] ++ l1).length) c2) (vI ([] ++ l1)) :: fs) := hS
  refine at_do (d := 4) hF (by kernel_rfl) (by kernel_rfl) hrun (fun a hF => ?_)
  refine at_run 1 [] [] [2] [pl 2 (.slice A2 (([] ++ l1).length) c2)] hF hS (by kernel_rfl) (by kernel_rfl) ?_ (fun a w hF hS => ?_)
  · exact obs_nil
  refine at_end [2] [pl 2 (.slice A2 (([] ++ l1).length) c2)] hF rfl (by kernel_rfl) (fun hF => ?_)
  refine then_n ?_
  refine wpIn_ret ?_
  have hm : some ([] ++ l1) = some r := hm
  obtain rfl := Option.some.inj hm
  exact retV (rs := [.tmp 2]) (vs := [.slice A2 (([] ++ l1).length) c2]) hF rfl (rv_t (by kernel_rfl) <| rv_nil) rfl ⟨_, rfl, A2, c2, rfl, hS⟩

noncomputable def gameroomref_BestTricks_J3  (rec_gameroomref_BestTricks : List (List Int) → Int → Int → List Int → Option Int) (hands1 : List (List Int)) (strain1 : Int) (leader1 : Int) (r1 : Int) (n3 : Int) : Option Int :=
  (rec_gameroomref_BestTricks hands1 strain1 (Int.tmod (w64 (leader1 + r1)) 4) ([] : List Int)).bind fun r2 => some (w64 (n3 + r2))

noncomputable def gameroomref_BestTricks_J2  (rec_gameroomref_BestTricks : List (List Int) → Int → Int → List Int → Option Int) (hands1 : List (List Int)) (strain1 : Int) (leader1 : Int) (r1 : Int) (n3 : Int) : Option Int :=
  asrt (0 ≤ (Int.tmod (w64 (leader1 + r1)) 4) ∧ (Int.tmod (w64 (leader1 + r1)) 4) < (hands1.length : Int)) <| if ((((geti2 hands1 (Int.tmod (w64 (leader1 + r1)) 4)).length : Nat) : Int) == 0) then (some n3) else ((gameroomref_BestTricks_J3 rec_gameroomref_BestTricks hands1 strain1 leader1 r1 n3))

noncomputable def gameroomref_BestTricks_J11  (k1 : Int) (next3 : List (List Int)) : Option (St (List (List Int) × Int) (List (List Int))) :=
  some (.next (next3, (w64 (k1 + 1))))

noncomputable def gameroomref_BestTricks_J12  (hands1 : List (List Int)) (i1 : Int) (next1 : List (List Int)) (k1 : Int) : Option (St (List (List Int) × Int) (List (List Int))) :=
  asrt (0 ≤ k1 ∧ k1 < (hands1.length : Int)) <| asrt (0 ≤ (0 : Int) ∧ (0 : Int) ≤ i1 ∧ i1 ≤ (((geti2 hands1 k1).length : Nat) : Int)) <| asrt (0 ≤ k1 ∧ k1 < (hands1.length : Int)) <| asrt (0 ≤ (w64 (i1 + 1)) ∧ (w64 (i1 + 1)) ≤ (((geti2 hands1 k1).length : Nat) : Int) ∧ (((geti2 hands1 k1).length : Nat) : Int) ≤ (((geti2 hands1 k1).length : Nat) : Int)) <| (gameroomref_Ints_m (cut (geti2 hands1 k1) (0 : Int) i1)).bind fun r4 => asrt ((r4.length : Int) + (((cut (geti2 hands1 k1) (w64 (i1 + 1)) (((geti2 hands1 k1).length : Nat) : Int)).length : Nat) : Int) ≤ bigN) <| asrt ((next1.length : Int) + 1 ≤ bigR) <| (gameroomref_BestTricks_J11 k1) (next1 ++ ([(r4 ++ (cut (geti2 hands1 k1) (w64 (i1 + 1)) (((geti2 hands1 k1).length : Nat) : Int)))] : List (List Int)))

noncomputable def gameroomref_BestTricks_J10  (hands1 : List (List Int)) (leader1 : Int) (trick1 : List Int) (i1 : Int) (next1 : List (List Int)) (k1 : Int) : Option (St (List (List Int) × Int) (List (List Int))) :=
  if (k1 != (Int.tmod (w64 (leader1 + (trick1.length : Int))) 4)) then (asrt (0 ≤ k1 ∧ k1 < (hands1.length : Int)) <| asrt ((next1.length : Int) + 1 ≤ bigR) <| (gameroomref_BestTricks_J11 k1) (next1 ++ ([(geti2 hands1 k1)] : List (List Int)))) else ((gameroomref_BestTricks_J12 hands1 i1 next1 k1))

noncomputable def gameroomref_BestTricks_J7  (i1 : Int) (best3 : Int) : Option (St (Int × Int) Int) :=
  some (.next (best3, (w64 (i1 + 1))))

noncomputable def gameroomref_BestTricks_J9  (rec_gameroomref_BestTricks : List (List Int) → Int → Int → List Int → Option Int) (hands1 : List (List Int)) (strain1 : Int) (leader1 : Int) (trick1 : List Int) (best1 : Int) (i1 : Int) (next2 : List (List Int)) : Option (St (Int × Int) Int) :=
  (gameroomref_Ints_m trick1).bind fun r5 => asrt ((r5.length : Int) + 1 ≤ bigN) <| (rec_gameroomref_BestTricks next2 strain1 leader1 (r5 ++ ([geti (geti2 hands1 (Int.tmod (w64 (leader1 + (trick1.length : Int))) 4)) i1] : List Int))).bind fun r6 => if (((decide (best1 < 0)) || (((Int.tmod (Int.tmod (w64 (leader1 + (trick1.length : Int))) 4) 2) == 0) && (decide (best1 < r6)))) || (((Int.tmod (Int.tmod (w64 (leader1 + (trick1.length : Int))) 4) 2) == 1) && (decide (r6 < best1)))) then ((gameroomref_BestTricks_J7 i1) r6) else ((gameroomref_BestTricks_J7 i1) best1)

noncomputable def gameroomref_BestTricks_K2  (rec_gameroomref_BestTricks : List (List Int) → Int → Int → List Int → Option Int) (hands1 : List (List Int)) (strain1 : Int) (leader1 : Int) (trick1 : List Int) (best1 : Int) (i1 : Int) : (List (List Int)) → Option (St (Int × Int) Int) :=
  fun (x : (List (List Int))) => match x with | next2 => (gameroomref_BestTricks_J9 rec_gameroomref_BestTricks hands1 strain1 leader1 trick1 best1 i1) next2

noncomputable def gameroomref_BestTricks_L2  (hands1 : List (List Int)) (leader1 : Int) (trick1 : List Int) (i1 : Int) : (List (List Int) × Int) → Option (St (List (List Int) × Int) (List (List Int))) :=
  fun (x : (List (List Int) × Int)) => match x with | (next1, k1) => if (decide (k1 < 4)) then ((gameroomref_BestTricks_J10 hands1 leader1 trick1 i1 next1 k1)) else (some (.done next1))

noncomputable def gameroomref_BestTricks_J8  (rec_gameroomref_BestTricks : List (List Int) → Int → Int → List Int → Option Int) (hands1 : List (List Int)) (strain1 : Int) (leader1 : Int) (trick1 : List Int) (best1 : Int) (i1 : Int) : Option (St (Int × Int) Int) :=
  (loop (gameroomref_BestTricks_L2 hands1 leader1 trick1 i1) (([] : List (List Int)), 0)).bind (gameroomref_BestTricks_K2 rec_gameroomref_BestTricks hands1 strain1 leader1 trick1 best1 i1)

noncomputable def gameroomref_BestTricks_J6  (rec_gameroomref_BestTricks : List (List Int) → Int → Int → List Int → Option Int) (hands1 : List (List Int)) (strain1 : Int) (leader1 : Int) (trick1 : List Int) (led1 : Int) (best1 : Int) (i1 : Int) : Option (St (Int × Int) Int) :=
  asrt (0 ≤ (Int.tmod (w64 (leader1 + (trick1.length : Int))) 4) ∧ (Int.tmod (w64 (leader1 + (trick1.length : Int))) 4) < (hands1.length : Int)) <| asrt (0 ≤ i1 ∧ i1 < (((geti2 hands1 (Int.tmod (w64 (leader1 + (trick1.length : Int))) 4)).length : Nat) : Int)) <| asrt (0 ≤ (Int.tmod (w64 (leader1 + (trick1.length : Int))) 4) ∧ (Int.tmod (w64 (leader1 + (trick1.length : Int))) 4) < (hands1.length : Int)) <| (gameroomref_PlayMay_m (geti2 hands1 (Int.tmod (w64 (leader1 + (trick1.length : Int))) 4)) led1 (geti (geti2 hands1 (Int.tmod (w64 (leader1 + (trick1.length : Int))) 4)) i1)).bind fun r3 => if (!r3) then ((gameroomref_BestTricks_J7 i1) best1) else ((gameroomref_BestTricks_J8 rec_gameroomref_BestTricks hands1 strain1 leader1 trick1 best1 i1))

noncomputable def gameroomref_BestTricks_J5  (best2 : Int) : Option Int :=
  some best2

noncomputable def gameroomref_BestTricks_K1  : Int → Option Int :=
  fun (x : Int) => match x with | best2 => gameroomref_BestTricks_J5 best2

noncomputable def gameroomref_BestTricks_L1  (rec_gameroomref_BestTricks : List (List Int) → Int → Int → List Int → Option Int) (hands1 : List (List Int)) (strain1 : Int) (leader1 : Int) (trick1 : List Int) (led1 : Int) : (Int × Int) → Option (St (Int × Int) Int) :=
  fun (x : (Int × Int)) => match x with | (best1, i1) => asrt (0 ≤ (Int.tmod (w64 (leader1 + (trick1.length : Int))) 4) ∧ (Int.tmod (w64 (leader1 + (trick1.length : Int))) 4) < (hands1.length : Int)) <| if (decide (i1 < (((geti2 hands1 (Int.tmod (w64 (leader1 + (trick1.length : Int))) 4)).length : Nat) : Int))) then ((gameroomref_BestTricks_J6 rec_gameroomref_BestTricks hands1 strain1 leader1 trick1 led1 best1 i1)) else (some (.done best1))

noncomputable def gameroomref_BestTricks_J4  (rec_gameroomref_BestTricks : List (List Int) → Int → Int → List Int → Option Int) (hands1 : List (List Int)) (strain1 : Int) (leader1 : Int) (trick1 : List Int) (led1 : Int) : Option Int :=
  (loop (gameroomref_BestTricks_L1 rec_gameroomref_BestTricks hands1 strain1 leader1 trick1 led1) ((-1), 0)).bind gameroomref_BestTricks_K1

noncomputable def gameroomref_BestTricks_J1  (rec_gameroomref_BestTricks : List (List Int) → Int → Int → List Int → Option Int) (hands1 : List (List Int)) (strain1 : Int) (leader1 : Int) (trick1 : List Int) : Option Int :=
  if (decide ((0 : Int) < (trick1.length : Int))) then (asrt (0 ≤ (0 : Int) ∧ (0 : Int) < (trick1.length : Int)) <| (gameroomref_BestTricks_J4 rec_gameroomref_BestTricks hands1 strain1 leader1 trick1) (geti trick1 0)) else ((gameroomref_BestTricks_J4 rec_gameroomref_BestTricks hands1 strain1 leader1 trick1) (-1))

noncomputable def gameroomref_BestTricks_B (rec_gameroomref_BestTricks : List (List Int) → Int → Int → List Int → Option Int) (hands1 : List (List Int)) (strain1 : Int) (leader1 : Int) (trick1 : List Int) : Option Int :=
  if ((trick1.length : Int) == 4) then ((gameroomref_TrickWinner_m trick1 strain1).bind fun r1 => if ((Int.tmod (Int.tmod (w64 (leader1 + r1)) 4) 2) == 0) then ((gameroomref_BestTricks_J2 rec_gameroomref_BestTricks hands1 strain1 leader1 r1) 1) else ((gameroomref_BestTricks_J2 rec_gameroomref_BestTricks hands1 strain1 leader1 r1) 0)) else ((gameroomref_BestTricks_J1 rec_gameroomref_BestTricks hands1 strain1 leader1 trick1))

noncomputable def gameroomref_BestTricks_mF : Nat → List (List Int) → Int → Int → List Int → Option Int
  | 0 => fun _ _ _ _ => none
  | n + 1 => fun hands1 strain1 leader1 trick1 => gameroomref_BestTricks_B (gameroomref_BestTricks_mF n) hands1 strain1 leader1 trick1

noncomputable def gameroomref_BestTricks_m (hands1 : List (List Int)) (strain1 : Int) (leader1 : Int) (trick1 : List Int) : Option Int :=
  recM fun n => gameroomref_BestTricks_mF n hands1 strain1 leader1 trick1

set_option maxRecDepth 100000 in
set_option maxHeartbeats 4000000 in
theorem gameroomref_BestTricks_wB {rec_gameroomref_BestTricks : List (List Int) → Int → Int → List Int → Option Int} (ih_gameroomref_BestTricks : ∀ {A1 : Option Addr} {c1 : Nat} {n1 : Nat} {hd1 : List Hd} {hands1 : List (List Int)} {strain1 : Int} {leader1 : Int} {A2 : Option Addr} {c2 : Nat} {n2 : Nat} {trick1 : List Int} {r : Int} {w0 w : World} {B : Nat} {fs : List HP} (_ : rec_gameroomref_BestTricks hands1 strain1 leader1 trick1 = some r) (_ : Sep w0 B w (fs)) (_hr_hands1 : RdRowsF w0 B fs A1 hd1 hands1) (_hc_hands1 : hands1.length ≤ c1) (_hn_hands1 : n1 = hands1.length) (_hr_trick1 : RdF w0 B fs A2 (vI trick1)) (_hc_trick1 : trick1.length ≤ c2) (_hn_trick1 : n2 = trick1.length), Calls Try.prog 52 #[.slice A1 n1 c1, .int .i64 strain1, .int .i64 leader1, .slice A2 n2 c2] w fun e w' => e = .returned (.int .i64 r) ∧ Sep w0 B w' (fs)) {A1 : Option Addr} {c1 : Nat} {n1 : Nat} {hd1 : List Hd} {hands1 : List (List Int)} {strain1 : Int} {leader1 : Int} {A2 : Option Addr} {c2 : Nat} {n2 : Nat} {trick1 : List Int} {r : Int} {w0 w : World} {B : Nat} {fs : List HP} (hm : gameroomref_BestTricks_B rec_gameroomref_BestTricks hands1 strain1 leader1 trick1 = some r) (hS : Sep w0 B w (fs)) (hr_hands1 : RdRowsF w0 B fs A1 hd1 hands1) (_hc_hands1 : hands1.length ≤ c1) (_hn_hands1 : n1 = hands1.length) (hr_trick1 : RdF w0 B fs A2 (vI trick1)) (_hc_trick1 : trick1.length ≤ c2) (_hn_trick1 : n2 = trick1.length) :
    Calls Try.prog 52 #[.slice A1 n1 c1, .int .i64 strain1, .int .i64 leader1, .slice A2 n2 c2] w fun e w' => e = .returned (.int .i64 r) ∧ Sep w0 B w' (fs) := by
  obtain ⟨i3, hi3, hz3, hs3, hb3⟩ := info_parts Info3
  obtain ⟨i34, hi34, hz34, hs34, hb34⟩ := info_parts Info34
  obtain rfl := _hn_hands1
  obtain rfl := _hn_trick1
  unfold gameroomref_BestTricks_B at hm
  replace hm := start_b hm
  refine enter (l := [.slice A1 hands1.length c1, .int .i64 strain1, .int .i64 leader1, .slice A2 trick1.length c2]) (n := 144) Try.func52 rfl rfl (by simp) (fun a hF => ?_)
  refine reg [] [] [0, 1, 2, 3] [pl 0 (.slice A1 hands1.length c1), pl 1 (.int .i64 strain1), pl 2 (.int .i64 leader1), pl 3 (.slice A2 trick1.length c2)] hF hS Fol (by kernel_rfl) (by kernel_rfl) (by kernel_rfl) ?_ (fun a w hF hS => ?_)
  · exact obs_nil
  refine seq_cut (fun a w => Fr 144 [pl 0 (.slice A1 hands1.length c1), pl 1 (.int .i64 strain1), pl 2 (.int .i64 leader1), pl 3 (.slice A2 trick1.length c2)] a ∧ Sep w0 B w (fs) ∧ ((gameroomref_BestTricks_J1 rec_gameroomref_BestTricks hands1 strain1 leader1 trick1)).bind some = some r) ?_ ?_
  · rintro a w ⟨hF, hS, hm⟩
    unfold gameroomref_BestTricks_J1 at hm
    refine reg [] [] [0, 1, 2, 3, 11] [pl 0 (.slice A1 hands1.length c1), pl 1 (.int .i64 strain1), pl 2 (.int .i64 leader1), pl 3 (.slice A2 trick1.length c2), pl 11 (.int .i64 (Int.tmod (w64 (leader1 + (trick1.length : Int))) 4))] hF hS Fol (by kernel_rfl) (by kernel_rfl) (by kernel_rfl) ?_ (fun a w hF hS => ?_)
    · exact obs_nil
    refine reg [] [] [0, 1, 2, 3, 11, 12] [pl 0 (.slice A1 hands1.length c1), pl 1 (.int .i64 strain1), pl 2 (.int .i64 leader1), pl 3 (.slice A2 trick1.length c2), pl 11 (.int .i64 (Int.tmod (w64 (leader1 + (trick1.length : Int))) 4)), pl 12 (.int .i64 (-1))] hF hS Fol (by kernel_rfl) (by kernel_rfl) (by kernel_rfl) ?_ (fun a w hF hS => ?_)
    · exact obs_nil
    refine seq_cut (fun a w => ∃ (led1 : Int), Fr 144 [pl 0 (.slice A1 hands1.length c1), pl 1 (.int .i64 strain1), pl 2 (.int .i64 leader1), pl 3 (.slice A2 trick1.length c2), pl 11 (.int .i64 (Int.tmod (w64 (leader1 + (trick1.length : Int))) 4)), pl 12 (.int .i64 led1)] a ∧ Sep w0 B w (fs) ∧ ((gameroomref_BestTricks_J4 rec_gameroomref_BestTricks hands1 strain1 leader1 trick1) led1).bind some = some r) ?_ ?_
    · rintro a w ⟨led1, hF, hS, hm⟩
      unfold gameroomref_BestTricks_J4 at hm
      refine reg [] [] [0, 1, 2, 3, 11, 12, 13] [pl 0 (.slice A1 hands1.length c1), pl 1 (.int .i64 strain1), pl 2 (.int .i64 leader1), pl 3 (.slice A2 trick1.length c2), pl 11 (.int .i64 (Int.tmod (w64 (leader1 + (trick1.length : Int))) 4)), pl 12 (.int .i64 led1), pl 13 (.int .i64 (-1))] hF hS Fol (by kernel_rfl) (by kernel_rfl) (by kernel_rfl) ?_ (fun a w hF hS => ?_)
      · exact obs_nil
      refine seq_cut (fun a w => ∃ (best2 : Int), Fr 144 [pl 13 (.int .i64 best2)] a ∧ Sep w0 B w (fs) ∧ (gameroomref_BestTricks_J5 best2).bind some = some r) ?_ ?_
      · rintro a w ⟨best2, hF, hS, hm⟩
        unfold gameroomref_BestTricks_J5 at hm
        refine reg [] [] [8] [pl 8 (.int .i64 best2)] hF hS Fol (by kernel_rfl) (by kernel_rfl) (by kernel_rfl) ?_ (fun a w hF hS => ?_)
        · exact obs_nil
        refine wpIn_ret ?_
        have hm : some best2 = some r := hm
        obtain rfl := Option.some.inj hm
        exact retV (rs := [.tmp 8]) (vs := [.int .i64 best2]) hF rfl (rv_t (by kernel_rfl) <| rv_nil) rfl ⟨rfl, hS⟩
      · refine reg [] [] [0, 1, 2, 3, 11, 12, 13, 14] [pl 0 (.slice A1 hands1.length c1), pl 1 (.int .i64 strain1), pl 2 (.int .i64 leader1), pl 3 (.slice A2 trick1.length c2), pl 11 (.int .i64 (Int.tmod (w64 (leader1 + (trick1.length : Int))) 4)), pl 12 (.int .i64 led1), pl 13 (.int .i64 (-1)), pl 14 (.int .i64 0)] hF hS Fol (by kernel_rfl) (by kernel_rfl) (by kernel_rfl) ?_ (fun a w hF hS => ?_)
        · exact obs_nil
        refine wpIn_block ?_
        refine wp_loop_model (S := (Int × Int)) (R := Int) (gameroomref_BestTricks_L1 rec_gameroomref_BestTricks hands1 strain1 leader1 trick1 led1) (fun x => (gameroomref_BestTricks_K1 x).bind some) r (fun (x : (Int × Int)) a w => Fr 144 [pl 0 (.slice A1 hands1.length c1), pl 1 (.int .i64 strain1), pl 2 (.int .i64 leader1), pl 3 (.slice A2 trick1.length c2), pl 11 (.int .i64 (Int.tmod (w64 (leader1 + (trick1.length : Int))) 4)), pl 12 (.int .i64 led1), pl 13 (.int .i64 x.1), pl 14 (.int .i64 x.2)] a ∧ Sep w0 B w (fs)) (assoc_b hm) ⟨hF.weak [0, 1, 2, 3, 11, 12, 13, 14] (by kernel_rfl), hS⟩ ?_
        clear hF hS hm
        rintro nn1 ⟨best1, i1⟩ a w ⟨hF, hS⟩ hm
        generalize hφ1 : stK (gameroomref_BestTricks_L1 rec_gameroomref_BestTricks hands1 strain1 leader1 trick1 led1) nn1 (fun x => (gameroomref_BestTricks_K1 x).bind some) = φ1 at hm
        unfold gameroomref_BestTricks_L1 at hm
        dsimp only at hF hS hm
        refine seq_cut (fun a w => Fr 144 [pl 0 (.slice A1 hands1.length c1), pl 1 (.int .i64 strain1), pl 2 (.int .i64 leader1), pl 3 (.slice A2 trick1.length c2), pl 11 (.int .i64 (Int.tmod (w64 (leader1 + (trick1.length : Int))) 4)), pl 12 (.int .i64 led1), pl 13 (.int .i64 best1), pl 14 (.int .i64 i1)] a ∧ Sep w0 B w (fs) ∧ ((gameroomref_BestTricks_J6 rec_gameroomref_BestTricks hands1 strain1 leader1 trick1 led1 best1 i1)).bind φ1 = some r) ?_ ?_
        · rintro a w ⟨hF, hS, hm⟩
          unfold gameroomref_BestTricks_J6 at hm
          refine seq_cut (fun a w => ∃ (best3 : Int), Fr 144 [pl 0 (.slice A1 hands1.length c1), pl 1 (.int .i64 strain1), pl 2 (.int .i64 leader1), pl 3 (.slice A2 trick1.length c2), pl 11 (.int .i64 (Int.tmod (w64 (leader1 + (trick1.length : Int))) 4)), pl 12 (.int .i64 led1), pl 13 (.int .i64 best3), pl 14 (.int .i64 i1)] a ∧ Sep w0 B w (fs) ∧ ((gameroomref_BestTricks_J7 i1) best3).bind φ1 = some r) ?_ ?_
          · rintro a w ⟨best3, hF, hS, hm⟩
            unfold gameroomref_BestTricks_J7 at hm
            refine reg1 [] [] [0, 1, 2, 3, 11, 12, 13, 14] [pl 0 (.slice A1 hands1.length c1), pl 1 (.int .i64 strain1), pl 2 (.int .i64 leader1), pl 3 (.slice A2 trick1.length c2), pl 11 (.int .i64 (Int.tmod (w64 (leader1 + (trick1.length : Int))) 4)), pl 12 (.int .i64 led1), pl 13 (.int .i64 best3), pl 14 (.int .i64 (w64 (i1 + 1)))] hF hS Fol (by kernel_rfl) (by kernel_rfl) (by kernel_rfl) ?_ (fun a w hF hS => ?_)
            · exact obs_nil
            refine then_n ?_
            rw [← hφ1] at hm
            exact ⟨(best3, (w64 (i1 + 1))), ⟨hF.weak [0, 1, 2, 3, 11, 12, 13, 14] (by kernel_rfl), hS⟩, hm⟩
          · refine wpIn_block ?_
            obtain ⟨hp4, hm⟩ := asrt_b hm
            obtain ⟨hp5, hm⟩ := asrt_b hm
            refine reg [⟨true, [], vS (Instr.indexAt 45 (.slice A1 hands1.length c1) (.int .i64 (Int.tmod (w64 (leader1 + (trick1.length : Int))) 4))), .pointer (some (sAddr A1 (Int.tmod (w64 (leader1 + (trick1.length : Int))) 4)))⟩, ⟨false, [], vS (Instr.loadAt 34 (.pointer (some (sAddr A1 (Int.tmod (w64 (leader1 + (trick1.length : Int))) 4))))), .slice (hdA hd1 (Int.tmod (w64 (leader1 + (trick1.length : Int))) 4)) ((geti2 hands1 (Int.tmod (w64 (leader1 + (trick1.length : Int))) 4)).length) (hdC hd1 (Int.tmod (w64 (leader1 + (trick1.length : Int))) 4))⟩, ⟨true, [], vS (Instr.indexAt 34 (.slice (hdA hd1 (Int.tmod (w64 (leader1 + (trick1.length : Int))) 4)) ((geti2 hands1 (Int.tmod (w64 (leader1 + (trick1.length : Int))) 4)).length) (hdC hd1 (Int.tmod (w64 (leader1 + (trick1.length : Int))) 4))) (.int .i64 i1)), .pointer (some (sAddr (hdA hd1 (Int.tmod (w64 (leader1 + (trick1.length : Int))) 4)) i1))⟩, ⟨false, [], vS (Instr.loadAt 3 (.pointer (some (sAddr (hdA hd1 (Int.tmod (w64 (leader1 + (trick1.length : Int))) 4)) i1)))), .int .i64 (geti (geti2 hands1 (Int.tmod (w64 (leader1 + (trick1.length : Int))) 4)) i1)⟩] [none, none, some (.pointer (some (sAddr A1 (Int.tmod (w64 (leader1 + (trick1.length : Int))) 4)))), some (.slice (hdA hd1 (Int.tmod (w64 (leader1 + (trick1.length : Int))) 4)) ((geti2 hands1 (Int.tmod (w64 (leader1 + (trick1.length : Int))) 4)).length) (hdC hd1 (Int.tmod (w64 (leader1 + (trick1.length : Int))) 4))), none, some (.pointer (some (sAddr (hdA hd1 (Int.tmod (w64 (leader1 + (trick1.length : Int))) 4)) i1))), some (.int .i64 (geti (geti2 hands1 (Int.tmod (w64 (leader1 + (trick1.length : Int))) 4)) i1)), none] [0, 1, 2, 3, 11, 12, 13, 14, 15] [pl 0 (.slice A1 hands1.length c1), pl 1 (.int .i64 strain1), pl 2 (.int .i64 leader1), pl 3 (.slice A2 trick1.length c2), pl 11 (.int .i64 (Int.tmod (w64 (leader1 + (trick1.length : Int))) 4)), pl 12 (.int .i64 led1), pl 13 (.int .i64 best1), pl 14 (.int .i64 i1), pl 15 (.int .i64 (geti (geti2 hands1 (Int.tmod (w64 (leader1 + (trick1.length : Int))) 4)) i1))] hF hS Fol (by kernel_rfl) (by kernel_rfl) (by kernel_rfl) ?_ (fun a w hF hS => ?_)
            · exact obs_cons (ob_ixRn Und45 hi34 hs34 (hr_hands1 _ (hS.dropN 0)) rfl (fun _ => hp4)) <| obs_cons (ob_getR Agg34 (fun _ hS => ⟨_, (hr_hands1 _ (hS.dropN 0))⟩) (fun _ => hp4)) <| obs_cons (ob_ix1 (f := (Value.int .i64)) (m := (geti2 hands1 (Int.tmod (w64 (leader1 + (trick1.length : Int))) 4))) Und34 hi3 hs3 ((hr_hands1 _ (hS.dropN 0)).row _ hp4).1 rfl (fun _ => hp5)) <| obs_cons (ob_get1 (n := (geti2 hands1 (Int.tmod (w64 (leader1 + (trick1.length : Int))) 4)).length) (m := (geti2 hands1 (Int.tmod (w64 (leader1 + (trick1.length : Int))) 4))) (Value.int .i64) (0 : Int) Agg3 (fun _ hS => ⟨_, ((hr_hands1 _ (hS.dropN 0)).row _ hp4).1⟩) (fun _ hS => rfl) (fun _ => hp5)) <| obs_nil
            refine seq_cut (fun a w => Fr 144 [pl 0 (.slice A1 hands1.length c1), pl 1 (.int .i64 strain1), pl 2 (.int .i64 leader1), pl 3 (.slice A2 trick1.length c2), pl 11 (.int .i64 (Int.tmod (w64 (leader1 + (trick1.length : Int))) 4)), pl 12 (.int .i64 led1), pl 13 (.int .i64 best1), pl 14 (.int .i64 i1), pl 15 (.int .i64 (geti (geti2 hands1 (Int.tmod (w64 (leader1 + (trick1.length : Int))) 4)) i1))] a ∧ Sep w0 B w (fs) ∧ ((gameroomref_BestTricks_J8 rec_gameroomref_BestTricks hands1 strain1 leader1 trick1 best1 i1)).bind φ1 = some r) ?_ ?_
            · rintro a w ⟨hF, hS, hm⟩
              unfold gameroomref_BestTricks_J8 at hm
              refine reg [] [] [0, 1, 2, 3, 11, 12, 13, 14, 15, 16] [pl 0 (.slice A1 hands1.length c1), pl 1 (.int .i64 strain1), pl 2 (.int .i64 leader1), pl 3 (.slice A2 trick1.length c2), pl 11 (.int .i64 (Int.tmod (w64 (leader1 + (trick1.length : Int))) 4)), pl 12 (.int .i64 led1), pl 13 (.int .i64 best1), pl 14 (.int .i64 i1), pl 15 (.int .i64 (geti (geti2 hands1 (Int.tmod (w64 (leader1 + (trick1.length : Int))) 4)) i1)), pl 16 (.slice none 0 0)] hF hS Fol (by kernel_rfl) (by kernel_rfl) (by kernel_rfl) ?_ (fun a w hF hS => ?_)
              · exact obs_nil
              refine seq_cut (fun a w => ∃ (next2 : List (List Int)) (A4 : Option Addr) (c4 : Nat) (hd3 : List Hd) (bg2 : HP), Fr 144 [pl 0 (.slice A1 hands1.length c1), pl 1 (.int .i64 strain1), pl 2 (.int .i64 leader1), pl 3 (.slice A2 trick1.length c2), pl 11 (.int .i64 (Int.tmod (w64 (leader1 + (trick1.length : Int))) 4)), pl 12 (.int .i64 led1), pl 13 (.int .i64 best1), pl 14 (.int .i64 i1), pl 15 (.int .i64 (geti (geti2 hands1 (Int.tmod (w64 (leader1 + (trick1.length : Int))) 4)) i1)), pl 16 (.slice A4 next2.length c4)] a ∧ Sep w0 B w (hdrs 34 A4 next2.length c4 hd3 next2 :: bg2 :: fs) ∧ BagOk w0 B fs bg2 hd3 next2 ∧ ((gameroomref_BestTricks_J9 rec_gameroomref_BestTricks hands1 strain1 leader1 trick1 best1 i1) next2).bind φ1 = some r) ?_ ?_
              · rintro a w ⟨next2, A4, c4, hd3, bg2, hF, hS, hb3, hm⟩
                unfold gameroomref_BestTricks_J9 at hm
                refine seqR ?_
                obtain ⟨r5, hr5, hm⟩ := call_b hm
                obtain ⟨hp15, hm⟩ := asrt_b hm
                obtain ⟨r6, hr6, hm⟩ := call_b hm
                refine at_run 4 [] [] [0, 1, 2, 3, 11, 12, 13, 14, 15, 111, 112, 113, 114] [pl 0 (.slice A1 hands1.length c1), pl 1 (.int .i64 strain1), pl 2 (.int .i64 leader1), pl 3 (.slice A2 trick1.length c2), pl 11 (.int .i64 (Int.tmod (w64 (leader1 + (trick1.length : Int))) 4)), pl 12 (.int .i64 led1), pl 13 (.int .i64 best1), pl 14 (.int .i64 i1), pl 15 (.int .i64 (geti (geti2 hands1 (Int.tmod (w64 (leader1 + (trick1.length : Int))) 4)) i1)), pl 111 (.slice A4 next2.length c4), pl 112 (.int .i64 strain1), pl 113 (.int .i64 leader1), pl 114 (.slice A2 trick1.length c2)] hF hS (by kernel_rfl) (by kernel_rfl) ?_ (fun a w hF hS => ?_)
                · exact obs_nil
                refine at_call (f := 71) (args := #[.slice A2 trick1.length c2]) (d := 115) hF (by kernel_rfl) (by kernel_rfl) Try.func71 (by kernel_rfl) rfl (gameroomref_Ints_w hr5 hS (fun _ hS => (hr_trick1 _ (hS.dropN 2))) _hc_trick1 rfl) (fun v a w hR hF => ?_)
                clear hS
                obtain ⟨A11, c11, rfl, hS⟩ := hR
                have hS : Sep w0 B w (own 3 (.slice A11 r5.length c11) (vI r5) :: hdrs 34 A4 next2.length c4 hd3 next2 :: bg2 :: fs) := hS
                refine at_run 1 [] [] [0, 1, 2, 3, 11, 12, 13, 14, 111, 112, 113, 115, 116] [pl 0 (.slice A1 hands1.length c1), pl 1 (.int .i64 strain1), pl 2 (.int .i64 leader1), pl 3 (.slice A2 trick1.length c2), pl 11 (.int .i64 (Int.tmod (w64 (leader1 + (trick1.length : Int))) 4)), pl 12 (.int .i64 led1), pl 13 (.int .i64 best1), pl 14 (.int .i64 i1), pl 111 (.slice A4 next2.length c4), pl 112 (.int .i64 strain1), pl 113 (.int .i64 leader1), pl 115 (.slice A11 r5.length c11), pl 116 (.int .i64 (geti (geti2 hands1 (Int.tmod (w64 (leader1 + (trick1.length : Int))) 4)) i1))] hF hS (by kernel_rfl) (by kernel_rfl) ?_ (fun a w hF hS => ?_)
                · exact obs_nil
                refine at_do (d := 117) (s := vS (Instr.buildSlice 34 1 #[(0, .int .i64 (geti (geti2 hands1 (Int.tmod (w64 (leader1 + (trick1.length : Int))) 4)) i1))])) (v := .slice (some ⟨w.heap.size, 0, none⟩) 1 1) (w' := w.alloc (.cells #[.int .i64 (geti (geti2 hands1 (Int.tmod (w64 (leader1 + (trick1.length : Int))) 4)) i1)] 3)) hF (by kernel_rfl) (by kernel_rfl) (by kernel_rfl) (fun a hF => ?_)
                have hS : Sep w0 B (w.alloc (.cells #[.int .i64 (geti (geti2 hands1 (Int.tmod (w64 (leader1 + (trick1.length : Int))) 4)) i1)] 3)) (own 3 (.slice (some (⟨w.heap.size, 0, none⟩ : Addr)) 1 1) (vI ([geti (geti2 hands1 (Int.tmod (w64 (leader1 + (trick1.length : Int))) 4)) i1] : List Int)) :: (own 3 (.slice A11 r5.length c11) (vI r5) :: hdrs 34 A4 next2.length c4 hd3 next2 :: bg2 :: fs)) := hS.lit 3 #[.int .i64 (geti (geti2 hands1 (Int.tmod (w64 (leader1 + (trick1.length : Int))) 4)) i1)] 1 rfl (by omega)
                generalize (some (⟨w.heap.size, 0, none⟩ : Addr)) = g3 at hF hS
                generalize w.alloc (.cells #[.int .i64 (geti (geti2 hands1 (Int.tmod (w64 (leader1 + (trick1.length : Int))) 4)) i1)] 3) = w at hS ⊢
                obtain ⟨A12, c12, w, hrun, hS⟩ := run_app1 (P := Try.prog) (t := 34) (m := r5) (ys := ([geti (geti2 hands1 (Int.tmod (w64 (leader1 + (trick1.length : Int))) 4)) i1] : List Int)) (A2 := g3) (m2 := 1) (c2 := 1) (Value.int .i64) (0 : Int) (hS.at_ 1 rfl) (hS.at_ 0 rfl).rd ((hS.at_ 0 rfl).len1) 34 Und34 hi3 hz3 hs3 (by omega) rfl (fun _ => rfl) hp15
                have hS : Sep w0 B w (own 3 (.slice g3 1 1) (vI ([geti (geti2 hands1 (Int.tmod (w64 (leader1 + (trick1.length : Int))) 4)) i1] : List Int)) :: own 3 (.slice A12 ((r5 ++ ([geti (geti2 hands1 (Int.tmod (w64 (leader1 + (trick1.length : Int))) 4)) i1] : List Int)).length) c12) (vI (r5 ++ ([geti (geti2 hands1 (Int.tmod (w64 (leader1 + (trick1.length : Int))) 4)) i1] : List Int))) :: hdrs 34 A4 next2.length c4 hd3 next2 :: bg2 :: fs) := hS
                refine at_do (d := 118) hF (by kernel_rfl) (by kernel_rfl) hrun (fun a hF => ?_)
                refine at_run 2 [⟨false, [], callFunc 52 #[.slice A4 next2.length c4, .int .i64 strain1, .int .i64 leader1, .slice A12 ((r5 ++ ([geti (geti2 hands1 (Int.tmod (w64 (leader1 + (trick1.length : Int))) 4)) i1] : List Int)).length) c12], .int .i64 r6⟩] [some (.int .i64 r6), none] [0, 1, 2, 3, 11, 12, 13, 14, 18] [pl 0 (.slice A1 hands1.length c1), pl 1 (.int .i64 strain1), pl 2 (.int .i64 leader1), pl 3 (.slice A2 trick1.length c2), pl 11 (.int .i64 (Int.tmod (w64 (leader1 + (trick1.length : Int))) 4)), pl 12 (.int .i64 led1), pl 13 (.int .i64 best1), pl 14 (.int .i64 i1), pl 18 (.int .i64 r6)] hF hS (by kernel_rfl) (by kernel_rfl) ?_ (fun a w hF hS => ?_)
                · exact obs_cons (ob_call Try.func52 (by kernel_rfl) rfl (fun _ _ hS => ih_gameroomref_BestTricks hr6 hS (fun _ hS => (rdHdr hS 2 rfl (hb3.at_ hS 4 3 (by decide) rfl rfl))) (hS.at_ 2 rfl).capH (hS.at_ 2 rfl).lenH (fun _ hS => (hS.at_ 1 rfl).rd) ((hS.at_ 1 rfl).cap1) rfl)) <| obs_nil
                refine at_end [0, 1, 2, 3, 11, 12, 13, 14, 18] [pl 0 (.slice A1 hands1.length c1), pl 1 (.int .i64 strain1), pl 2 (.int .i64 leader1), pl 3 (.slice A2 trick1.length c2), pl 11 (.int .i64 (Int.tmod (w64 (leader1 + (trick1.length : Int))) 4)), pl 12 (.int .i64 led1), pl 13 (.int .i64 best1), pl 14 (.int .i64 i1), pl 18 (.int .i64 r6)] hF rfl (by kernel_rfl) (fun hF => ?_)
                refine then_n ?_
                refine reg [] [] [0, 1, 2, 3, 11, 12, 13, 14, 18, 141] [pl 0 (.slice A1 hands1.length c1), pl 1 (.int .i64 strain1), pl 2 (.int .i64 leader1), pl 3 (.slice A2 trick1.length c2), pl 11 (.int .i64 (Int.tmod (w64 (leader1 + (trick1.length : Int))) 4)), pl 12 (.int .i64 led1), pl 13 (.int .i64 best1), pl 14 (.int .i64 i1), pl 18 (.int .i64 r6), pl 141 (.bool (((decide (best1 < 0)) || (((Int.tmod (Int.tmod (w64 (leader1 + (trick1.length : Int))) 4) 2) == 0) && (decide (best1 < r6)))) || (((Int.tmod (Int.tmod (w64 (leader1 + (trick1.length : Int))) 4) 2) == 1) && (decide (r6 < best1)))))] hF hS Fol (by kernel_rfl) (by kernel_rfl) (by kernel_rfl) ?_ (fun a w hF hS => ?_)
                · exact obs_nil
                refine cond_ev (t := 141) (b := ((decide (best1 < 0)) || (((Int.tmod (Int.tmod (w64 (leader1 + (trick1.length : Int))) 4) 2) == 0) && (decide (best1 < r6)))) || (((Int.tmod (Int.tmod (w64 (leader1 + (trick1.length : Int))) 4) 2) == 1) && (decide (r6 < best1)))) hF (by kernel_rfl) (fun hb => ?_) (fun hb => ?_)
                · replace hm := if_t hm hb
                  refine reg1 [] [] [0, 1, 2, 3, 11, 12, 13, 14] [pl 0 (.slice A1 hands1.length c1), pl 1 (.int .i64 strain1), pl 2 (.int .i64 leader1), pl 3 (.slice A2 trick1.length c2), pl 11 (.int .i64 (Int.tmod (w64 (leader1 + (trick1.length : Int))) 4)), pl 12 (.int .i64 led1), pl 13 (.int .i64 r6), pl 14 (.int .i64 i1)] hF hS Fol (by kernel_rfl) (by kernel_rfl) (by kernel_rfl) ?_ (fun a w hF hS => ?_)
                  · exact obs_nil
                  refine block_n ?_
                  refine then_n ?_
                  have hS := hS.pickN 4 [] (by decide)
                  exact ⟨r6, hF.weak [0, 1, 2, 3, 11, 12, 13, 14] (by kernel_rfl), hS, hm⟩
                · replace hm := if_f hm hb
                  refine wpIn_skip ?_
                  refine block_n ?_
                  refine then_n ?_
                  have hS := hS.pickN 4 [] (by decide)
                  exact ⟨best1, hF.weak [0, 1, 2, 3, 11, 12, 13, 14] (by kernel_rfl), hS, hm⟩
              · refine reg [] [] [0, 1, 2, 3, 11, 12, 13, 14, 15, 16, 17] [pl 0 (.slice A1 hands1.length c1), pl 1 (.int .i64 strain1), pl 2 (.int .i64 leader1), pl 3 (.slice A2 trick1.length c2), pl 11 (.int .i64 (Int.tmod (w64 (leader1 + (trick1.length : Int))) 4)), pl 12 (.int .i64 led1), pl 13 (.int .i64 best1), pl 14 (.int .i64 i1), pl 15 (.int .i64 (geti (geti2 hands1 (Int.tmod (w64 (leader1 + (trick1.length : Int))) 4)) i1)), pl 16 (.slice none 0 0), pl 17 (.int .i64 0)] hF hS Fol (by kernel_rfl) (by kernel_rfl) (by kernel_rfl) ?_ (fun a w hF hS => ?_)
                · exact obs_nil
                refine wpIn_block ?_
                have hS : Sep w0 B w (noB :: fs) := hS.noB
                have hb2 : BagOk w0 B fs noB [] [] := BagOk.nil
                have hS : Sep w0 B w (hdrs 34 none 0 0 ([] : List Hd) ([] : List (List Int)) :: noB :: fs) := hS.nilHdr 34
                refine wp_loop_model (S := (List (List Int) × Int)) (R := (List (List Int))) (gameroomref_BestTricks_L2 hands1 leader1 trick1 i1) (fun x => ((gameroomref_BestTricks_K2 rec_gameroomref_BestTricks hands1 strain1 leader1 trick1 best1 i1) x).bind φ1) r (fun (x : (List (List Int) × Int)) a w => ∃ (A3 : Option Addr) (c3 : Nat) (hd2 : List Hd) (bg1 : HP), Fr 144 [pl 0 (.slice A1 hands1.length c1), pl 1 (.int .i64 strain1), pl 2 (.int .i64 leader1), pl 3 (.slice A2 trick1.length c2), pl 11 (.int .i64 (Int.tmod (w64 (leader1 + (trick1.length : Int))) 4)), pl 12 (.int .i64 led1), pl 13 (.int .i64 best1), pl 14 (.int .i64 i1), pl 15 (.int .i64 (geti (geti2 hands1 (Int.tmod (w64 (leader1 + (trick1.length : Int))) 4)) i1)), pl 16 (.slice A3 x.1.length c3), pl 17 (.int .i64 x.2)] a ∧ Sep w0 B w (hdrs 34 A3 x.1.length c3 hd2 x.1 :: bg1 :: fs) ∧ BagOk w0 B fs bg1 hd2 x.1) (assoc_b hm) ⟨none, 0, ([] : List Hd), noB, hF.weak [0, 1, 2, 3, 11, 12, 13, 14, 15, 16, 17] (by kernel_rfl), hS, hb2⟩ ?_
                clear hF hS hm
                rintro nn2 ⟨next1, k1⟩ a w ⟨A3, c3, hd2, bg1, hF, hS, hb1⟩ hm
                generalize hφ2 : stK (gameroomref_BestTricks_L2 hands1 leader1 trick1 i1) nn2 (fun x => ((gameroomref_BestTricks_K2 rec_gameroomref_BestTricks hands1 strain1 leader1 trick1 best1 i1) x).bind φ1) = φ2 at hm
                unfold gameroomref_BestTricks_L2 at hm
                dsimp only at hF hS hm
                refine seq_cut (fun a w => Fr 144 [pl 0 (.slice A1 hands1.length c1), pl 1 (.int .i64 strain1), pl 2 (.int .i64 leader1), pl 3 (.slice A2 trick1.length c2), pl 11 (.int .i64 (Int.tmod (w64 (leader1 + (trick1.length : Int))) 4)), pl 12 (.int .i64 led1), pl 13 (.int .i64 best1), pl 14 (.int .i64 i1), pl 15 (.int .i64 (geti (geti2 hands1 (Int.tmod (w64 (leader1 + (trick1.length : Int))) 4)) i1)), pl 16 (.slice A3 next1.length c3), pl 17 (.int .i64 k1)] a ∧ Sep w0 B w (hdrs 34 A3 next1.length c3 hd2 next1 :: bg1 :: fs) ∧ ((gameroomref_BestTricks_J10 hands1 leader1 trick1 i1 next1 k1)).bind φ2 = some r) ?_ ?_
                · rintro a w ⟨hF, hS, hm⟩
                  unfold gameroomref_BestTricks_J10 at hm
                  refine seq_cut (fun a w => ∃ (next3 : List (List Int)) (A6 : Option Addr) (c6 : Nat) (hd4 : List Hd) (bg3 : HP), Fr 144 [pl 0 (.slice A1 hands1.length c1), pl 1 (.int .i64 strain1), pl 2 (.int .i64 leader1), pl 3 (.slice A2 trick1.length c2), pl 11 (.int .i64 (Int.tmod (w64 (leader1 + (trick1.length : Int))) 4)), pl 12 (.int .i64 led1), pl 13 (.int .i64 best1), pl 14 (.int .i64 i1), pl 15 (.int .i64 (geti (geti2 hands1 (Int.tmod (w64 (leader1 + (trick1.length : Int))) 4)) i1)), pl 16 (.slice A6 next3.length c6), pl 17 (.int .i64 k1)] a ∧ Sep w0 B w (hdrs 34 A6 next3.length c6 hd4 next3 :: bg3 :: fs) ∧ BagOk w0 B fs bg3 hd4 next3 ∧ ((gameroomref_BestTricks_J11 k1) next3).bind φ2 = some r) ?_ ?_
                  · rintro a w ⟨next3, A6, c6, hd4, bg3, hF, hS, hb5, hm⟩
                    unfold gameroomref_BestTricks_J11 at hm
                    refine reg1 [] [] [0, 1, 2, 3, 11, 12, 13, 14, 15, 16, 17] [pl 0 (.slice A1 hands1.length c1), pl 1 (.int .i64 strain1), pl 2 (.int .i64 leader1), pl 3 (.slice A2 trick1.length c2), pl 11 (.int .i64 (Int.tmod (w64 (leader1 + (trick1.length : Int))) 4)), pl 12 (.int .i64 led1), pl 13 (.int .i64 best1), pl 14 (.int .i64 i1), pl 15 (.int .i64 (geti (geti2 hands1 (Int.tmod (w64 (leader1 + (trick1.length : Int))) 4)) i1)), pl 16 (.slice A6 next3.length c6), pl 17 (.int .i64 (w64 (k1 + 1)))] hF hS Fol (by kernel_rfl) (by kernel_rfl) (by kernel_rfl) ?_ (fun a w hF hS => ?_)
                    · exact obs_nil
                    refine then_n ?_
                    rw [← hφ2] at hm
                    exact ⟨(next3, (w64 (k1 + 1))), ⟨A6, c6, hd4, bg3, hF.weak [0, 1, 2, 3, 11, 12, 13, 14, 15, 16, 17] (by kernel_rfl), hS, hb5⟩, hm⟩
                  · refine wpIn_block ?_
                    refine seq_cut (fun a w => Fr 144 [pl 0 (.slice A1 hands1.length c1), pl 1 (.int .i64 strain1), pl 2 (.int .i64 leader1), pl 3 (.slice A2 trick1.length c2), pl 11 (.int .i64 (Int.tmod (w64 (leader1 + (trick1.length : Int))) 4)), pl 12 (.int .i64 led1), pl 13 (.int .i64 best1), pl 14 (.int .i64 i1), pl 15 (.int .i64 (geti (geti2 hands1 (Int.tmod (w64 (leader1 + (trick1.length : Int))) 4)) i1)), pl 16 (.slice A3 next1.length c3), pl 17 (.int .i64 k1)] a ∧ Sep w0 B w (hdrs 34 A3 next1.length c3 hd2 next1 :: bg1 :: fs) ∧ ((gameroomref_BestTricks_J12 hands1 i1 next1 k1)).bind φ2 = some r) ?_ ?_
                    · rintro a w ⟨hF, hS, hm⟩
                      unfold gameroomref_BestTricks_J12 at hm
                      obtain ⟨hp9, hm⟩ := asrt_b hm
                      obtain ⟨hp10, hm⟩ := asrt_b hm
                      obtain ⟨hp11, hm⟩ := asrt_b hm
                      obtain ⟨hp12, hm⟩ := asrt_b hm
                      obtain ⟨r4, hr4, hm⟩ := call_b hm
                      obtain ⟨hp13, hm⟩ := asrt_b hm
                      obtain ⟨hp14, hm⟩ := asrt_b hm
                      refine regMix5 [0, 1, 2, 3, 4, 5, 6, 8, 9, 10, 11, 12, 13, 14] [17] 5 #[true, true, true, true, true, true, true, false, true, true, true, true, true, true, true, false, false, false, false] [⟨true, [], vS (Instr.indexAt 45 (.slice A1 hands1.length c1) (.int .i64 k1)), .pointer (some (sAddr A1 k1))⟩, ⟨false, [], vS (Instr.loadAt 34 (.pointer (some (sAddr A1 k1)))), .slice (hdA hd1 k1) ((geti2 hands1 k1).length) (hdC hd1 k1)⟩, ⟨true, [], vS (Instr.sliceAt 34 (.slice (hdA hd1 k1) ((geti2 hands1 k1).length) (hdC hd1 k1)) none (some (.int .i64 i1)) none), .slice (cutAddr (hdA hd1 k1) (hdC hd1 k1) (0 : Int)) ((cut (geti2 hands1 k1) (0 : Int) i1).length) ((hdC hd1 k1) - Int.toNat (0 : Int))⟩, ⟨true, [], vS (Instr.indexAt 45 (.slice A1 hands1.length c1) (.int .i64 k1)), .pointer (some (sAddr A1 k1))⟩, ⟨false, [], vS (Instr.loadAt 34 (.pointer (some (sAddr A1 k1)))), .slice (hdA hd1 k1) ((geti2 hands1 k1).length) (hdC hd1 k1)⟩, ⟨true, [], vS (Instr.sliceAt 34 (.slice (hdA hd1 k1) ((geti2 hands1 k1).length) (hdC hd1 k1)) (some (.int .i64 (w64 (i1 + 1)))) none none), .slice (cutAddr (hdA hd1 k1) (hdC hd1 k1) (w64 (i1 + 1))) ((cut (geti2 hands1 k1) (w64 (i1 + 1)) (((geti2 hands1 k1).length : Nat) : Int)).length) ((hdC hd1 k1) - Int.toNat (w64 (i1 + 1)))⟩] [none, none, none, some (.pointer (some (sAddr A1 k1))), some (.slice (hdA hd1 k1) ((geti2 hands1 k1).length) (hdC hd1 k1)), none, some (.slice (cutAddr (hdA hd1 k1) (hdC hd1 k1) (0 : Int)) ((cut (geti2 hands1 k1) (0 : Int) i1).length) ((hdC hd1 k1) - Int.toNat (0 : Int))), none, none, some (.pointer (some (sAddr A1 k1))), some (.slice (hdA hd1 k1) ((geti2 hands1 k1).length) (hdC hd1 k1)), none, none, some (.slice (cutAddr (hdA hd1 k1) (hdC hd1 k1) (w64 (i1 + 1))) ((cut (geti2 hands1 k1) (w64 (i1 + 1)) (((geti2 hands1 k1).length : Nat) : Int)).length) ((hdC hd1 k1) - Int.toNat (w64 (i1 + 1))))] [0, 1, 2, 3, 11, 12, 13, 14, 15, 17, 93, 99, 107] [pl 0 (.slice A1 hands1.length c1), pl 1 (.int .i64 strain1), pl 2 (.int .i64 leader1), pl 3 (.slice A2 trick1.length c2), pl 11 (.int .i64 (Int.tmod (w64 (leader1 + (trick1.length : Int))) 4)), pl 12 (.int .i64 led1), pl 13 (.int .i64 best1), pl 14 (.int .i64 i1), pl 15 (.int .i64 (geti (geti2 hands1 (Int.tmod (w64 (leader1 + (trick1.length : Int))) 4)) i1)), pl 17 (.int .i64 k1), pl 93 (.slice A3 next1.length c3), pl 99 (.slice (cutAddr (hdA hd1 k1) (hdC hd1 k1) (0 : Int)) ((cut (geti2 hands1 k1) (0 : Int) i1).length) ((hdC hd1 k1) - Int.toNat (0 : Int))), pl 107 (.slice (cutAddr (hdA hd1 k1) (hdC hd1 k1) (w64 (i1 + 1))) ((cut (geti2 hands1 k1) (w64 (i1 + 1)) (((geti2 hands1 k1).length : Nat) : Int)).length) ((hdC hd1 k1) - Int.toNat (w64 (i1 + 1))))] hF hS Fol (by kernel_rfl) (by kernel_rfl) (by kernel_rfl) (by kernel_rfl) ?_ (fun a w hF hS => ?_)
                      · exact obs_cons (ob_ixRn Und45 hi34 hs34 (hr_hands1 _ (hS.dropN 2)) rfl (fun _ => hp9)) <| obs_cons (ob_getR Agg34 (fun _ hS => ⟨_, (hr_hands1 _ (hS.dropN 2))⟩) (fun _ => hp9)) <| obs_cons (ob_cutn (l := (geti2 hands1 k1)) (k := .i64) (k' := .i64) Und34 hi3 hs3 rfl (.inr ⟨rfl, rfl⟩) (.inl rfl) (fun _ => hp10) ((hr_hands1 _ (hS.dropN 2)).row _ hp9).2) <| obs_cons (ob_ixRn Und45 hi34 hs34 (hr_hands1 _ (hS.dropN 2)) rfl (fun _ => hp11)) <| obs_cons (ob_getR Agg34 (fun _ hS => ⟨_, (hr_hands1 _ (hS.dropN 2))⟩) (fun _ => hp11)) <| obs_cons (ob_cutn (l := (geti2 hands1 k1)) (k := .i64) (k' := .i64) Und34 hi3 hs3 rfl (.inl rfl) (.inr ⟨rfl, rfl⟩) (fun _ => hp12) ((hr_hands1 _ (hS.dropN 2)).row _ hp11).2) <| obs_nil
                      refine any_step [7] (by kernel_rfl) rfl ?_
                      refine (all_cons ?_ all_nil)
                      · refine any_op (listed' := #[true, true, true, true, true, true, true, true, true, true, true, true, true, true, true, false, false, false, false]) (by kernel_rfl) (by kernel_rfl) ?_
                        refine at_call (f := 71) (args := #[.slice (cutAddr (hdA hd1 k1) (hdC hd1 k1) (0 : Int)) ((cut (geti2 hands1 k1) (0 : Int) i1).length) ((hdC hd1 k1) - Int.toNat (0 : Int))]) (d := 100) hF (by kernel_rfl) (by kernel_rfl) Try.func71 (by kernel_rfl) rfl (gameroomref_Ints_w hr4 hS (fun _ hS => (Rd.cutF ((hr_hands1 _ (hS.dropN 2)).row _ hp9).1 hp10 ((hr_hands1 _ (hS.dropN 2)).row _ hp9).2)) (cap_cut hp10 ((hr_hands1 _ (hS.dropN 2)).row _ hp9).2) rfl) (fun v a w hR hF => ?_)
                        clear hS
                        obtain ⟨A10, c10, rfl, hS⟩ := hR
                        have hS : Sep w0 B w (own 3 (.slice A10 r4.length c10) (vI r4) :: hdrs 34 A3 next1.length c3 hd2 next1 :: bg1 :: fs) := hS
                        refine any_fin rfl (hS.pickN 3 [1, 2] (by decide)) ?_
                        refine any_step [15] (by kernel_rfl) rfl ?_
                        refine (all_cons ?_ all_nil)
                        · refine any_op (listed' := #[true, true, true, true, true, true, true, true, true, true, true, true, true, true, true, true, false, false, false]) (by kernel_rfl) (by kernel_rfl) ?_
                          obtain ⟨A8, c8, w, hrun, hS⟩ := run_app1 (P := Try.prog) (t := 34) (m := r4) (ys := (cut (geti2 hands1 k1) (w64 (i1 + 1)) (((geti2 hands1 k1).length : Nat) : Int))) (A2 := (cutAddr (hdA hd1 k1) (hdC hd1 k1) (w64 (i1 + 1)))) (m2 := (cut (geti2 hands1 k1) (w64 (i1 + 1)) (((geti2 hands1 k1).length : Nat) : Int)).length) (c2 := ((hdC hd1 k1) - Int.toNat (w64 (i1 + 1)))) (Value.int .i64) (0 : Int) (hS.at_ 0 rfl) (Rd.cutF ((hr_hands1 _ (hS.dropN 3)).row _ hp11).1 hp12 ((hr_hands1 _ (hS.dropN 3)).row _ hp11).2) rfl 34 Und34 hi3 hz3 hs3 (by omega) rfl (fun _ => rfl) hp13
                          have hS : Sep w0 B w (own 3 (.slice A8 ((r4 ++ (cut (geti2 hands1 k1) (w64 (i1 + 1)) (((geti2 hands1 k1).length : Nat) : Int))).length) c8) (vI (r4 ++ (cut (geti2 hands1 k1) (w64 (i1 + 1)) (((geti2 hands1 k1).length : Nat) : Int)))) :: hdrs 34 A3 next1.length c3 hd2 next1 :: bg1 :: fs) := hS
                          refine at_do (d := 108) hF (by kernel_rfl) (by kernel_rfl) hrun (fun a hF => ?_)
                          refine any_fin rfl (hS.pickN 3 [1, 2] (by decide)) ?_
                          refine any_step [16] (by kernel_rfl) rfl ?_
                          refine (all_cons ?_ all_nil)
                          · refine any_op (listed' := #[true, true, true, true, true, true, true, true, true, true, true, true, true, true, true, true, true, false, false]) (by kernel_rfl) (by kernel_rfl) ?_
                            refine at_do (d := 109) (s := vS (Instr.buildSlice 45 1 #[(0, .slice A8 ((r4 ++ (cut (geti2 hands1 k1) (w64 (i1 + 1)) (((geti2 hands1 k1).length : Nat) : Int))).length) c8)])) (v := .slice (some ⟨w.heap.size, 0, none⟩) 1 1) (w' := w.alloc (.cells #[.slice A8 ((r4 ++ (cut (geti2 hands1 k1) (w64 (i1 + 1)) (((geti2 hands1 k1).length : Nat) : Int))).length) c8] 34)) hF (by kernel_rfl) (by kernel_rfl) (by kernel_rfl) (fun a hF => ?_)
                            have hS : Sep w0 B (w.alloc (.cells #[.slice A8 ((r4 ++ (cut (geti2 hands1 k1) (w64 (i1 + 1)) (((geti2 hands1 k1).length : Nat) : Int))).length) c8] 34)) (own 34 (.slice (some (⟨w.heap.size, 0, none⟩ : Addr)) 1 1) [.slice A8 ((r4 ++ (cut (geti2 hands1 k1) (w64 (i1 + 1)) (((geti2 hands1 k1).length : Nat) : Int))).length) c8] :: (own 3 (.slice A8 ((r4 ++ (cut (geti2 hands1 k1) (w64 (i1 + 1)) (((geti2 hands1 k1).length : Nat) : Int))).length) c8) (vI (r4 ++ (cut (geti2 hands1 k1) (w64 (i1 + 1)) (((geti2 hands1 k1).length : Nat) : Int)))) :: hdrs 34 A3 next1.length c3 hd2 next1 :: bg1 :: fs)) := hS.lit 34 #[.slice A8 ((r4 ++ (cut (geti2 hands1 k1) (w64 (i1 + 1)) (((geti2 hands1 k1).length : Nat) : Int))).length) c8] 1 rfl (by omega)
                            generalize (some (⟨w.heap.size, 0, none⟩ : Addr)) = g2 at hF hS
                            generalize w.alloc (.cells #[.slice A8 ((r4 ++ (cut (geti2 hands1 k1) (w64 (i1 + 1)) (((geti2 hands1 k1).length : Nat) : Int))).length) c8] 34) = w at hS ⊢
                            refine any_fin rfl (hS.pickN 4 [2, 3] (by decide)) ?_
                            refine any_step [17] (by kernel_rfl) rfl ?_
                            refine (all_cons ?_ all_nil)
                            · refine any_op (listed' := #[true, true, true, true, true, true, true, true, true, true, true, true, true, true, true, true, true, true, false]) (by kernel_rfl) (by kernel_rfl) ?_
                              obtain ⟨A9, c9, w, hrun, hS⟩ := run_appHdr (P := Try.prog) (t := 45) (A2 := g2) (n2 := 1) (c2 := 1) (hS.at_ 2 rfl) (rdLit (hd := ([(A8, c8)] : List Hd)) (m := ([(r4 ++ (cut (geti2 hands1 k1) (w64 (i1 + 1)) (((geti2 hands1 k1).length : Nat) : Int)))] : List (List Int))) hS 0 rfl ⟨⟨(hS.at_ 1 rfl).rd, ((hS.at_ 1 rfl).cap1)⟩, trivial⟩) rfl 45 Und45 hi34 hz34 hs34 hb34 hp14
                              have hS : Sep w0 B w (own 34 (.slice g2 1 1) [.slice A8 ((r4 ++ (cut (geti2 hands1 k1) (w64 (i1 + 1)) (((geti2 hands1 k1).length : Nat) : Int))).length) c8] :: own 3 (.slice A8 ((r4 ++ (cut (geti2 hands1 k1) (w64 (i1 + 1)) (((geti2 hands1 k1).length : Nat) : Int))).length) c8) (vI (r4 ++ (cut (geti2 hands1 k1) (w64 (i1 + 1)) (((geti2 hands1 k1).length : Nat) : Int)))) :: hdrs 34 A9 ((next1 ++ ([(r4 ++ (cut (geti2 hands1 k1) (w64 (i1 + 1)) (((geti2 hands1 k1).length : Nat) : Int)))] : List (List Int))).length) c9 (hd2 ++ ([(A8, c8)] : List Hd)) (next1 ++ ([(r4 ++ (cut (geti2 hands1 k1) (w64 (i1 + 1)) (((geti2 hands1 k1).length : Nat) : Int)))] : List (List Int))) :: bg1 :: fs) := hS
                              have hb7 : BagOk w0 B fs (twoB (own 3 (.slice A8 ((r4 ++ (cut (geti2 hands1 k1) (w64 (i1 + 1)) (((geti2 hands1 k1).length : Nat) : Int))).length) c8) (vI (r4 ++ (cut (geti2 hands1 k1) (w64 (i1 + 1)) (((geti2 hands1 k1).length : Nat) : Int))))) bg1) (hd2 ++ ([(A8, c8)] : List Hd)) (next1 ++ ([(r4 ++ (cut (geti2 hands1 k1) (w64 (i1 + 1)) (((geti2 hands1 k1).length : Nat) : Int)))] : List (List Int))) := hb1.own
                              have hS := hS.pickN 4 [1, 3, 0, 2] (by decide)
                              have hS : Sep w0 B w ((twoB (own 3 (.slice A8 ((r4 ++ (cut (geti2 hands1 k1) (w64 (i1 + 1)) (((geti2 hands1 k1).length : Nat) : Int))).length) c8) (vI (r4 ++ (cut (geti2 hands1 k1) (w64 (i1 + 1)) (((geti2 hands1 k1).length : Nat) : Int))))) bg1) :: own 34 (.slice g2 1 1) [.slice A8 ((r4 ++ (cut (geti2 hands1 k1) (w64 (i1 + 1)) (((geti2 hands1 k1).length : Nat) : Int))).length) c8] :: hdrs 34 A9 ((next1 ++ ([(r4 ++ (cut (geti2 hands1 k1) (w64 (i1 + 1)) (((geti2 hands1 k1).length : Nat) : Int)))] : List (List Int))).length) c9 (hd2 ++ ([(A8, c8)] : List Hd)) (next1 ++ ([(r4 ++ (cut (geti2 hands1 k1) (w64 (i1 + 1)) (((geti2 hands1 k1).length : Nat) : Int)))] : List (List Int))) :: fs) := hS.two
                              refine at_do (d := 110) hF (by kernel_rfl) (by kernel_rfl) hrun (fun a hF => ?_)
                              refine any_finE rfl (by decide) ?_
                              refine any_step [18] (by kernel_rfl) rfl ?_
                              refine (all_cons ?_ all_nil)
                              · refine any_op (listed' := #[true, true, true, true, true, true, true, true, true, true, true, true, true, true, true, true, true, true, true]) (by kernel_rfl) (by kernel_rfl) ?_
                                refine at_runW 1 [] [] [0, 1, 2, 3, 11, 12, 13, 14, 15, 16, 17] [pl 0 (.slice A1 hands1.length c1), pl 1 (.int .i64 strain1), pl 2 (.int .i64 leader1), pl 3 (.slice A2 trick1.length c2), pl 11 (.int .i64 (Int.tmod (w64 (leader1 + (trick1.length : Int))) 4)), pl 12 (.int .i64 led1), pl 13 (.int .i64 best1), pl 14 (.int .i64 i1), pl 15 (.int .i64 (geti (geti2 hands1 (Int.tmod (w64 (leader1 + (trick1.length : Int))) 4)) i1)), pl 16 (.slice A9 ((next1 ++ ([(r4 ++ (cut (geti2 hands1 k1) (w64 (i1 + 1)) (((geti2 hands1 k1).length : Nat) : Int)))] : List (List Int))).length) c9), pl 17 (.int .i64 k1)] hF hS (by kernel_rfl) (by kernel_rfl) ?_ (fun a hF => ?_)
                                · exact obs_nil
                                refine any_finI rfl (fun h => h) ?_
                                refine any_end (by kernel_rfl) ?_
                                refine np_n ?_
                                refine block_n ?_
                                refine then_n ?_
                                have hS := hS.pickN 3 [2, 0] (by decide)
                                exact ⟨(next1 ++ ([(r4 ++ (cut (geti2 hands1 k1) (w64 (i1 + 1)) (((geti2 hands1 k1).length : Nat) : Int)))] : List (List Int))), A9, c9, (hd2 ++ ([(A8, c8)] : List Hd)), (twoB (own 3 (.slice A8 ((r4 ++ (cut (geti2 hands1 k1) (w64 (i1 + 1)) (((geti2 hands1 k1).length : Nat) : Int))).length) c8) (vI (r4 ++ (cut (geti2 hands1 k1) (w64 (i1 + 1)) (((geti2 hands1 k1).length : Nat) : Int))))) bg1), hF.weak [0, 1, 2, 3, 11, 12, 13, 14, 15, 16, 17] (by kernel_rfl), hS, hb7, hm⟩
                    · refine reg [] [] [0, 1, 2, 3, 11, 12, 13, 14, 15, 16, 17, 85] [pl 0 (.slice A1 hands1.length c1), pl 1 (.int .i64 strain1), pl 2 (.int .i64 leader1), pl 3 (.slice A2 trick1.length c2), pl 11 (.int .i64 (Int.tmod (w64 (leader1 + (trick1.length : Int))) 4)), pl 12 (.int .i64 led1), pl 13 (.int .i64 best1), pl 14 (.int .i64 i1), pl 15 (.int .i64 (geti (geti2 hands1 (Int.tmod (w64 (leader1 + (trick1.length : Int))) 4)) i1)), pl 16 (.slice A3 next1.length c3), pl 17 (.int .i64 k1), pl 85 (.bool (k1 != (Int.tmod (w64 (leader1 + (trick1.length : Int))) 4)))] hF hS Fol (by kernel_rfl) (by kernel_rfl) (by kernel_rfl) ?_ (fun a w hF hS => ?_)
                      · exact obs_nil
                      refine cond_ev (t := 85) (b := (k1 != (Int.tmod (w64 (leader1 + (trick1.length : Int))) 4))) hF (by kernel_rfl) (fun hb => ?_) (fun hb => ?_)
                      · replace hm := if_t hm hb
                        refine seqR ?_
                        obtain ⟨hp7, hm⟩ := asrt_b hm
                        obtain ⟨hp8, hm⟩ := asrt_b hm
                        refine at_run 5 [⟨true, [], vS (Instr.indexAt 45 (.slice A1 hands1.length c1) (.int .i64 k1)), .pointer (some (sAddr A1 k1))⟩, ⟨false, [], vS (Instr.loadAt 34 (.pointer (some (sAddr A1 k1)))), .slice (hdA hd1 k1) ((geti2 hands1 k1).length) (hdC hd1 k1)⟩] [none, none, none, some (.pointer (some (sAddr A1 k1))), some (.slice (hdA hd1 k1) ((geti2 hands1 k1).length) (hdC hd1 k1))] [0, 1, 2, 3, 11, 12, 13, 14, 15, 17, 86, 90] [pl 0 (.slice A1 hands1.length c1), pl 1 (.int .i64 strain1), pl 2 (.int .i64 leader1), pl 3 (.slice A2 trick1.length c2), pl 11 (.int .i64 (Int.tmod (w64 (leader1 + (trick1.length : Int))) 4)), pl 12 (.int .i64 led1), pl 13 (.int .i64 best1), pl 14 (.int .i64 i1), pl 15 (.int .i64 (geti (geti2 hands1 (Int.tmod (w64 (leader1 + (trick1.length : Int))) 4)) i1)), pl 17 (.int .i64 k1), pl 86 (.slice A3 next1.length c3), pl 90 (.slice (hdA hd1 k1) ((geti2 hands1 k1).length) (hdC hd1 k1))] hF hS (by kernel_rfl) (by kernel_rfl) ?_ (fun a w hF hS => ?_)
                        · exact obs_cons (ob_ixRn Und45 hi34 hs34 (hr_hands1 _ (hS.dropN 2)) rfl (fun _ => hp7)) <| obs_cons (ob_getR Agg34 (fun _ hS => ⟨_, (hr_hands1 _ (hS.dropN 2))⟩) (fun _ => hp7)) <| obs_nil
                        refine at_do (d := 91) (s := vS (Instr.buildSlice 45 1 #[(0, .slice (hdA hd1 k1) ((geti2 hands1 k1).length) (hdC hd1 k1))])) (v := .slice (some ⟨w.heap.size, 0, none⟩) 1 1) (w' := w.alloc (.cells #[.slice (hdA hd1 k1) ((geti2 hands1 k1).length) (hdC hd1 k1)] 34)) hF (by kernel_rfl) (by kernel_rfl) (by kernel_rfl) (fun a hF => ?_)
                        have hS : Sep w0 B (w.alloc (.cells #[.slice (hdA hd1 k1) ((geti2 hands1 k1).length) (hdC hd1 k1)] 34)) (own 34 (.slice (some (⟨w.heap.size, 0, none⟩ : Addr)) 1 1) [.slice (hdA hd1 k1) ((geti2 hands1 k1).length) (hdC hd1 k1)] :: (hdrs 34 A3 next1.length c3 hd2 next1 :: bg1 :: fs)) := hS.lit 34 #[.slice (hdA hd1 k1) ((geti2 hands1 k1).length) (hdC hd1 k1)] 1 rfl (by omega)
                        generalize (some (⟨w.heap.size, 0, none⟩ : Addr)) = g1 at hF hS
                        generalize w.alloc (.cells #[.slice (hdA hd1 k1) ((geti2 hands1 k1).length) (hdC hd1 k1)] 34) = w at hS ⊢
                        obtain ⟨A5, c5, w, hrun, hS⟩ := run_appHdr (P := Try.prog) (t := 45) (A2 := g1) (n2 := 1) (c2 := 1) (hS.at_ 1 rfl) (rdLit (hd := ([((hdA hd1 k1), (hdC hd1 k1))] : List Hd)) (m := ([(geti2 hands1 k1)] : List (List Int))) hS 0 rfl ⟨⟨((hr_hands1 _ (hS.dropN 3)).row _ hp7).1, ((hr_hands1 _ (hS.dropN 3)).row _ hp7).2⟩, trivial⟩) rfl 45 Und45 hi34 hz34 hs34 hb34 hp8
                        have hS : Sep w0 B w (own 34 (.slice g1 1 1) [.slice (hdA hd1 k1) ((geti2 hands1 k1).length) (hdC hd1 k1)] :: hdrs 34 A5 ((next1 ++ ([(geti2 hands1 k1)] : List (List Int))).length) c5 (hd2 ++ ([((hdA hd1 k1), (hdC hd1 k1))] : List Hd)) (next1 ++ ([(geti2 hands1 k1)] : List (List Int))) :: bg1 :: fs) := hS
                        have hb4 : BagOk w0 B fs bg1 (hd2 ++ ([((hdA hd1 k1), (hdC hd1 k1))] : List Hd)) (next1 ++ ([(geti2 hands1 k1)] : List (List Int))) := hb1.row (fun w hS => ⟨((hr_hands1 _ (hS.dropN 1)).row _ hp7).1, ((hr_hands1 _ (hS.dropN 1)).row _ hp7).2⟩)
                        refine at_do (d := 92) hF (by kernel_rfl) (by kernel_rfl) hrun (fun a hF => ?_)
                        refine at_run 1 [] [] [0, 1, 2, 3, 11, 12, 13, 14, 15, 16, 17] [pl 0 (.slice A1 hands1.length c1), pl 1 (.int .i64 strain1), pl 2 (.int .i64 leader1), pl 3 (.slice A2 trick1.length c2), pl 11 (.int .i64 (Int.tmod (w64 (leader1 + (trick1.length : Int))) 4)), pl 12 (.int .i64 led1), pl 13 (.int .i64 best1), pl 14 (.int .i64 i1), pl 15 (.int .i64 (geti (geti2 hands1 (Int.tmod (w64 (leader1 + (trick1.length : Int))) 4)) i1)), pl 16 (.slice A5 ((next1 ++ ([(geti2 hands1 k1)] : List (List Int))).length) c5), pl 17 (.int .i64 k1)] hF hS (by kernel_rfl) (by kernel_rfl) ?_ (fun a w hF hS => ?_)
                        · exact obs_nil
                        refine at_end [0, 1, 2, 3, 11, 12, 13, 14, 15, 16, 17] [pl 0 (.slice A1 hands1.length c1), pl 1 (.int .i64 strain1), pl 2 (.int .i64 leader1), pl 3 (.slice A2 trick1.length c2), pl 11 (.int .i64 (Int.tmod (w64 (leader1 + (trick1.length : Int))) 4)), pl 12 (.int .i64 led1), pl 13 (.int .i64 best1), pl 14 (.int .i64 i1), pl 15 (.int .i64 (geti (geti2 hands1 (Int.tmod (w64 (leader1 + (trick1.length : Int))) 4)) i1)), pl 16 (.slice A5 ((next1 ++ ([(geti2 hands1 k1)] : List (List Int))).length) c5), pl 17 (.int .i64 k1)] hF rfl (by kernel_rfl) (fun hF => ?_)
                        refine then_n ?_
                        refine wpIn_exit ?_
                        refine then_e (block_e (then_n ?_))
                        have hS := hS.pickN 3 [1, 2] (by decide)
                        exact ⟨(next1 ++ ([(geti2 hands1 k1)] : List (List Int))), A5, c5, (hd2 ++ ([((hdA hd1 k1), (hdC hd1 k1))] : List Hd)), bg1, hF.weak [0, 1, 2, 3, 11, 12, 13, 14, 15, 16, 17] (by kernel_rfl), hS, hb4, hm⟩
                      · replace hm := if_f hm hb
                        refine wpIn_skip ?_
                        refine then_n ?_
                        exact ⟨hF.weak [0, 1, 2, 3, 11, 12, 13, 14, 15, 16, 17] (by kernel_rfl), hS, hm⟩
                · refine reg [] [] [0, 1, 2, 3, 11, 12, 13, 14, 15, 16, 17, 80] [pl 0 (.slice A1 hands1.length c1), pl 1 (.int .i64 strain1), pl 2 (.int .i64 leader1), pl 3 (.slice A2 trick1.length c2), pl 11 (.int .i64 (Int.tmod (w64 (leader1 + (trick1.length : Int))) 4)), pl 12 (.int .i64 led1), pl 13 (.int .i64 best1), pl 14 (.int .i64 i1), pl 15 (.int .i64 (geti (geti2 hands1 (Int.tmod (w64 (leader1 + (trick1.length : Int))) 4)) i1)), pl 16 (.slice A3 next1.length c3), pl 17 (.int .i64 k1), pl 80 (.bool (decide (k1 < 4)))] hF hS Fol (by kernel_rfl) (by kernel_rfl) (by kernel_rfl) ?_ (fun a w hF hS => ?_)
                  · exact obs_nil
                  refine cond_ev (t := 80) (b := decide (k1 < 4)) hF (by kernel_rfl) (fun hb => ?_) (fun hb => ?_)
                  · replace hm := if_t hm hb
                    refine wpIn_skip ?_
                    refine then_n ?_
                    exact ⟨hF.weak [0, 1, 2, 3, 11, 12, 13, 14, 15, 16, 17] (by kernel_rfl), hS, hm⟩
                  · replace hm := if_f hm hb
                    refine wpIn_exit ?_
                    refine then_e (then_e (block_e (then_n ?_)))
                    rw [← hφ2] at hm
                    replace hm := done_b hm
                    unfold gameroomref_BestTricks_K2 at hm
                    try dsimp only at hm
                    have hm : ((gameroomref_BestTricks_J9 rec_gameroomref_BestTricks hands1 strain1 leader1 trick1 best1 i1) next1).bind φ1 = some r := hm
                    exact ⟨next1, A3, c3, hd2, bg1, hF.weak [0, 1, 2, 3, 11, 12, 13, 14, 15, 16] (by kernel_rfl), hS, hb1, hm⟩
            · obtain ⟨hp6, hm⟩ := asrt_b hm
              obtain ⟨r3, hr3, hm⟩ := call_b hm
              refine reg [⟨true, [], vS (Instr.indexAt 45 (.slice A1 hands1.length c1) (.int .i64 (Int.tmod (w64 (leader1 + (trick1.length : Int))) 4))), .pointer (some (sAddr A1 (Int.tmod (w64 (leader1 + (trick1.length : Int))) 4)))⟩, ⟨false, [], vS (Instr.loadAt 34 (.pointer (some (sAddr A1 (Int.tmod (w64 (leader1 + (trick1.length : Int))) 4))))), .slice (hdA hd1 (Int.tmod (w64 (leader1 + (trick1.length : Int))) 4)) ((geti2 hands1 (Int.tmod (w64 (leader1 + (trick1.length : Int))) 4)).length) (hdC hd1 (Int.tmod (w64 (leader1 + (trick1.length : Int))) 4))⟩, ⟨false, [], callFunc 115 #[.slice (hdA hd1 (Int.tmod (w64 (leader1 + (trick1.length : Int))) 4)) ((geti2 hands1 (Int.tmod (w64 (leader1 + (trick1.length : Int))) 4)).length) (hdC hd1 (Int.tmod (w64 (leader1 + (trick1.length : Int))) 4)), .int .i64 led1, .int .i64 (geti (geti2 hands1 (Int.tmod (w64 (leader1 + (trick1.length : Int))) 4)) i1)], .bool r3⟩] [none, none, some (.pointer (some (sAddr A1 (Int.tmod (w64 (leader1 + (trick1.length : Int))) 4)))), some (.slice (hdA hd1 (Int.tmod (w64 (leader1 + (trick1.length : Int))) 4)) ((geti2 hands1 (Int.tmod (w64 (leader1 + (trick1.length : Int))) 4)).length) (hdC hd1 (Int.tmod (w64 (leader1 + (trick1.length : Int))) 4))), none, none, some (.bool r3), none] [0, 1, 2, 3, 11, 12, 13, 14, 15, 78] [pl 0 (.slice A1 hands1.length c1), pl 1 (.int .i64 strain1), pl 2 (.int .i64 leader1), pl 3 (.slice A2 trick1.length c2), pl 11 (.int .i64 (Int.tmod (w64 (leader1 + (trick1.length : Int))) 4)), pl 12 (.int .i64 led1), pl 13 (.int .i64 best1), pl 14 (.int .i64 i1), pl 15 (.int .i64 (geti (geti2 hands1 (Int.tmod (w64 (leader1 + (trick1.length : Int))) 4)) i1)), pl 78 (.bool (!r3))] hF hS Fol (by kernel_rfl) (by kernel_rfl) (by kernel_rfl) ?_ (fun a w hF hS => ?_)
              · exact obs_cons (ob_ixRn Und45 hi34 hs34 (hr_hands1 _ (hS.dropN 0)) rfl (fun _ => hp6)) <| obs_cons (ob_getR Agg34 (fun _ hS => ⟨_, (hr_hands1 _ (hS.dropN 0))⟩) (fun _ => hp6)) <| obs_cons (ob_call Try.func115 (by kernel_rfl) rfl (fun _ _ hS => gameroomref_PlayMay_w hr3 hS (fun _ hS => ((hr_hands1 _ (hS.dropN 0)).row _ hp6).1) ((hr_hands1 _ (hS.dropN 0)).row _ hp6).2 rfl)) <| obs_nil
              refine cond_ev (t := 78) (b := !r3) hF (by kernel_rfl) (fun hb => ?_) (fun hb => ?_)
              · replace hm := if_t hm hb
                refine wpIn_exit ?_
                refine then_e (block_e (then_n ?_))
                exact ⟨best1, hF.weak [0, 1, 2, 3, 11, 12, 13, 14] (by kernel_rfl), hS, hm⟩
              · replace hm := if_f hm hb
                refine wpIn_skip ?_
                refine then_n ?_
                exact ⟨hF.weak [0, 1, 2, 3, 11, 12, 13, 14, 15] (by kernel_rfl), hS, hm⟩
        · obtain ⟨hp3, hm⟩ := asrt_b hm
          refine reg [⟨true, [], vS (Instr.indexAt 45 (.slice A1 hands1.length c1) (.int .i64 (Int.tmod (w64 (leader1 + (trick1.length : Int))) 4))), .pointer (some (sAddr A1 (Int.tmod (w64 (leader1 + (trick1.length : Int))) 4)))⟩, ⟨false, [], vS (Instr.loadAt 34 (.pointer (some (sAddr A1 (Int.tmod (w64 (leader1 + (trick1.length : Int))) 4))))), .slice (hdA hd1 (Int.tmod (w64 (leader1 + (trick1.length : Int))) 4)) ((geti2 hands1 (Int.tmod (w64 (leader1 + (trick1.length : Int))) 4)).length) (hdC hd1 (Int.tmod (w64 (leader1 + (trick1.length : Int))) 4))⟩] [none, none, none, some (.pointer (some (sAddr A1 (Int.tmod (w64 (leader1 + (trick1.length : Int))) 4)))), some (.slice (hdA hd1 (Int.tmod (w64 (leader1 + (trick1.length : Int))) 4)) ((geti2 hands1 (Int.tmod (w64 (leader1 + (trick1.length : Int))) 4)).length) (hdC hd1 (Int.tmod (w64 (leader1 + (trick1.length : Int))) 4))), none, none] [0, 1, 2, 3, 11, 12, 13, 14, 61] [pl 0 (.slice A1 hands1.length c1), pl 1 (.int .i64 strain1), pl 2 (.int .i64 leader1), pl 3 (.slice A2 trick1.length c2), pl 11 (.int .i64 (Int.tmod (w64 (leader1 + (trick1.length : Int))) 4)), pl 12 (.int .i64 led1), pl 13 (.int .i64 best1), pl 14 (.int .i64 i1), pl 61 (.bool (decide (i1 < (((geti2 hands1 (Int.tmod (w64 (leader1 + (trick1.length : Int))) 4)).length : Nat) : Int))))] hF hS Fol (by kernel_rfl) (by kernel_rfl) (by kernel_rfl) ?_ (fun a w hF hS => ?_)
          · exact obs_cons (ob_ixRn Und45 hi34 hs34 (hr_hands1 _ (hS.dropN 0)) rfl (fun _ => hp3)) <| obs_cons (ob_getR Agg34 (fun _ hS => ⟨_, (hr_hands1 _ (hS.dropN 0))⟩) (fun _ => hp3)) <| obs_nil
          refine cond_ev (t := 61) (b := decide (i1 < (((geti2 hands1 (Int.tmod (w64 (leader1 + (trick1.length : Int))) 4)).length : Nat) : Int))) hF (by kernel_rfl) (fun hb => ?_) (fun hb => ?_)
          · replace hm := if_t hm hb
            refine wpIn_skip ?_
            refine then_n ?_
            exact ⟨hF.weak [0, 1, 2, 3, 11, 12, 13, 14] (by kernel_rfl), hS, hm⟩
          · replace hm := if_f hm hb
            refine wpIn_exit ?_
            refine then_e (then_e (block_e (then_n ?_)))
            rw [← hφ1] at hm
            replace hm := done_b hm
            unfold gameroomref_BestTricks_K1 at hm
            try dsimp only at hm
            have hm : (gameroomref_BestTricks_J5 best1).bind some = some r := hm
            exact ⟨best1, hF.weak [13] (by kernel_rfl), hS, hm⟩
    · refine reg [] [] [0, 1, 2, 3, 11, 12, 51] [pl 0 (.slice A1 hands1.length c1), pl 1 (.int .i64 strain1), pl 2 (.int .i64 leader1), pl 3 (.slice A2 trick1.length c2), pl 11 (.int .i64 (Int.tmod (w64 (leader1 + (trick1.length : Int))) 4)), pl 12 (.int .i64 (-1)), pl 51 (.bool (decide ((0 : Int) < (trick1.length : Int))))] hF hS Fol (by kernel_rfl) (by kernel_rfl) (by kernel_rfl) ?_ (fun a w hF hS => ?_)
      · exact obs_nil
      refine cond_ev (t := 51) (b := decide ((0 : Int) < (trick1.length : Int))) hF (by kernel_rfl) (fun hb => ?_) (fun hb => ?_)
      · replace hm := if_t hm hb
        obtain ⟨hp2, hm⟩ := asrt_b hm
        refine reg1 [⟨true, [], vS (Instr.indexAt 34 (.slice A2 trick1.length c2) (.int .i64 0)), .pointer (some (sAddr A2 0))⟩, ⟨false, [], vS (Instr.loadAt 3 (.pointer (some (sAddr A2 0)))), .int .i64 (geti trick1 0)⟩] [none, some (.pointer (some (sAddr A2 0))), some (.int .i64 (geti trick1 0)), none] [0, 1, 2, 3, 11, 12] [pl 0 (.slice A1 hands1.length c1), pl 1 (.int .i64 strain1), pl 2 (.int .i64 leader1), pl 3 (.slice A2 trick1.length c2), pl 11 (.int .i64 (Int.tmod (w64 (leader1 + (trick1.length : Int))) 4)), pl 12 (.int .i64 (geti trick1 0))] hF hS Fol (by kernel_rfl) (by kernel_rfl) (by kernel_rfl) ?_ (fun a w hF hS => ?_)
        · exact obs_cons (ob_ix1 (f := (Value.int .i64)) (m := trick1) Und34 hi3 hs3 (hr_trick1 _ (hS.dropN 0)) rfl (fun _ => hp2)) <| obs_cons (ob_get1 (n := trick1.length) (m := trick1) (Value.int .i64) (0 : Int) Agg3 (fun _ hS => ⟨_, (hr_trick1 _ (hS.dropN 0))⟩) (fun _ hS => rfl) (fun _ => hp2)) <| obs_nil
        refine then_n ?_
        exact ⟨(geti trick1 0), hF.weak [0, 1, 2, 3, 11, 12] (by kernel_rfl), hS, hm⟩
      · replace hm := if_f hm hb
        refine wpIn_skip ?_
        refine then_n ?_
        exact ⟨(-1), hF.weak [0, 1, 2, 3, 11, 12] (by kernel_rfl), hS, hm⟩
  · refine reg [] [] [0, 1, 2, 3, 21] [pl 0 (.slice A1 hands1.length c1), pl 1 (.int .i64 strain1), pl 2 (.int .i64 leader1), pl 3 (.slice A2 trick1.length c2), pl 21 (.bool ((trick1.length : Int) == 4))] hF hS Fol (by kernel_rfl) (by kernel_rfl) (by kernel_rfl) ?_ (fun a w hF hS => ?_)
    · exact obs_nil
    refine cond_ev (t := 21) (b := ((trick1.length : Int) == 4)) hF (by kernel_rfl) (fun hb => ?_) (fun hb => ?_)
    · replace hm := if_t hm hb
      obtain ⟨r1, hr1, hm⟩ := call_b hm
      refine reg [⟨false, [], callFunc 114 #[.slice A2 trick1.length c2, .int .i64 strain1], .int .i64 r1⟩] [none, none, none, some (.int .i64 r1), none, none, none] [0, 1, 9] [pl 0 (.slice A1 hands1.length c1), pl 1 (.int .i64 strain1), pl 9 (.int .i64 (Int.tmod (w64 (leader1 + r1)) 4))] hF hS Fol (by kernel_rfl) (by kernel_rfl) (by kernel_rfl) ?_ (fun a w hF hS => ?_)
      · exact obs_cons (ob_call Try.func114 (by kernel_rfl) rfl (fun _ _ hS => gameroomref_TrickWinner_w hr1 hS (fun _ hS => (hr_trick1 _ (hS.dropN 0))) _hc_trick1 rfl)) <| obs_nil
      refine reg [] [] [0, 1, 9, 10] [pl 0 (.slice A1 hands1.length c1), pl 1 (.int .i64 strain1), pl 9 (.int .i64 (Int.tmod (w64 (leader1 + r1)) 4)), pl 10 (.int .i64 0)] hF hS Fol (by kernel_rfl) (by kernel_rfl) (by kernel_rfl) ?_ (fun a w hF hS => ?_)
      · exact obs_nil
      refine seq_cut (fun a w => ∃ (n3 : Int), Fr 144 [pl 0 (.slice A1 hands1.length c1), pl 1 (.int .i64 strain1), pl 9 (.int .i64 (Int.tmod (w64 (leader1 + r1)) 4)), pl 10 (.int .i64 n3)] a ∧ Sep w0 B w (fs) ∧ ((gameroomref_BestTricks_J2 rec_gameroomref_BestTricks hands1 strain1 leader1 r1) n3).bind some = some r) ?_ ?_
      · rintro a w ⟨n3, hF, hS, hm⟩
        unfold gameroomref_BestTricks_J2 at hm
        refine seq_cut (fun a w => Fr 144 [pl 0 (.slice A1 hands1.length c1), pl 1 (.int .i64 strain1), pl 9 (.int .i64 (Int.tmod (w64 (leader1 + r1)) 4)), pl 10 (.int .i64 n3)] a ∧ Sep w0 B w (fs) ∧ ((gameroomref_BestTricks_J3 rec_gameroomref_BestTricks hands1 strain1 leader1 r1 n3)).bind some = some r) ?_ ?_
        · rintro a w ⟨hF, hS, hm⟩
          unfold gameroomref_BestTricks_J3 at hm
          obtain ⟨r2, hr2, hm⟩ := call_b hm
          refine reg [⟨false, [], callFunc 52 #[.slice A1 hands1.length c1, .int .i64 strain1, .int .i64 (Int.tmod (w64 (leader1 + r1)) 4), .slice none 0 0], .int .i64 r2⟩] [none, none, none, none, some (.int .i64 r2), none, none] [8] [pl 8 (.int .i64 (w64 (n3 + r2)))] hF hS Fol (by kernel_rfl) (by kernel_rfl) (by kernel_rfl) ?_ (fun a w hF hS => ?_)
          · exact obs_cons (ob_call Try.func52 (by kernel_rfl) rfl (fun _ _ hS => ih_gameroomref_BestTricks hr2 hS (fun _ hS => (hr_hands1 _ (hS.dropN 0))) _hc_hands1 rfl (fun _ hS => Rd.nil _ _ _) (Nat.le_refl _) rfl)) <| obs_nil
          refine wpIn_ret ?_
          refine then_r ?_
          have hm : some (w64 (n3 + r2)) = some r := hm
          obtain rfl := Option.some.inj hm
          exact retV (rs := [.tmp 8]) (vs := [.int .i64 (w64 (n3 + r2))]) hF rfl (rv_t (by kernel_rfl) <| rv_nil) rfl ⟨rfl, hS⟩
        · obtain ⟨hp1, hm⟩ := asrt_b hm
          refine reg [⟨true, [], vS (Instr.indexAt 45 (.slice A1 hands1.length c1) (.int .i64 (Int.tmod (w64 (leader1 + r1)) 4))), .pointer (some (sAddr A1 (Int.tmod (w64 (leader1 + r1)) 4)))⟩, ⟨false, [], vS (Instr.loadAt 34 (.pointer (some (sAddr A1 (Int.tmod (w64 (leader1 + r1)) 4))))), .slice (hdA hd1 (Int.tmod (w64 (leader1 + r1)) 4)) ((geti2 hands1 (Int.tmod (w64 (leader1 + r1)) 4)).length) (hdC hd1 (Int.tmod (w64 (leader1 + r1)) 4))⟩] [none, none, some (.pointer (some (sAddr A1 (Int.tmod (w64 (leader1 + r1)) 4)))), some (.slice (hdA hd1 (Int.tmod (w64 (leader1 + r1)) 4)) ((geti2 hands1 (Int.tmod (w64 (leader1 + r1)) 4)).length) (hdC hd1 (Int.tmod (w64 (leader1 + r1)) 4))), none, none] [0, 1, 9, 10, 36] [pl 0 (.slice A1 hands1.length c1), pl 1 (.int .i64 strain1), pl 9 (.int .i64 (Int.tmod (w64 (leader1 + r1)) 4)), pl 10 (.int .i64 n3), pl 36 (.bool ((((geti2 hands1 (Int.tmod (w64 (leader1 + r1)) 4)).length : Nat) : Int) == 0))] hF hS Fol (by kernel_rfl) (by kernel_rfl) (by kernel_rfl) ?_ (fun a w hF hS => ?_)
          · exact obs_cons (ob_ixRn Und45 hi34 hs34 (hr_hands1 _ (hS.dropN 0)) rfl (fun _ => hp1)) <| obs_cons (ob_getR Agg34 (fun _ hS => ⟨_, (hr_hands1 _ (hS.dropN 0))⟩) (fun _ => hp1)) <| obs_nil
          refine cond_ev (t := 36) (b := ((((geti2 hands1 (Int.tmod (w64 (leader1 + r1)) 4)).length : Nat) : Int) == 0)) hF (by kernel_rfl) (fun hb => ?_) (fun hb => ?_)
          · replace hm := if_t hm hb
            refine reg [] [] [8] [pl 8 (.int .i64 n3)] hF hS Fol (by kernel_rfl) (by kernel_rfl) (by kernel_rfl) ?_ (fun a w hF hS => ?_)
            · exact obs_nil
            refine wpIn_ret ?_
            refine then_r (then_r ?_)
            have hm : some n3 = some r := hm
            obtain rfl := Option.some.inj hm
            exact retV (rs := [.tmp 8]) (vs := [.int .i64 n3]) hF rfl (rv_t (by kernel_rfl) <| rv_nil) rfl ⟨rfl, hS⟩
          · replace hm := if_f hm hb
            refine wpIn_skip ?_
            refine then_n ?_
            exact ⟨hF.weak [0, 1, 9, 10] (by kernel_rfl), hS, hm⟩
      · refine reg [] [] [0, 1, 9, 10, 30] [pl 0 (.slice A1 hands1.length c1), pl 1 (.int .i64 strain1), pl 9 (.int .i64 (Int.tmod (w64 (leader1 + r1)) 4)), pl 10 (.int .i64 0), pl 30 (.bool ((Int.tmod (Int.tmod (w64 (leader1 + r1)) 4) 2) == 0))] hF hS Fol (by kernel_rfl) (by kernel_rfl) (by kernel_rfl) ?_ (fun a w hF hS => ?_)
        · exact obs_nil
        refine cond_ev (t := 30) (b := ((Int.tmod (Int.tmod (w64 (leader1 + r1)) 4) 2) == 0)) hF (by kernel_rfl) (fun hb => ?_) (fun hb => ?_)
        · replace hm := if_t hm hb
          refine reg1 [] [] [0, 1, 9, 10] [pl 0 (.slice A1 hands1.length c1), pl 1 (.int .i64 strain1), pl 9 (.int .i64 (Int.tmod (w64 (leader1 + r1)) 4)), pl 10 (.int .i64 1)] hF hS Fol (by kernel_rfl) (by kernel_rfl) (by kernel_rfl) ?_ (fun a w hF hS => ?_)
          · exact obs_nil
          refine then_n ?_
          exact ⟨1, hF.weak [0, 1, 9, 10] (by kernel_rfl), hS, hm⟩
        · replace hm := if_f hm hb
          refine wpIn_skip ?_
          refine then_n ?_
          exact ⟨0, hF.weak [0, 1, 9, 10] (by kernel_rfl), hS, hm⟩
    · replace hm := if_f hm hb
      refine wpIn_skip ?_
      refine then_n ?_
      exact ⟨hF.weak [0, 1, 2, 3] (by kernel_rfl), hS, hm⟩

theorem gameroomref_BestTricks_w {A1 : Option Addr} {c1 : Nat} {n1 : Nat} {hd1 : List Hd} {hands1 : List (List Int)} {strain1 : Int} {leader1 : Int} {A2 : Option Addr} {c2 : Nat} {n2 : Nat} {trick1 : List Int} {r : Int} {w0 w : World} {B : Nat} {fs : List HP} (hm : gameroomref_BestTricks_m hands1 strain1 leader1 trick1 = some r) (hS : Sep w0 B w (fs)) (hr_hands1 : RdRowsF w0 B fs A1 hd1 hands1) (_hc_hands1 : hands1.length ≤ c1) (_hn_hands1 : n1 = hands1.length) (hr_trick1 : RdF w0 B fs A2 (vI trick1)) (_hc_trick1 : trick1.length ≤ c2) (_hn_trick1 : n2 = trick1.length) :
    Calls Try.prog 52 #[.slice A1 n1 c1, .int .i64 strain1, .int .i64 leader1, .slice A2 n2 c2] w fun e w' => e = .returned (.int .i64 r) ∧ Sep w0 B w' (fs) := by
  have key : ∀ (n : Nat) {A1 : Option Addr} {c1 : Nat} {n1 : Nat} {hd1 : List Hd} {hands1 : List (List Int)} {strain1 : Int} {leader1 : Int} {A2 : Option Addr} {c2 : Nat} {n2 : Nat} {trick1 : List Int} {r : Int} {w0 w : World} {B : Nat} {fs : List HP} (_ : gameroomref_BestTricks_mF n hands1 strain1 leader1 trick1 = some r) (_ : Sep w0 B w (fs)) (hr_hands1 : RdRowsF w0 B fs A1 hd1 hands1) (_hc_hands1 : hands1.length ≤ c1) (_hn_hands1 : n1 = hands1.length) (hr_trick1 : RdF w0 B fs A2 (vI trick1)) (_hc_trick1 : trick1.length ≤ c2) (_hn_trick1 : n2 = trick1.length), Calls Try.prog 52 #[.slice A1 n1 c1, .int .i64 strain1, .int .i64 leader1, .slice A2 n2 c2] w fun e w' => e = .returned (.int .i64 r) ∧ Sep w0 B w' (fs) := by
    intro n
    induction n with
    | zero => intros; rename_i hm0 _ _ _ _ _ _ _; cases hm0
    | succ n ih => intros; rename_i hm0 hS0 h0 h1 h2 h3 h4 h5; exact gameroomref_BestTricks_wB (rec_gameroomref_BestTricks := gameroomref_BestTricks_mF n) (fun hm hS h0 h1 h2 h3 h4 h5 => ih hm hS h0 h1 h2 h3 h4 h5) hm0 hS0 h0 h1 h2 h3 h4 h5
  obtain ⟨n, hn⟩ := recM_some hm
  exact key n hn hS hr_hands1 _hc_hands1 _hn_hands1 hr_trick1 _hc_trick1 _hn_trick1

set_option maxRecDepth 100000 in
theorem gameroomref_BestTricks_J3_le_gameroomref_BestTricks {rec_gameroomref_BestTricks1 rec_gameroomref_BestTricks2 : List (List Int) → Int → Int → List Int → Option Int} (h_rec_gameroomref_BestTricks : ∀ a0 a1 a2 a3, Le (rec_gameroomref_BestTricks1 a0 a1 a2 a3) (rec_gameroomref_BestTricks2 a0 a1 a2 a3)) (hands1 : List (List Int)) (strain1 : Int) (leader1 : Int) (r1 : Int) (n3 : Int) : Le (gameroomref_BestTricks_J3 rec_gameroomref_BestTricks1 hands1 strain1 leader1 r1 n3) (gameroomref_BestTricks_J3 rec_gameroomref_BestTricks2 hands1 strain1 leader1 r1 n3) := by
  unfold gameroomref_BestTricks_J3
  repeat' (first | with_reducible exact Le.refl _ | with_reducible exact h_rec_gameroomref_BestTricks _ _ _ _ | with_reducible refine Le.asrt ?_ | with_reducible refine Le.ite ?_ ?_ | refine Le.bind ?_ (fun _ => ?_) | refine Le.loop2 (fun _ => ?_) | refine Le.elim2 (fun _ => ?_) (fun _ => ?_))

set_option maxRecDepth 100000 in
theorem gameroomref_BestTricks_J2_le_gameroomref_BestTricks {rec_gameroomref_BestTricks1 rec_gameroomref_BestTricks2 : List (List Int) → Int → Int → List Int → Option Int} (h_rec_gameroomref_BestTricks : ∀ a0 a1 a2 a3, Le (rec_gameroomref_BestTricks1 a0 a1 a2 a3) (rec_gameroomref_BestTricks2 a0 a1 a2 a3)) (hands1 : List (List Int)) (strain1 : Int) (leader1 : Int) (r1 : Int) (n3 : Int) : Le (gameroomref_BestTricks_J2 rec_gameroomref_BestTricks1 hands1 strain1 leader1 r1 n3) (gameroomref_BestTricks_J2 rec_gameroomref_BestTricks2 hands1 strain1 leader1 r1 n3) := by
  unfold gameroomref_BestTricks_J2
  repeat' (first | with_reducible exact Le.refl _ | with_reducible exact h_rec_gameroomref_BestTricks _ _ _ _ | with_reducible exact gameroomref_BestTricks_J3_le_gameroomref_BestTricks h_rec_gameroomref_BestTricks _ _ _ _ _ | with_reducible refine Le.asrt ?_ | with_reducible refine Le.ite ?_ ?_ | refine Le.bind ?_ (fun _ => ?_) | refine Le.loop2 (fun _ => ?_) | refine Le.elim2 (fun _ => ?_) (fun _ => ?_))

set_option maxRecDepth 100000 in
theorem gameroomref_BestTricks_J9_le_gameroomref_BestTricks {rec_gameroomref_BestTricks1 rec_gameroomref_BestTricks2 : List (List Int) → Int → Int → List Int → Option Int} (h_rec_gameroomref_BestTricks : ∀ a0 a1 a2 a3, Le (rec_gameroomref_BestTricks1 a0 a1 a2 a3) (rec_gameroomref_BestTricks2 a0 a1 a2 a3)) (hands1 : List (List Int)) (strain1 : Int) (leader1 : Int) (trick1 : List Int) (best1 : Int) (i1 : Int) (next2 : List (List Int)) : Le (gameroomref_BestTricks_J9 rec_gameroomref_BestTricks1 hands1 strain1 leader1 trick1 best1 i1 next2) (gameroomref_BestTricks_J9 rec_gameroomref_BestTricks2 hands1 strain1 leader1 trick1 best1 i1 next2) := by
  unfold gameroomref_BestTricks_J9
  repeat' (first | with_reducible exact Le.refl _ | with_reducible exact h_rec_gameroomref_BestTricks _ _ _ _ | with_reducible refine Le.asrt ?_ | with_reducible refine Le.ite ?_ ?_ | refine Le.bind ?_ (fun _ => ?_) | refine Le.loop2 (fun _ => ?_) | refine Le.elim2 (fun _ => ?_) (fun _ => ?_))

set_option maxRecDepth 100000 in
theorem gameroomref_BestTricks_K2_le_gameroomref_BestTricks {rec_gameroomref_BestTricks1 rec_gameroomref_BestTricks2 : List (List Int) → Int → Int → List Int → Option Int} (h_rec_gameroomref_BestTricks : ∀ a0 a1 a2 a3, Le (rec_gameroomref_BestTricks1 a0 a1 a2 a3) (rec_gameroomref_BestTricks2 a0 a1 a2 a3)) (hands1 : List (List Int)) (strain1 : Int) (leader1 : Int) (trick1 : List Int) (best1 : Int) (i1 : Int) (x : (List (List Int))) : Le (gameroomref_BestTricks_K2 rec_gameroomref_BestTricks1 hands1 strain1 leader1 trick1 best1 i1 x) (gameroomref_BestTricks_K2 rec_gameroomref_BestTricks2 hands1 strain1 leader1 trick1 best1 i1 x) := by
  rcases x with next2
  all_goals
    unfold gameroomref_BestTricks_K2
    try dsimp only
    repeat' (first | with_reducible exact Le.refl _ | with_reducible exact h_rec_gameroomref_BestTricks _ _ _ _ | with_reducible exact gameroomref_BestTricks_J9_le_gameroomref_BestTricks h_rec_gameroomref_BestTricks _ _ _ _ _ _ _ | with_reducible refine Le.asrt ?_ | with_reducible refine Le.ite ?_ ?_ | refine Le.bind ?_ (fun _ => ?_) | refine Le.loop2 (fun _ => ?_) | refine Le.elim2 (fun _ => ?_) (fun _ => ?_))

set_option maxRecDepth 100000 in
theorem gameroomref_BestTricks_J8_le_gameroomref_BestTricks {rec_gameroomref_BestTricks1 rec_gameroomref_BestTricks2 : List (List Int) → Int → Int → List Int → Option Int} (h_rec_gameroomref_BestTricks : ∀ a0 a1 a2 a3, Le (rec_gameroomref_BestTricks1 a0 a1 a2 a3) (rec_gameroomref_BestTricks2 a0 a1 a2 a3)) (hands1 : List (List Int)) (strain1 : Int) (leader1 : Int) (trick1 : List Int) (best1 : Int) (i1 : Int) : Le (gameroomref_BestTricks_J8 rec_gameroomref_BestTricks1 hands1 strain1 leader1 trick1 best1 i1) (gameroomref_BestTricks_J8 rec_gameroomref_BestTricks2 hands1 strain1 leader1 trick1 best1 i1) := by
  unfold gameroomref_BestTricks_J8
  repeat' (first | with_reducible exact Le.refl _ | with_reducible exact h_rec_gameroomref_BestTricks _ _ _ _ | with_reducible exact gameroomref_BestTricks_K2_le_gameroomref_BestTricks h_rec_gameroomref_BestTricks _ _ _ _ _ _ _ | with_reducible refine Le.asrt ?_ | with_reducible refine Le.ite ?_ ?_ | refine Le.bind ?_ (fun _ => ?_) | refine Le.loop2 (fun _ => ?_) | refine Le.elim2 (fun _ => ?_) (fun _ => ?_))

set_option maxRecDepth 100000 in
theorem gameroomref_BestTricks_J6_le_gameroomref_BestTricks {rec_gameroomref_BestTricks1 rec_gameroomref_BestTricks2 : List (List Int) → Int → Int → List Int → Option Int} (h_rec_gameroomref_BestTricks : ∀ a0 a1 a2 a3, Le (rec_gameroomref_BestTricks1 a0 a1 a2 a3) (rec_gameroomref_BestTricks2 a0 a1 a2 a3)) (hands1 : List (List Int)) (strain1 : Int) (leader1 : Int) (trick1 : List Int) (led1 : Int) (best1 : Int) (i1 : Int) : Le (gameroomref_BestTricks_J6 rec_gameroomref_BestTricks1 hands1 strain1 leader1 trick1 led1 best1 i1) (gameroomref_BestTricks_J6 rec_gameroomref_BestTricks2 hands1 strain1 leader1 trick1 led1 best1 i1) := by
  unfold gameroomref_BestTricks_J6
  repeat' (first | with_reducible exact Le.refl _ | with_reducible exact h_rec_gameroomref_BestTricks _ _ _ _ | with_reducible exact gameroomref_BestTricks_J8_le_gameroomref_BestTricks h_rec_gameroomref_BestTricks _ _ _ _ _ _ | with_reducible refine Le.asrt ?_ | with_reducible refine Le.ite ?_ ?_ | refine Le.bind ?_ (fun _ => ?_) | refine Le.loop2 (fun _ => ?_) | refine Le.elim2 (fun _ => ?_) (fun _ => ?_))

set_option maxRecDepth 100000 in
theorem gameroomref_BestTricks_L1_le_gameroomref_BestTricks {rec_gameroomref_BestTricks1 rec_gameroomref_BestTricks2 : List (List Int) → Int → Int → List Int → Option Int} (h_rec_gameroomref_BestTricks : ∀ a0 a1 a2 a3, Le (rec_gameroomref_BestTricks1 a0 a1 a2 a3) (rec_gameroomref_BestTricks2 a0 a1 a2 a3)) (hands1 : List (List Int)) (strain1 : Int) (leader1 : Int) (trick1 : List Int) (led1 : Int) (x : (Int × Int)) : Le (gameroomref_BestTricks_L1 rec_gameroomref_BestTricks1 hands1 strain1 leader1 trick1 led1 x) (gameroomref_BestTricks_L1 rec_gameroomref_BestTricks2 hands1 strain1 leader1 trick1 led1 x) := by
  rcases x with ⟨best1, i1⟩
  all_goals
    unfold gameroomref_BestTricks_L1
    try dsimp only
    repeat' (first | with_reducible exact Le.refl _ | with_reducible exact h_rec_gameroomref_BestTricks _ _ _ _ | with_reducible exact gameroomref_BestTricks_J6_le_gameroomref_BestTricks h_rec_gameroomref_BestTricks _ _ _ _ _ _ _ | with_reducible refine Le.asrt ?_ | with_reducible refine Le.ite ?_ ?_ | refine Le.bind ?_ (fun _ => ?_) | refine Le.loop2 (fun _ => ?_) | refine Le.elim2 (fun _ => ?_) (fun _ => ?_))

set_option maxRecDepth 100000 in
theorem gameroomref_BestTricks_J4_le_gameroomref_BestTricks {rec_gameroomref_BestTricks1 rec_gameroomref_BestTricks2 : List (List Int) → Int → Int → List Int → Option Int} (h_rec_gameroomref_BestTricks : ∀ a0 a1 a2 a3, Le (rec_gameroomref_BestTricks1 a0 a1 a2 a3) (rec_gameroomref_BestTricks2 a0 a1 a2 a3)) (hands1 : List (List Int)) (strain1 : Int) (leader1 : Int) (trick1 : List Int) (led1 : Int) : Le (gameroomref_BestTricks_J4 rec_gameroomref_BestTricks1 hands1 strain1 leader1 trick1 led1) (gameroomref_BestTricks_J4 rec_gameroomref_BestTricks2 hands1 strain1 leader1 trick1 led1) := by
  unfold gameroomref_BestTricks_J4
  repeat' (first | with_reducible exact Le.refl _ | with_reducible exact h_rec_gameroomref_BestTricks _ _ _ _ | with_reducible exact gameroomref_BestTricks_L1_le_gameroomref_BestTricks h_rec_gameroomref_BestTricks _ _ _ _ _ _ | with_reducible refine Le.asrt ?_ | with_reducible refine Le.ite ?_ ?_ | refine Le.bind ?_ (fun _ => ?_) | refine Le.loop2 (fun _ => ?_) | refine Le.elim2 (fun _ => ?_) (fun _ => ?_))

set_option maxRecDepth 100000 in
theorem gameroomref_BestTricks_J1_le_gameroomref_BestTricks {rec_gameroomref_BestTricks1 rec_gameroomref_BestTricks2 : List (List Int) → Int → Int → List Int → Option Int} (h_rec_gameroomref_BestTricks : ∀ a0 a1 a2 a3, Le (rec_gameroomref_BestTricks1 a0 a1 a2 a3) (rec_gameroomref_BestTricks2 a0 a1 a2 a3)) (hands1 : List (List Int)) (strain1 : Int) (leader1 : Int) (trick1 : List Int) : Le (gameroomref_BestTricks_J1 rec_gameroomref_BestTricks1 hands1 strain1 leader1 trick1) (gameroomref_BestTricks_J1 rec_gameroomref_BestTricks2 hands1 strain1 leader1 trick1) := by
  unfold gameroomref_BestTricks_J1
  repeat' (first | with_reducible exact Le.refl _ | with_reducible exact h_rec_gameroomref_BestTricks _ _ _ _ | with_reducible exact gameroomref_BestTricks_J4_le_gameroomref_BestTricks h_rec_gameroomref_BestTricks _ _ _ _ _ | with_reducible refine Le.asrt ?_ | with_reducible refine Le.ite ?_ ?_ | refine Le.bind ?_ (fun _ => ?_) | refine Le.loop2 (fun _ => ?_) | refine Le.elim2 (fun _ => ?_) (fun _ => ?_))

set_option maxRecDepth 100000 in
theorem gameroomref_BestTricks_B_le {rec_gameroomref_BestTricks1 rec_gameroomref_BestTricks2 : List (List Int) → Int → Int → List Int → Option Int} (h_rec_gameroomref_BestTricks : ∀ a0 a1 a2 a3, Le (rec_gameroomref_BestTricks1 a0 a1 a2 a3) (rec_gameroomref_BestTricks2 a0 a1 a2 a3)) (hands1 : List (List Int)) (strain1 : Int) (leader1 : Int) (trick1 : List Int) : Le (gameroomref_BestTricks_B rec_gameroomref_BestTricks1 hands1 strain1 leader1 trick1) (gameroomref_BestTricks_B rec_gameroomref_BestTricks2 hands1 strain1 leader1 trick1) := by
  unfold gameroomref_BestTricks_B
  repeat' (first | with_reducible exact Le.refl _ | with_reducible exact h_rec_gameroomref_BestTricks _ _ _ _ | with_reducible exact gameroomref_BestTricks_J2_le_gameroomref_BestTricks h_rec_gameroomref_BestTricks _ _ _ _ _ | with_reducible exact gameroomref_BestTricks_J1_le_gameroomref_BestTricks h_rec_gameroomref_BestTricks _ _ _ _ | with_reducible refine Le.asrt ?_ | with_reducible refine Le.ite ?_ ?_ | refine Le.bind ?_ (fun _ => ?_) | refine Le.loop2 (fun _ => ?_) | refine Le.elim2 (fun _ => ?_) (fun _ => ?_))

set_option maxRecDepth 100000 in
theorem gameroomref_BestTricks_mF_le : ∀ (n : Nat) (hands1 : List (List Int)) (strain1 : Int) (leader1 : Int) (trick1 : List Int), Le (gameroomref_BestTricks_mF n hands1 strain1 leader1 trick1) (gameroomref_BestTricks_mF (n + 1) hands1 strain1 leader1 trick1)
  | 0, _, _, _, _ => fun _ h => by cases h
  | n + 1, _, _, _, _ => gameroomref_BestTricks_B_le (fun a0 a1 a2 a3 => gameroomref_BestTricks_mF_le n a0 a1 a2 a3) _ _ _ _

set_option maxRecDepth 100000 in
theorem gameroomref_BestTricks_m_of (N : Nat) (hands1 : List (List Int)) (strain1 : Int) (leader1 : Int) (trick1 : List Int) {r : Int} (h : gameroomref_BestTricks_mF N hands1 strain1 leader1 trick1 = some r) : gameroomref_BestTricks_m hands1 strain1 leader1 trick1 = some r :=
  recM_mono (fun n => gameroomref_BestTricks_mF_le n _ _ _ _) h

noncomputable def gameroomlaw_BridgeBests_J4  (i1 : Int) (no5 : Int) (all3 : List Int) : Option (St (Int × List Int × Int) (Int × List Int)) :=
  some (.next (no5, all3, (w64 (i1 + 1))))

noncomputable def gameroomlaw_BridgeBests_J5  (hands1 : List (List Int)) (all1 : List Int) (i1 : Int) (no4 : Int) : Option (St (Int × List Int × Int) (Int × List Int)) :=
  asrt (0 ≤ i1 ∧ i1 < (hands1.length : Int)) <| asrt ((all1.length : Int) + (((geti2 hands1 i1).length : Nat) : Int) ≤ bigN) <| (gameroomlaw_BridgeBests_J4 i1) no4 (all1 ++ (geti2 hands1 i1))

noncomputable def gameroomlaw_BridgeBests_J3  (hands1 : List (List Int)) (no2 : Int) (all1 : List Int) (i1 : Int) : Option (St (Int × List Int × Int) (Int × List Int)) :=
  asrt (0 ≤ i1 ∧ i1 < (hands1.length : Int)) <| asrt (0 ≤ (0 : Int) ∧ (0 : Int) < (hands1.length : Int)) <| asrt (((((geti2 hands1 i1).length : Nat) : Int) != (((geti2 hands1 0).length : Nat) : Int)) = false → 0 ≤ i1 ∧ i1 < (hands1.length : Int)) <| asrt ((((((geti2 hands1 i1).length : Nat) : Int) != (((geti2 hands1 0).length : Nat) : Int)) || (decide ((((geti2 hands1 i1).length : Nat) : Int) < 1))) = false → 0 ≤ i1 ∧ i1 < (hands1.length : Int)) <| if ((((((geti2 hands1 i1).length : Nat) : Int) != (((geti2 hands1 0).length : Nat) : Int)) || (decide ((((geti2 hands1 i1).length : Nat) : Int) < 1))) || (decide ((4 : Int) < (((geti2 hands1 i1).length : Nat) : Int)))) then ((gameroomlaw_BridgeBests_J5 hands1 all1 i1) 11) else ((gameroomlaw_BridgeBests_J5 hands1 all1 i1) no2)

noncomputable def gameroomlaw_BridgeBests_J9  (hands1 : List (List Int)) (strain1 : Int) (leader1 : Int) (r2 : (Int × Int)) : Option Bool :=
  ((if (r2.2 == 0) then gameroomref_BestTricks_m hands1 strain1 leader1 ([] : List Int) else some 0)).bind fun r4 => some ((r2.2 == 0) && (r2.1 == r4))

noncomputable def gameroomlaw_BridgeBests_J8  (hands1 : List (List Int)) (strain1 : Int) (leader1 : Int) (r2 : (Int × Int)) (no8 : Int) : Option Bool :=
  if (no8 != 0) then (some ((r2.2 == no8) && (r2.1 == 0))) else ((gameroomlaw_BridgeBests_J9 hands1 strain1 leader1 r2))

noncomputable def gameroomlaw_BridgeBests_J7  (hands1 : List (List Int)) (strain1 : Int) (leader1 : Int) (r2 : (Int × Int)) (no7 : Int) : Option Bool :=
  if ((no7 == 0) && ((decide (leader1 < 0)) || (decide ((3 : Int) < leader1)))) then ((gameroomlaw_BridgeBests_J8 hands1 strain1 leader1 r2) 5) else ((gameroomlaw_BridgeBests_J8 hands1 strain1 leader1 r2) no7)

noncomputable def gameroomlaw_BridgeBests_J6  (hands1 : List (List Int)) (strain1 : Int) (leader1 : Int) (r2 : (Int × Int)) (no6 : Int) : Option Bool :=
  if ((no6 == 0) && ((decide (strain1 < 0)) || (decide ((4 : Int) < strain1)))) then ((gameroomlaw_BridgeBests_J7 hands1 strain1 leader1 r2) 4) else ((gameroomlaw_BridgeBests_J7 hands1 strain1 leader1 r2) no6)

noncomputable def gameroomlaw_BridgeBests_J2  (hands1 : List (List Int)) (strain1 : Int) (leader1 : Int) (r2 : (Int × Int)) (no3 : Int) (all2 : List Int) : Option Bool :=
  if (no3 == 0) then ((gameroomref_CardsMay_m all2).bind fun r3 => (gameroomlaw_BridgeBests_J6 hands1 strain1 leader1 r2) r3) else ((gameroomlaw_BridgeBests_J6 hands1 strain1 leader1 r2) no3)

noncomputable def gameroomlaw_BridgeBests_K1  (hands1 : List (List Int)) (strain1 : Int) (leader1 : Int) (r2 : (Int × Int)) : (Int × List Int) → Option Bool :=
  fun (x : (Int × List Int)) => match x with | (no3, all2) => (gameroomlaw_BridgeBests_J2 hands1 strain1 leader1 r2) no3 all2

noncomputable def gameroomlaw_BridgeBests_L1  (hands1 : List (List Int)) : (Int × List Int × Int) → Option (St (Int × List Int × Int) (Int × List Int)) :=
  fun (x : (Int × List Int × Int)) => match x with | (no2, all1, i1) => if ((decide (i1 < (hands1.length : Int))) && (no2 == 0)) then ((gameroomlaw_BridgeBests_J3 hands1 no2 all1 i1)) else (some (.done (no2, all1)))

noncomputable def gameroomlaw_BridgeBests_J1  (hands1 : List (List Int)) (strain1 : Int) (leader1 : Int) (r2 : (Int × Int)) (no1 : Int) : Option Bool :=
  (loop (gameroomlaw_BridgeBests_L1 hands1) (no1, ([] : List Int), 0)).bind (gameroomlaw_BridgeBests_K1 hands1 strain1 leader1 r2)

noncomputable def gameroomlaw_BridgeBests_m  (hands1 : List (List Int)) (strain1 : Int) (leader1 : Int) : Option Bool :=
  (gameroomlaw_copied_m hands1).bind fun r1 => (bridge_Best_m r1 strain1 leader1).bind fun r2 => if ((hands1.length : Int) != 4) then ((gameroomlaw_BridgeBests_J1 hands1 strain1 leader1 r2) 11) else ((gameroomlaw_BridgeBests_J1 hands1 strain1 leader1 r2) 0)

set_option maxRecDepth 100000 in
set_option maxHeartbeats 4000000 in
theorem gameroomlaw_BridgeBests_w {A1 : Option Addr} {c1 : Nat} {n1 : Nat} {hd1 : List Hd} {hands1 : List (List Int)} {strain1 : Int} {leader1 : Int} {r : Bool} {w0 w : World} {B : Nat} {fs : List HP} (hm : gameroomlaw_BridgeBests_m hands1 strain1 leader1 = some r) (hS : Sep w0 B w (fs)) (hr_hands1 : RdRowsF w0 B fs A1 hd1 hands1) (_hc_hands1 : hands1.length ≤ c1) (_hn_hands1 : n1 = hands1.length) :
    Calls Try.prog 9 #[.slice A1 n1 c1, .int .i64 strain1, .int .i64 leader1] w fun e w' => e = .returned (.bool r) ∧ Sep w0 B w' (fs) := by
  obtain ⟨i3, hi3, hz3, hs3, hb3⟩ := info_parts Info3
  obtain ⟨i34, hi34, hz34, hs34, hb34⟩ := info_parts Info34
  obtain rfl := _hn_hands1
  unfold gameroomlaw_BridgeBests_m at hm
  replace hm := start_b hm
  refine enter (l := [.slice A1 hands1.length c1, .int .i64 strain1, .int .i64 leader1]) (n := 108) Try.func9 rfl rfl (by simp) (fun a hF => ?_)
  refine reg [] [] [0, 1, 2] [pl 0 (.slice A1 hands1.length c1), pl 1 (.int .i64 strain1), pl 2 (.int .i64 leader1)] hF hS Fol (by kernel_rfl) (by kernel_rfl) (by kernel_rfl) ?_ (fun a w hF hS => ?_)
  · exact obs_nil
  refine seqR ?_
  obtain ⟨r1, hr1, hm⟩ := call_b hm
  obtain ⟨r2, hr2, hm⟩ := call_b hm
  refine at_run 1 [] [] [0, 1, 2, 13] [pl 0 (.slice A1 hands1.length c1), pl 1 (.int .i64 strain1), pl 2 (.int .i64 leader1), pl 13 (.slice A1 hands1.length c1)] hF hS (by kernel_rfl) (by kernel_rfl) ?_ (fun a w hF hS => ?_)
  · exact obs_nil
  refine at_call (f := 30) (args := #[.slice A1 hands1.length c1]) (d := 14) hF (by kernel_rfl) (by kernel_rfl) Try.func30 (by kernel_rfl) rfl (gameroomlaw_copied_w hr1 hS (fun _ hS => (hr_hands1 _ (hS.dropN 0))) _hc_hands1 rfl) (fun v a w hR hF => ?_)
  clear hS
  obtain ⟨A2, c2, hd2, rfl, hS⟩ := hR
  have hS : Sep w0 B w (rows 34 3 (.slice A2 r1.length c2) hd2 r1 :: fs) := hS
  refine at_run 8 [⟨false, [], callFunc 50 #[.slice A2 r1.length c2, .int .i64 strain1, .int .i64 leader1], .tuple #[.int .i64 r2.1, .int .i64 r2.2]⟩] [none, none, some (.tuple #[.int .i64 r2.1, .int .i64 r2.2]), none, none, none, none, none] [0, 1, 2, 7, 8] [pl 0 (.slice A1 hands1.length c1), pl 1 (.int .i64 strain1), pl 2 (.int .i64 leader1), pl 7 (.int .i64 r2.1), pl 8 (.int .i64 r2.2)] hF hS (by kernel_rfl) (by kernel_rfl) ?_ (fun a w hF hS => ?_)
  · exact obs_cons (ob_call Try.func50 (by kernel_rfl) rfl (fun _ _ hS => bridge_Best_w hr2 hS (fun _ hS => (hS.at_ 0 rfl).rdRows) (hS.at_ 0 rfl).rowsLen.2 (hS.at_ 0 rfl).lenR)) <| obs_nil
  refine at_end [0, 1, 2, 7, 8] [pl 0 (.slice A1 hands1.length c1), pl 1 (.int .i64 strain1), pl 2 (.int .i64 leader1), pl 7 (.int .i64 r2.1), pl 8 (.int .i64 r2.2)] hF rfl (by kernel_rfl) (fun hF => ?_)
  refine then_n ?_
  refine reg [] [] [0, 1, 2, 7, 8, 9] [pl 0 (.slice A1 hands1.length c1), pl 1 (.int .i64 strain1), pl 2 (.int .i64 leader1), pl 7 (.int .i64 r2.1), pl 8 (.int .i64 r2.2), pl 9 (.int .i64 0)] hF hS Fol (by kernel_rfl) (by kernel_rfl) (by kernel_rfl) ?_ (fun a w hF hS => ?_)
  · exact obs_nil
  refine seq_cut (fun a w => ∃ (no1 : Int), Fr 108 [pl 0 (.slice A1 hands1.length c1), pl 1 (.int .i64 strain1), pl 2 (.int .i64 leader1), pl 7 (.int .i64 r2.1), pl 8 (.int .i64 r2.2), pl 9 (.int .i64 no1)] a ∧ Sep w0 B w (fs) ∧ ((gameroomlaw_BridgeBests_J1 hands1 strain1 leader1 r2) no1).bind some = some r) ?_ ?_
  · rintro a w ⟨no1, hF, hS, hm⟩
    unfold gameroomlaw_BridgeBests_J1 at hm
    refine reg [] [] [0, 1, 2, 7, 8, 9, 10] [pl 0 (.slice A1 hands1.length c1), pl 1 (.int .i64 strain1), pl 2 (.int .i64 leader1), pl 7 (.int .i64 r2.1), pl 8 (.int .i64 r2.2), pl 9 (.int .i64 no1), pl 10 (.slice none 0 0)] hF hS Fol (by kernel_rfl) (by kernel_rfl) (by kernel_rfl) ?_ (fun a w hF hS => ?_)
    · exact obs_nil
    refine seq_cut (fun a w => ∃ (no3 : Int) (all2 : List Int) (A4 : Option Addr) (c4 : Nat), Fr 108 [pl 0 (.slice A1 hands1.length c1), pl 1 (.int .i64 strain1), pl 2 (.int .i64 leader1), pl 7 (.int .i64 r2.1), pl 8 (.int .i64 r2.2), pl 9 (.int .i64 no3), pl 10 (.slice A4 all2.length c4)] a ∧ Sep w0 B w (own 3 (.slice A4 all2.length c4) (vI all2) :: fs) ∧ ((gameroomlaw_BridgeBests_J2 hands1 strain1 leader1 r2) no3 all2).bind some = some r) ?_ ?_
    · rintro a w ⟨no3, all2, A4, c4, hF, hS, hm⟩
      unfold gameroomlaw_BridgeBests_J2 at hm
      refine seq_cut (fun a w => ∃ (no6 : Int), Fr 108 [pl 0 (.slice A1 hands1.length c1), pl 1 (.int .i64 strain1), pl 2 (.int .i64 leader1), pl 7 (.int .i64 r2.1), pl 8 (.int .i64 r2.2), pl 9 (.int .i64 no6)] a ∧ Sep w0 B w (fs) ∧ ((gameroomlaw_BridgeBests_J6 hands1 strain1 leader1 r2) no6).bind some = some r) ?_ ?_
      · rintro a w ⟨no6, hF, hS, hm⟩
        unfold gameroomlaw_BridgeBests_J6 at hm
        refine seq_cut (fun a w => ∃ (no7 : Int), Fr 108 [pl 0 (.slice A1 hands1.length c1), pl 1 (.int .i64 strain1), pl 2 (.int .i64 leader1), pl 7 (.int .i64 r2.1), pl 8 (.int .i64 r2.2), pl 9 (.int .i64 no7)] a ∧ Sep w0 B w (fs) ∧ ((gameroomlaw_BridgeBests_J7 hands1 strain1 leader1 r2) no7).bind some = some r) ?_ ?_
        · rintro a w ⟨no7, hF, hS, hm⟩
          unfold gameroomlaw_BridgeBests_J7 at hm
          refine seq_cut (fun a w => ∃ (no8 : Int), Fr 108 [pl 0 (.slice A1 hands1.length c1), pl 1 (.int .i64 strain1), pl 2 (.int .i64 leader1), pl 7 (.int .i64 r2.1), pl 8 (.int .i64 r2.2), pl 9 (.int .i64 no8)] a ∧ Sep w0 B w (fs) ∧ ((gameroomlaw_BridgeBests_J8 hands1 strain1 leader1 r2) no8).bind some = some r) ?_ ?_
          · rintro a w ⟨no8, hF, hS, hm⟩
            unfold gameroomlaw_BridgeBests_J8 at hm
            refine seq_cut (fun a w => Fr 108 [pl 0 (.slice A1 hands1.length c1), pl 1 (.int .i64 strain1), pl 2 (.int .i64 leader1), pl 7 (.int .i64 r2.1), pl 8 (.int .i64 r2.2)] a ∧ Sep w0 B w (fs) ∧ ((gameroomlaw_BridgeBests_J9 hands1 strain1 leader1 r2)).bind some = some r) ?_ ?_
            · rintro a w ⟨hF, hS, hm⟩
              unfold gameroomlaw_BridgeBests_J9 at hm
              obtain ⟨r4, hr4, hm⟩ := call_b hm
              refine reg [⟨false, [((r2.2 == 0), true)], callFunc 52 #[.slice A1 hands1.length c1, .int .i64 strain1, .int .i64 leader1, .slice none 0 0], .int .i64 r4⟩] [none, none, none, none, none, none, none, some (.int .i64 r4), none, none, none] [6] [pl 6 (.bool ((r2.2 == 0) && (r2.1 == r4)))] hF hS Fol (by kernel_rfl) (by kernel_rfl) (by kernel_rfl) ?_ (fun a w hF hS => ?_)
              · exact obs_cons (ob_call Try.func52 (by kernel_rfl) rfl (fun hy _ hS => gameroomref_BestTricks_w (ite_some hr4 (by rw [show (r2.2 == 0) = true from hy ((r2.2 == 0), true) (by simp)]; try rfl)) hS (fun _ hS => (hr_hands1 _ (hS.dropN 0))) _hc_hands1 rfl (fun _ hS => Rd.nil _ _ _) (Nat.le_refl _) rfl)) <| obs_nil
              refine wpIn_ret ?_
              have hm : some ((r2.2 == 0) && (r2.1 == r4)) = some r := hm
              obtain rfl := Option.some.inj hm
              exact retV (rs := [.tmp 6]) (vs := [.bool ((r2.2 == 0) && (r2.1 == r4))]) hF rfl (rv_t (by kernel_rfl) <| rv_nil) rfl ⟨rfl, hS⟩
            · refine reg [] [] [0, 1, 2, 7, 8, 9, 90] [pl 0 (.slice A1 hands1.length c1), pl 1 (.int .i64 strain1), pl 2 (.int .i64 leader1), pl 7 (.int .i64 r2.1), pl 8 (.int .i64 r2.2), pl 9 (.int .i64 no8), pl 90 (.bool (no8 != 0))] hF hS Fol (by kernel_rfl) (by kernel_rfl) (by kernel_rfl) ?_ (fun a w hF hS => ?_)
              · exact obs_nil
              refine cond_ev (t := 90) (b := (no8 != 0)) hF (by kernel_rfl) (fun hb => ?_) (fun hb => ?_)
              · replace hm := if_t hm hb
                refine reg [] [] [6] [pl 6 (.bool ((r2.2 == no8) && (r2.1 == 0)))] hF hS Fol (by kernel_rfl) (by kernel_rfl) (by kernel_rfl) ?_ (fun a w hF hS => ?_)
                · exact obs_nil
                refine wpIn_ret ?_
                refine then_r ?_
                have hm : some ((r2.2 == no8) && (r2.1 == 0)) = some r := hm
                obtain rfl := Option.some.inj hm
                exact retV (rs := [.tmp 6]) (vs := [.bool ((r2.2 == no8) && (r2.1 == 0))]) hF rfl (rv_t (by kernel_rfl) <| rv_nil) rfl ⟨rfl, hS⟩
              · replace hm := if_f hm hb
                refine wpIn_skip ?_
                refine then_n ?_
                exact ⟨hF.weak [0, 1, 2, 7, 8] (by kernel_rfl), hS, hm⟩
          · refine reg [] [] [0, 1, 2, 7, 8, 9, 88] [pl 0 (.slice A1 hands1.length c1), pl 1 (.int .i64 strain1), pl 2 (.int .i64 leader1), pl 7 (.int .i64 r2.1), pl 8 (.int .i64 r2.2), pl 9 (.int .i64 no7), pl 88 (.bool ((no7 == 0) && ((decide (leader1 < 0)) || (decide ((3 : Int) < leader1)))))] hF hS Fol (by kernel_rfl) (by kernel_rfl) (by kernel_rfl) ?_ (fun a w hF hS => ?_)
            · exact obs_nil
            refine cond_ev (t := 88) (b := (no7 == 0) && ((decide (leader1 < 0)) || (decide ((3 : Int) < leader1)))) hF (by kernel_rfl) (fun hb => ?_) (fun hb => ?_)
            · replace hm := if_t hm hb
              refine reg1 [] [] [0, 1, 2, 7, 8, 9] [pl 0 (.slice A1 hands1.length c1), pl 1 (.int .i64 strain1), pl 2 (.int .i64 leader1), pl 7 (.int .i64 r2.1), pl 8 (.int .i64 r2.2), pl 9 (.int .i64 5)] hF hS Fol (by kernel_rfl) (by kernel_rfl) (by kernel_rfl) ?_ (fun a w hF hS => ?_)
              · exact obs_nil
              refine then_n ?_
              exact ⟨5, hF.weak [0, 1, 2, 7, 8, 9] (by kernel_rfl), hS, hm⟩
            · replace hm := if_f hm hb
              refine wpIn_skip ?_
              refine then_n ?_
              exact ⟨no7, hF.weak [0, 1, 2, 7, 8, 9] (by kernel_rfl), hS, hm⟩
        · refine reg [] [] [0, 1, 2, 7, 8, 9, 78] [pl 0 (.slice A1 hands1.length c1), pl 1 (.int .i64 strain1), pl 2 (.int .i64 leader1), pl 7 (.int .i64 r2.1), pl 8 (.int .i64 r2.2), pl 9 (.int .i64 no6), pl 78 (.bool ((no6 == 0) && ((decide (strain1 < 0)) || (decide ((4 : Int) < strain1)))))] hF hS Fol (by kernel_rfl) (by kernel_rfl) (by kernel_rfl) ?_ (fun a w hF hS => ?_)
          · exact obs_nil
          refine cond_ev (t := 78) (b := (no6 == 0) && ((decide (strain1 < 0)) || (decide ((4 : Int) < strain1)))) hF (by kernel_rfl) (fun hb => ?_) (fun hb => ?_)
          · replace hm := if_t hm hb
            refine reg1 [] [] [0, 1, 2, 7, 8, 9] [pl 0 (.slice A1 hands1.length c1), pl 1 (.int .i64 strain1), pl 2 (.int .i64 leader1), pl 7 (.int .i64 r2.1), pl 8 (.int .i64 r2.2), pl 9 (.int .i64 4)] hF hS Fol (by kernel_rfl) (by kernel_rfl) (by kernel_rfl) ?_ (fun a w hF hS => ?_)
            · exact obs_nil
            refine then_n ?_
            exact ⟨4, hF.weak [0, 1, 2, 7, 8, 9] (by kernel_rfl), hS, hm⟩
          · replace hm := if_f hm hb
            refine wpIn_skip ?_
            refine then_n ?_
            exact ⟨no6, hF.weak [0, 1, 2, 7, 8, 9] (by kernel_rfl), hS, hm⟩
      · refine reg [] [] [0, 1, 2, 7, 8, 9, 10, 66] [pl 0 (.slice A1 hands1.length c1), pl 1 (.int .i64 strain1), pl 2 (.int .i64 leader1), pl 7 (.int .i64 r2.1), pl 8 (.int .i64 r2.2), pl 9 (.int .i64 no3), pl 10 (.slice A4 all2.length c4), pl 66 (.bool (no3 == 0))] hF hS Fol (by kernel_rfl) (by kernel_rfl) (by kernel_rfl) ?_ (fun a w hF hS => ?_)
        · exact obs_nil
        refine cond_ev (t := 66) (b := (no3 == 0)) hF (by kernel_rfl) (fun hb => ?_) (fun hb => ?_)
        · replace hm := if_t hm hb
          obtain ⟨r3, hr3, hm⟩ := call_b hm
          refine reg1 [⟨false, [], callFunc 51 #[.slice A4 all2.length c4], .int .i64 r3⟩] [none, some (.int .i64 r3), none] [0, 1, 2, 7, 8, 9] [pl 0 (.slice A1 hands1.length c1), pl 1 (.int .i64 strain1), pl 2 (.int .i64 leader1), pl 7 (.int .i64 r2.1), pl 8 (.int .i64 r2.2), pl 9 (.int .i64 r3)] hF hS Fol (by kernel_rfl) (by kernel_rfl) (by kernel_rfl) ?_ (fun a w hF hS => ?_)
          · exact obs_cons (ob_call Try.func51 (by kernel_rfl) rfl (fun _ _ hS => gameroomref_CardsMay_w hr3 hS (fun _ hS => (hS.at_ 0 rfl).rd) ((hS.at_ 0 rfl).cap1) rfl)) <| obs_nil
          refine then_n ?_
          have hS := hS.pickN 1 [] (by decide)
          exact ⟨r3, hF.weak [0, 1, 2, 7, 8, 9] (by kernel_rfl), hS, hm⟩
        · replace hm := if_f hm hb
          refine wpIn_skip ?_
          refine then_n ?_
          have hS := hS.pickN 1 [] (by decide)
          exact ⟨no3, hF.weak [0, 1, 2, 7, 8, 9] (by kernel_rfl), hS, hm⟩
    · refine reg [] [] [0, 1, 2, 7, 8, 9, 10, 11] [pl 0 (.slice A1 hands1.length c1), pl 1 (.int .i64 strain1), pl 2 (.int .i64 leader1), pl 7 (.int .i64 r2.1), pl 8 (.int .i64 r2.2), pl 9 (.int .i64 no1), pl 10 (.slice none 0 0), pl 11 (.int .i64 0)] hF hS Fol (by kernel_rfl) (by kernel_rfl) (by kernel_rfl) ?_ (fun a w hF hS => ?_)
      · exact obs_nil
      refine wpIn_block ?_
      have hS : Sep w0 B w (own 3 (.slice none 0 0) (vI ([] : List Int)) :: fs) := hS.nil 3
      have hl1 := (hS.at_ 0 rfl).len1
      have hS := (hS.at_ 0 rfl).reN hl1
      have hS : Sep w0 B w (own 3 (.slice none (([] : List Int).length) 0) (vI ([] : List Int)) :: fs) := hS
      have hF := hF.cast (t := 10) (v := .slice none 0 0) (v' := .slice none (([] : List Int).length) 0) rfl rfl (congrArg (fun k => Value.slice none k 0) hl1)
      refine wp_loop_model (S := (Int × List Int × Int)) (R := (Int × List Int)) (gameroomlaw_BridgeBests_L1 hands1) (fun x => ((gameroomlaw_BridgeBests_K1 hands1 strain1 leader1 r2) x).bind some) r (fun (x : (Int × List Int × Int)) a w => ∃ (A3 : Option Addr) (c3 : Nat), Fr 108 [pl 0 (.slice A1 hands1.length c1), pl 1 (.int .i64 strain1), pl 2 (.int .i64 leader1), pl 7 (.int .i64 r2.1), pl 8 (.int .i64 r2.2), pl 9 (.int .i64 x.1), pl 10 (.slice A3 x.2.1.length c3), pl 11 (.int .i64 x.2.2)] a ∧ Sep w0 B w (own 3 (.slice A3 x.2.1.length c3) (vI x.2.1) :: fs)) (assoc_b hm) ⟨none, 0, hF.weak [0, 1, 2, 7, 8, 9, 10, 11] (by kernel_rfl), hS⟩ ?_
      clear hF hS hm
      rintro nn1 ⟨no2, all1, i1⟩ a w ⟨A3, c3, hF, hS⟩ hm
      generalize hφ1 : stK (gameroomlaw_BridgeBests_L1 hands1) nn1 (fun x => ((gameroomlaw_BridgeBests_K1 hands1 strain1 leader1 r2) x).bind some) = φ1 at hm
      unfold gameroomlaw_BridgeBests_L1 at hm
      dsimp only at hF hS hm
      refine seq_cut (fun a w => Fr 108 [pl 0 (.slice A1 hands1.length c1), pl 1 (.int .i64 strain1), pl 2 (.int .i64 leader1), pl 7 (.int .i64 r2.1), pl 8 (.int .i64 r2.2), pl 9 (.int .i64 no2), pl 10 (.slice A3 all1.length c3), pl 11 (.int .i64 i1)] a ∧ Sep w0 B w (own 3 (.slice A3 all1.length c3) (vI all1) :: fs) ∧ ((gameroomlaw_BridgeBests_J3 hands1 no2 all1 i1)).bind φ1 = some r) ?_ ?_
      · rintro a w ⟨hF, hS, hm⟩
        unfold gameroomlaw_BridgeBests_J3 at hm
        refine seq_cut (fun a w => ∃ (no5 : Int) (all3 : List Int) (A6 : Option Addr) (c6 : Nat), Fr 108 [pl 0 (.slice A1 hands1.length c1), pl 1 (.int .i64 strain1), pl 2 (.int .i64 leader1), pl 7 (.int .i64 r2.1), pl 8 (.int .i64 r2.2), pl 9 (.int .i64 no5), pl 10 (.slice A6 all3.length c6), pl 11 (.int .i64 i1)] a ∧ Sep w0 B w (own 3 (.slice A6 all3.length c6) (vI all3) :: fs) ∧ ((gameroomlaw_BridgeBests_J4 i1) no5 all3).bind φ1 = some r) ?_ ?_
        · rintro a w ⟨no5, all3, A6, c6, hF, hS, hm⟩
          unfold gameroomlaw_BridgeBests_J4 at hm
          refine reg1 [] [] [0, 1, 2, 7, 8, 9, 10, 11] [pl 0 (.slice A1 hands1.length c1), pl 1 (.int .i64 strain1), pl 2 (.int .i64 leader1), pl 7 (.int .i64 r2.1), pl 8 (.int .i64 r2.2), pl 9 (.int .i64 no5), pl 10 (.slice A6 all3.length c6), pl 11 (.int .i64 (w64 (i1 + 1)))] hF hS Fol (by kernel_rfl) (by kernel_rfl) (by kernel_rfl) ?_ (fun a w hF hS => ?_)
          · exact obs_nil
          refine then_n ?_
          rw [← hφ1] at hm
          exact ⟨(no5, all3, (w64 (i1 + 1))), ⟨A6, c6, hF.weak [0, 1, 2, 7, 8, 9, 10, 11] (by kernel_rfl), hS⟩, hm⟩
        · refine wpIn_block ?_
          refine seq_cut (fun a w => ∃ (no4 : Int), Fr 108 [pl 0 (.slice A1 hands1.length c1), pl 1 (.int .i64 strain1), pl 2 (.int .i64 leader1), pl 7 (.int .i64 r2.1), pl 8 (.int .i64 r2.2), pl 9 (.int .i64 no4), pl 10 (.slice A3 all1.length c3), pl 11 (.int .i64 i1)] a ∧ Sep w0 B w (own 3 (.slice A3 all1.length c3) (vI all1) :: fs) ∧ ((gameroomlaw_BridgeBests_J5 hands1 all1 i1) no4).bind φ1 = some r) ?_ ?_
          · rintro a w ⟨no4, hF, hS, hm⟩
            unfold gameroomlaw_BridgeBests_J5 at hm
            refine oneR ?_
            obtain ⟨hp5, hm⟩ := asrt_b hm
            obtain ⟨hp6, hm⟩ := asrt_b hm
            refine at_run 5 [⟨true, [], vS (Instr.indexAt 45 (.slice A1 hands1.length c1) (.int .i64 i1)), .pointer (some (sAddr A1 i1))⟩, ⟨false, [], vS (Instr.loadAt 34 (.pointer (some (sAddr A1 i1)))), .slice (hdA hd1 i1) ((geti2 hands1 i1).length) (hdC hd1 i1)⟩] [none, none, none, some (.pointer (some (sAddr A1 i1))), some (.slice (hdA hd1 i1) ((geti2 hands1 i1).length) (hdC hd1 i1))] [0, 1, 2, 7, 8, 9, 11, 59, 63] [pl 0 (.slice A1 hands1.length c1), pl 1 (.int .i64 strain1), pl 2 (.int .i64 leader1), pl 7 (.int .i64 r2.1), pl 8 (.int .i64 r2.2), pl 9 (.int .i64 no4), pl 11 (.int .i64 i1), pl 59 (.slice A3 all1.length c3), pl 63 (.slice (hdA hd1 i1) ((geti2 hands1 i1).length) (hdC hd1 i1))] hF hS (by kernel_rfl) (by kernel_rfl) ?_ (fun a w hF hS => ?_)
            · exact obs_cons (ob_ixRn Und45 hi34 hs34 (hr_hands1 _ (hS.dropN 1)) rfl (fun _ => hp5)) <| obs_cons (ob_getR Agg34 (fun _ hS => ⟨_, (hr_hands1 _ (hS.dropN 1))⟩) (fun _ => hp5)) <| obs_nil
            obtain ⟨A5, c5, w, hrun, hS⟩ := run_app1 (P := Try.prog) (t := 34) (m := all1) (ys := (geti2 hands1 i1)) (A2 := (hdA hd1 i1)) (m2 := (geti2 hands1 i1).length) (c2 := (hdC hd1 i1)) (Value.int .i64) (0 : Int) (hS.at_ 0 rfl) ((hr_hands1 _ (hS.dropN 1)).row _ hp5).1 rfl 34 Und34 hi3 hz3 hs3 (by omega) rfl (fun _ => rfl) hp6
            have hS : Sep w0 B w (own 3 (.slice A5 ((all1 ++ (geti2 hands1 i1)).length) c5) (vI (all1 ++ (geti2 hands1 i1))) :: fs) := hS
            refine at_do (d := 64) hF (by kernel_rfl) (by kernel_rfl) hrun (fun a hF => ?_)
            refine at_run 1 [] [] [0, 1, 2, 7, 8, 9, 10, 11] [pl 0 (.slice A1 hands1.length c1), pl 1 (.int .i64 strain1), pl 2 (.int .i64 leader1), pl 7 (.int .i64 r2.1), pl 8 (.int .i64 r2.2), pl 9 (.int .i64 no4), pl 10 (.slice A5 ((all1 ++ (geti2 hands1 i1)).length) c5), pl 11 (.int .i64 i1)] hF hS (by kernel_rfl) (by kernel_rfl) ?_ (fun a w hF hS => ?_)
            · exact obs_nil
            refine at_end [0, 1, 2, 7, 8, 9, 10, 11] [pl 0 (.slice A1 hands1.length c1), pl 1 (.int .i64 strain1), pl 2 (.int .i64 leader1), pl 7 (.int .i64 r2.1), pl 8 (.int .i64 r2.2), pl 9 (.int .i64 no4), pl 10 (.slice A5 ((all1 ++ (geti2 hands1 i1)).length) c5), pl 11 (.int .i64 i1)] hF rfl (by kernel_rfl) (fun hF => ?_)
            refine block_n ?_
            refine then_n ?_
            exact ⟨no4, (all1 ++ (geti2 hands1 i1)), A5, c5, hF.weak [0, 1, 2, 7, 8, 9, 10, 11] (by kernel_rfl), hS, hm⟩
          · obtain ⟨hp1, hm⟩ := asrt_b hm
            obtain ⟨hp2, hm⟩ := asrt_b hm
            obtain ⟨hp3, hm⟩ := asrt_b hm
            obtain ⟨hp4, hm⟩ := asrt_b hm
            refine reg [⟨true, [], vS (Instr.indexAt 45 (.slice A1 hands1.length c1) (.int .i64 i1)), .pointer (some (sAddr A1 i1))⟩, ⟨false, [], vS (Instr.loadAt 34 (.pointer (some (sAddr A1 i1)))), .slice (hdA hd1 i1) ((geti2 hands1 i1).length) (hdC hd1 i1)⟩, ⟨true, [], vS (Instr.indexAt 45 (.slice A1 hands1.length c1) (.int .i64 0)), .pointer (some (sAddr A1 0))⟩, ⟨false, [], vS (Instr.loadAt 34 (.pointer (some (sAddr A1 0)))), .slice (hdA hd1 0) ((geti2 hands1 0).length) (hdC hd1 0)⟩, ⟨true, [(((((geti2 hands1 i1).length : Nat) : Int) != (((geti2 hands1 0).length : Nat) : Int)), false)], vS (Instr.indexAt 45 (.slice A1 hands1.length c1) (.int .i64 i1)), .pointer (some (sAddr A1 i1))⟩, ⟨false, [(((((geti2 hands1 i1).length : Nat) : Int) != (((geti2 hands1 0).length : Nat) : Int)), false)], vS (Instr.loadAt 34 (.pointer (some (sAddr A1 i1)))), .slice (hdA hd1 i1) ((geti2 hands1 i1).length) (hdC hd1 i1)⟩, ⟨true, [(((((geti2 hands1 i1).length : Nat) : Int) != (((geti2 hands1 0).length : Nat) : Int)) || (decide ((((geti2 hands1 i1).length : Nat) : Int) < 1)), false)], vS (Instr.indexAt 45 (.slice A1 hands1.length c1) (.int .i64 i1)), .pointer (some (sAddr A1 i1))⟩, ⟨false, [(((((geti2 hands1 i1).length : Nat) : Int) != (((geti2 hands1 0).length : Nat) : Int)) || (decide ((((geti2 hands1 i1).length : Nat) : Int) < 1)), false)], vS (Instr.loadAt 34 (.pointer (some (sAddr A1 i1)))), .slice (hdA hd1 i1) ((geti2 hands1 i1).length) (hdC hd1 i1)⟩] [none, none, some (.pointer (some (sAddr A1 i1))), some (.slice (hdA hd1 i1) ((geti2 hands1 i1).length) (hdC hd1 i1)), none, none, some (.pointer (some (sAddr A1 0))), some (.slice (hdA hd1 0) ((geti2 hands1 0).length) (hdC hd1 0)), none, none, none, none, none, some (.pointer (some (sAddr A1 i1))), some (.slice (hdA hd1 i1) ((geti2 hands1 i1).length) (hdC hd1 i1)), none, none, none, none, none, none, some (.pointer (some (sAddr A1 i1))), some (.slice (hdA hd1 i1) ((geti2 hands1 i1).length) (hdC hd1 i1)), none, none, none] [0, 1, 2, 7, 8, 9, 10, 11, 58] [pl 0 (.slice A1 hands1.length c1), pl 1 (.int .i64 strain1), pl 2 (.int .i64 leader1), pl 7 (.int .i64 r2.1), pl 8 (.int .i64 r2.2), pl 9 (.int .i64 no2), pl 10 (.slice A3 all1.length c3), pl 11 (.int .i64 i1), pl 58 (.bool ((((((geti2 hands1 i1).length : Nat) : Int) != (((geti2 hands1 0).length : Nat) : Int)) || (decide ((((geti2 hands1 i1).length : Nat) : Int) < 1))) || (decide ((4 : Int) < (((geti2 hands1 i1).length : Nat) : Int)))))] hF hS Fol (by kernel_rfl) (by kernel_rfl) (by kernel_rfl) ?_ (fun a w hF hS => ?_)
            · exact obs_cons (ob_ixRn Und45 hi34 hs34 (hr_hands1 _ (hS.dropN 1)) rfl (fun _ => hp1)) <| obs_cons (ob_getR Agg34 (fun _ hS => ⟨_, (hr_hands1 _ (hS.dropN 1))⟩) (fun _ => hp1)) <| obs_cons (ob_ixRn Und45 hi34 hs34 (hr_hands1 _ (hS.dropN 1)) rfl (fun _ => hp2)) <| obs_cons (ob_getR Agg34 (fun _ hS => ⟨_, (hr_hands1 _ (hS.dropN 1))⟩) (fun _ => hp2)) <| obs_cons (ob_ixRn Und45 hi34 hs34 (hr_hands1 _ (hS.dropN 1)) rfl (fun hy => hp3 (hy (((((geti2 hands1 i1).length : Nat) : Int) != (((geti2 hands1 0).length : Nat) : Int)), false) (by simp)))) <| obs_cons (ob_getR Agg34 (fun _ hS => ⟨_, (hr_hands1 _ (hS.dropN 1))⟩) (fun hy => hp3 (hy (((((geti2 hands1 i1).length : Nat) : Int) != (((geti2 hands1 0).length : Nat) : Int)), false) (by simp)))) <| obs_cons (ob_ixRn Und45 hi34 hs34 (hr_hands1 _ (hS.dropN 1)) rfl (fun hy => hp4 (hy (((((geti2 hands1 i1).length : Nat) : Int) != (((geti2 hands1 0).length : Nat) : Int)) || (decide ((((geti2 hands1 i1).length : Nat) : Int) < 1)), false) (by simp)))) <| obs_cons (ob_getR Agg34 (fun _ hS => ⟨_, (hr_hands1 _ (hS.dropN 1))⟩) (fun hy => hp4 (hy (((((geti2 hands1 i1).length : Nat) : Int) != (((geti2 hands1 0).length : Nat) : Int)) || (decide ((((geti2 hands1 i1).length : Nat) : Int) < 1)), false) (by simp)))) <| obs_nil
            refine cond_ev (t := 58) (b := (((((geti2 hands1 i1).length : Nat) : Int) != (((geti2 hands1 0).length : Nat) : Int)) || (decide ((((geti2 hands1 i1).length : Nat) : Int) < 1))) || (decide ((4 : Int) < (((geti2 hands1 i1).length : Nat) : Int)))) hF (by kernel_rfl) (fun hb => ?_) (fun hb => ?_)
            · replace hm := if_t hm hb
              refine reg1 [] [] [0, 1, 2, 7, 8, 9, 10, 11] [pl 0 (.slice A1 hands1.length c1), pl 1 (.int .i64 strain1), pl 2 (.int .i64 leader1), pl 7 (.int .i64 r2.1), pl 8 (.int .i64 r2.2), pl 9 (.int .i64 11), pl 10 (.slice A3 all1.length c3), pl 11 (.int .i64 i1)] hF hS Fol (by kernel_rfl) (by kernel_rfl) (by kernel_rfl) ?_ (fun a w hF hS => ?_)
              · exact obs_nil
              refine then_n ?_
              exact ⟨11, hF.weak [0, 1, 2, 7, 8, 9, 10, 11] (by kernel_rfl), hS, hm⟩
            · replace hm := if_f hm hb
              refine wpIn_skip ?_
              refine then_n ?_
              exact ⟨no2, hF.weak [0, 1, 2, 7, 8, 9, 10, 11] (by kernel_rfl), hS, hm⟩
      · refine reg [] [] [0, 1, 2, 7, 8, 9, 10, 11, 30] [pl 0 (.slice A1 hands1.length c1), pl 1 (.int .i64 strain1), pl 2 (.int .i64 leader1), pl 7 (.int .i64 r2.1), pl 8 (.int .i64 r2.2), pl 9 (.int .i64 no2), pl 10 (.slice A3 all1.length c3), pl 11 (.int .i64 i1), pl 30 (.bool ((decide (i1 < (hands1.length : Int))) && (no2 == 0)))] hF hS Fol (by kernel_rfl) (by kernel_rfl) (by kernel_rfl) ?_ (fun a w hF hS => ?_)
        · exact obs_nil
        refine cond_ev (t := 30) (b := (decide (i1 < (hands1.length : Int))) && (no2 == 0)) hF (by kernel_rfl) (fun hb => ?_) (fun hb => ?_)
        · replace hm := if_t hm hb
          refine wpIn_skip ?_
          refine then_n ?_
          exact ⟨hF.weak [0, 1, 2, 7, 8, 9, 10, 11] (by kernel_rfl), hS, hm⟩
        · replace hm := if_f hm hb
          refine wpIn_exit ?_
          refine then_e (then_e (block_e (then_n ?_)))
          rw [← hφ1] at hm
          replace hm := done_b hm
          unfold gameroomlaw_BridgeBests_K1 at hm
          try dsimp only at hm
          have hm : ((gameroomlaw_BridgeBests_J2 hands1 strain1 leader1 r2) no2 all1).bind some = some r := hm
          exact ⟨no2, all1, A3, c3, hF.weak [0, 1, 2, 7, 8, 9, 10] (by kernel_rfl), hS, hm⟩
  · refine reg [] [] [0, 1, 2, 7, 8, 9, 22] [pl 0 (.slice A1 hands1.length c1), pl 1 (.int .i64 strain1), pl 2 (.int .i64 leader1), pl 7 (.int .i64 r2.1), pl 8 (.int .i64 r2.2), pl 9 (.int .i64 0), pl 22 (.bool ((hands1.length : Int) != 4))] hF hS Fol (by kernel_rfl) (by kernel_rfl) (by kernel_rfl) ?_ (fun a w hF hS => ?_)
    · exact obs_nil
    refine cond_ev (t := 22) (b := ((hands1.length : Int) != 4)) hF (by kernel_rfl) (fun hb => ?_) (fun hb => ?_)
    · replace hm := if_t hm hb
      refine reg1 [] [] [0, 1, 2, 7, 8, 9] [pl 0 (.slice A1 hands1.length c1), pl 1 (.int .i64 strain1), pl 2 (.int .i64 leader1), pl 7 (.int .i64 r2.1), pl 8 (.int .i64 r2.2), pl 9 (.int .i64 11)] hF hS Fol (by kernel_rfl) (by kernel_rfl) (by kernel_rfl) ?_ (fun a w hF hS => ?_)
      · exact obs_nil
      refine then_n ?_
      have hS := hS.pickN 1 [] (by decide)
      exact ⟨11, hF.weak [0, 1, 2, 7, 8, 9] (by kernel_rfl), hS, hm⟩
    · replace hm := if_f hm hb
      refine wpIn_skip ?_
      refine then_n ?_
      have hS := hS.pickN 1 [] (by decide)
      exact ⟨0, hF.weak [0, 1, 2, 7, 8, 9] (by kernel_rfl), hS, hm⟩

end Go.Proofs.Ytlpaklmfgldkoaa
