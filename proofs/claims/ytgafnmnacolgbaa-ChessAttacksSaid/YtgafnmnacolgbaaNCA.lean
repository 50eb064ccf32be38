/-
  Models and walks, printed by our own program (wip/gen).
-/
import Derived.Test.YtgafnmnacolgbaaKFB
import Derived.Test.YtgafnmnacolgbaaKibAP
import Derived.Test.YtgafnmnacolgbaaKibRF
import Derived.Test.YtgafnmnacolgbaaNCAa
namespace Go.Proofs.Ytgafnmnacolgbaa
open Go Go.GL Go.RowKit

noncomputable def chess_Material_m  (p1 : List Int) (p2 : Int) (p3 : Int) (p4 : Int) (p5 : Int) (p6 : Int) : Option (Int × Bool × Int) :=
  (chess_May_m p1 p2 p3 p4 p5 p6).bind fun r1 => if (!r1) then (some (0, false, 12)) else ((chess_Material_J1 p1))

set_option maxRecDepth 100000 in
set_option maxHeartbeats 4000000 in
theorem chess_Material_w {A1 : Option Addr} {c1 : Nat} {n1 : Nat} {p1 : List Int} {p2 : Int} {p3 : Int} {p4 : Int} {p5 : Int} {p6 : Int} {r : (Int × Bool × Int)} {w0 w : World} {B : Nat} {fs : List HP} (hm : chess_Material_m p1 p2 p3 p4 p5 p6 = some r) (hS : Sep w0 B w (fs)) (hr_p1 : RdF w0 B fs A1 (vI p1)) (_hc_p1 : p1.length ≤ c1) (_hn_p1 : n1 = p1.length) :
    Calls Try.prog 23 #[.agg #[.slice A1 n1 c1, .int .i64 p2, .int .i64 p3, .int .i64 p4, .int .i64 p5, .int .i64 p6]] w fun e w' => e = .returned (.tuple #[.int .i64 r.1, .bool r.2.1, .int .i64 r.2.2]) ∧ Sep w0 B w' (fs) := by
  obtain ⟨i3, hi3, hz3, hs3, hb3⟩ := info_parts Info3
  obtain rfl := _hn_p1
  unfold chess_Material_m at hm
  replace hm := start_b hm
  refine enter (l := [.agg #[.slice A1 p1.length c1, .int .i64 p2, .int .i64 p3, .int .i64 p4, .int .i64 p5, .int .i64 p6]]) (n := 90) Try.func23 rfl rfl (by simp) (fun a hF => ?_)
  refine seqR ?_
  refine at_do (d := 1) (s := vS (Instr.box 36 (.agg #[.slice A1 p1.length c1, .int .i64 p2, .int .i64 p3, .int .i64 p4, .int .i64 p5, .int .i64 p6]))) (v := .pointer (some ⟨w.heap.size, 0, none⟩)) (w' := w.alloc (.cells #[.slice A1 p1.length c1, .int .i64 p2, .int .i64 p3, .int .i64 p4, .int .i64 p5, .int .i64 p6] 36)) hF (by kernel_rfl) (by kernel_rfl) (by kernel_rfl) (fun a hF => ?_)
  have hS : Sep w0 B (w.alloc (.cells #[.slice A1 p1.length c1, .int .i64 p2, .int .i64 p3, .int .i64 p4, .int .i64 p5, .int .i64 p6] 36)) (blk w.heap.size 36 #[.slice A1 p1.length c1, .int .i64 p2, .int .i64 p3, .int .i64 p4, .int .i64 p5, .int .i64 p6] :: (fs)) := hS.box 36 #[.slice A1 p1.length c1, .int .i64 p2, .int .i64 p3, .int .i64 p4, .int .i64 p5, .int .i64 p6]
  generalize w.heap.size = g1 at hF hS
  generalize w.alloc (.cells #[.slice A1 p1.length c1, .int .i64 p2, .int .i64 p3, .int .i64 p4, .int .i64 p5, .int .i64 p6] 36) = w at hS ⊢
  refine at_run 3 [] [] [1] [pl 1 (.pointer (some ⟨g1, 0, none⟩))] hF hS (by kernel_rfl) (by kernel_rfl) ?_ (fun a w hF hS => ?_)
  · exact obs_nil
  refine at_end [1] [pl 1 (.pointer (some ⟨g1, 0, none⟩))] hF rfl (by kernel_rfl) (fun hF => ?_)
  refine then_n ?_
  refine seq_cut (fun a w => Fr 90 [pl 1 (.pointer (some ⟨g1, 0, none⟩))] a ∧ Sep w0 B w (blk g1 36 #[.slice A1 p1.length c1, .int .i64 p2, .int .i64 p3, .int .i64 p4, .int .i64 p5, .int .i64 p6] :: fs) ∧ ((chess_Material_J1 p1)).bind some = some r) ?_ ?_
  · rintro a w ⟨hF, hS, hm⟩
    unfold chess_Material_J1 at hm
    refine seqR ?_
    refine at_run 1 [] [] [1, 17] [pl 1 (.pointer (some ⟨g1, 0, none⟩)), pl 17 (.agg (List.toArray (([] : List Value) ++ (arr1 (Value.int .i64) (0 : Int) 7 ([0, 1, 3, 3, 5, 9, 0] : List Int) ++ ([] : List Value)))))] hF hS (by kernel_rfl) (by kernel_rfl) ?_ (fun a w hF hS => ?_)
    · exact obs_nil
    refine at_do (d := 5) (s := vS (Instr.alloc 119 true (.tuple #[]))) (v := .pointer (some ⟨w.heap.size, 0, none⟩)) (w' := w.alloc (.cells (List.toArray (([] : List Value) ++ (arr1 (Value.int .i64) (0 : Int) 7 (List.replicate 7 (0 : Int)) ++ ([] : List Value)))) 119)) hF (by kernel_rfl) (by kernel_rfl) (by kernel_rfl) (fun a hF => ?_)
    have hS : Sep w0 B (w.alloc (.cells (List.toArray (([] : List Value) ++ (arr1 (Value.int .i64) (0 : Int) 7 (List.replicate 7 (0 : Int)) ++ ([] : List Value)))) 119)) (blk w.heap.size 119 (List.toArray (([] : List Value) ++ (arr1 (Value.int .i64) (0 : Int) 7 (List.replicate 7 (0 : Int)) ++ ([] : List Value)))) :: (blk g1 36 #[.slice A1 p1.length c1, .int .i64 p2, .int .i64 p3, .int .i64 p4, .int .i64 p5, .int .i64 p6] :: fs)) := hS.box 119 (List.toArray (([] : List Value) ++ (arr1 (Value.int .i64) (0 : Int) 7 (List.replicate 7 (0 : Int)) ++ ([] : List Value))))
    generalize w.heap.size = g2 at hF hS
    generalize w.alloc (.cells (List.toArray (([] : List Value) ++ (arr1 (Value.int .i64) (0 : Int) 7 (List.replicate 7 (0 : Int)) ++ ([] : List Value)))) 119) = w at hS ⊢
    obtain ⟨w, hrun, hS⟩ := run_putA (P := Try.prog) (t := 119) (us := (List.toArray (([] : List Value) ++ (arr1 (Value.int .i64) (0 : Int) 7 ([0, 1, 3, 3, 5, 9, 0] : List Int) ++ ([] : List Value))))) (o := 0) (hS.at_ 0 rfl) (by kernel_rfl) (all_one (by kernel_rfl)) (Nat.le_of_ble_eq_true (by kernel_rfl))
    refine at_skip hF (by kernel_rfl) hrun ?_
    have hS : Sep w0 B w (blk g2 119 (List.toArray (([] : List Value) ++ (arr1 (Value.int .i64) (0 : Int) 7 ([0, 1, 3, 3, 5, 9, 0] : List Int) ++ ([] : List Value)))) :: blk g1 36 #[.slice A1 p1.length c1, .int .i64 p2, .int .i64 p3, .int .i64 p4, .int .i64 p5, .int .i64 p6] :: fs) := hS
    refine at_end [1, 5] [pl 1 (.pointer (some ⟨g1, 0, none⟩)), pl 5 (.pointer (some ⟨g2, 0, none⟩))] hF rfl (by kernel_rfl) (fun hF => ?_)
    refine then_n ?_
    refine reg [] [] [1, 5, 6, 7, 8] [pl 1 (.pointer (some ⟨g1, 0, none⟩)), pl 5 (.pointer (some ⟨g2, 0, none⟩)), pl 6 (.int .i64 0), pl 7 (.int .i64 0), pl 8 (.int .i64 0)] hF hS Fol (by kernel_rfl) (by kernel_rfl) (by kernel_rfl) ?_ (fun a w hF hS => ?_)
    · exact obs_nil
    refine seqR ?_
    refine at_do (d := 9) (s := vS (Instr.alloc 23 true (.tuple #[]))) (v := .pointer (some ⟨w.heap.size, 0, none⟩)) (w' := w.alloc (.cells (List.toArray (([] : List Value) ++ (arr1 (Value.int .i64) (0 : Int) 2 (List.replicate 2 (0 : Int)) ++ ([] : List Value)))) 23)) hF (by kernel_rfl) (by kernel_rfl) (by kernel_rfl) (fun a hF => ?_)
    have hS : Sep w0 B (w.alloc (.cells (List.toArray (([] : List Value) ++ (arr1 (Value.int .i64) (0 : Int) 2 (List.replicate 2 (0 : Int)) ++ ([] : List Value)))) 23)) (blk w.heap.size 23 (List.toArray (([] : List Value) ++ (arr1 (Value.int .i64) (0 : Int) 2 (List.replicate 2 (0 : Int)) ++ ([] : List Value)))) :: (blk g2 119 (List.toArray (([] : List Value) ++ (arr1 (Value.int .i64) (0 : Int) 7 ([0, 1, 3, 3, 5, 9, 0] : List Int) ++ ([] : List Value)))) :: blk g1 36 #[.slice A1 p1.length c1, .int .i64 p2, .int .i64 p3, .int .i64 p4, .int .i64 p5, .int .i64 p6] :: fs)) := hS.box 23 (List.toArray (([] : List Value) ++ (arr1 (Value.int .i64) (0 : Int) 2 (List.replicate 2 (0 : Int)) ++ ([] : List Value))))
    generalize w.heap.size = g3 at hF hS
    generalize w.alloc (.cells (List.toArray (([] : List Value) ++ (arr1 (Value.int .i64) (0 : Int) 2 (List.replicate 2 (0 : Int)) ++ ([] : List Value)))) 23) = w at hS ⊢
    refine at_end [1, 5, 6, 7, 8, 9] [pl 1 (.pointer (some ⟨g1, 0, none⟩)), pl 5 (.pointer (some ⟨g2, 0, none⟩)), pl 6 (.int .i64 0), pl 7 (.int .i64 0), pl 8 (.int .i64 0), pl 9 (.pointer (some ⟨g3, 0, none⟩))] hF rfl (by kernel_rfl) (fun hF => ?_)
    refine then_n ?_
    refine seq_cut (fun a w => ∃ (sum2 : Int) (great2 : Int) (knights2 : Int) (bishops2 : List Int), Fr 90 [pl 6 (.int .i64 sum2), pl 7 (.int .i64 great2), pl 8 (.int .i64 knights2), pl 9 (.pointer (some ⟨g3, 0, none⟩))] a ∧ Sep w0 B w (blk g3 23 (List.toArray (([] : List Value) ++ (arr1 (Value.int .i64) (0 : Int) 2 bishops2 ++ ([] : List Value)))) :: fs) ∧ (chess_Material_J2 sum2 great2 knights2 bishops2).bind some = some r) ?_ ?_
    · rintro a w ⟨sum2, great2, knights2, bishops2, hF, hS, hm⟩
      unfold chess_Material_J2 at hm
      obtain ⟨hp7, hm⟩ := asrt_b hm
      obtain ⟨hp8, hm⟩ := asrt_b hm
      obtain ⟨hp9, hm⟩ := asrt_b hm
      obtain ⟨hp10, hm⟩ := asrt_b hm
      refine reg [⟨true, [], vS (Instr.indexAt 23 (.pointer (some ⟨g3, 0, none⟩)) (.int .i64 0)), .pointer (some ((⟨g3, 0, none⟩ : Addr).add (Int.toNat 0 * 1)))⟩, ⟨false, [], vS (Instr.loadAt 3 (.pointer (some ((⟨g3, 0, none⟩ : Addr).add (Int.toNat 0 * 1))))), .int .i64 (geti bishops2 0)⟩, ⟨true, [], vS (Instr.indexAt 23 (.pointer (some ⟨g3, 0, none⟩)) (.int .i64 1)), .pointer (some ((⟨g3, 0, none⟩ : Addr).add (Int.toNat 1 * 1)))⟩, ⟨false, [], vS (Instr.loadAt 3 (.pointer (some ((⟨g3, 0, none⟩ : Addr).add (Int.toNat 1 * 1))))), .int .i64 (geti bishops2 1)⟩, ⟨true, [((knights2 == 0), true), (decide ((w64 ((w64 (knights2 + (geti bishops2 0))) + (geti bishops2 1))) ≤ 1), false)], vS (Instr.indexAt 23 (.pointer (some ⟨g3, 0, none⟩)) (.int .i64 0)), .pointer (some ((⟨g3, 0, none⟩ : Addr).add (Int.toNat 0 * 1)))⟩, ⟨false, [((knights2 == 0), true), (decide ((w64 ((w64 (knights2 + (geti bishops2 0))) + (geti bishops2 1))) ≤ 1), false)], vS (Instr.loadAt 3 (.pointer (some ((⟨g3, 0, none⟩ : Addr).add (Int.toNat 0 * 1))))), .int .i64 (geti bishops2 0)⟩, ⟨true, [((knights2 == 0), true), (decide ((w64 ((w64 (knights2 + (geti bishops2 0))) + (geti bishops2 1))) ≤ 1), false)], vS (Instr.indexAt 23 (.pointer (some ⟨g3, 0, none⟩)) (.int .i64 1)), .pointer (some ((⟨g3, 0, none⟩ : Addr).add (Int.toNat 1 * 1)))⟩, ⟨false, [((knights2 == 0), true), (decide ((w64 ((w64 (knights2 + (geti bishops2 0))) + (geti bishops2 1))) ≤ 1), false)], vS (Instr.loadAt 3 (.pointer (some ((⟨g3, 0, none⟩ : Addr).add (Int.toNat 1 * 1))))), .int .i64 (geti bishops2 1)⟩, ⟨true, [((knights2 == 0), true), (decide ((w64 ((w64 (knights2 + (geti bishops2 0))) + (geti bishops2 1))) ≤ 1), false)], vS (Builtin.min_ #[3, 3] 3 #[.int .i64 (geti bishops2 0), .int .i64 (geti bishops2 1)]), .int .i64 (minI (geti bishops2 0) (geti bishops2 1))⟩] [none, some (.pointer (some ((⟨g3, 0, none⟩ : Addr).add (Int.toNat 0 * 1)))), some (.int .i64 (geti bishops2 0)), none, some (.pointer (some ((⟨g3, 0, none⟩ : Addr).add (Int.toNat 1 * 1)))), some (.int .i64 (geti bishops2 1)), none, none, none, none, none, none, some (.pointer (some ((⟨g3, 0, none⟩ : Addr).add (Int.toNat 0 * 1)))), some (.int .i64 (geti bishops2 0)), some (.pointer (some ((⟨g3, 0, none⟩ : Addr).add (Int.toNat 1 * 1)))), some (.int .i64 (geti bishops2 1)), some (.int .i64 (minI (geti bishops2 0) (geti bishops2 1))), none, none, none, none] [6, 7, 13] [pl 6 (.int .i64 sum2), pl 7 (.int .i64 great2), pl 13 (.bool ((decide ((w64 ((w64 (knights2 + (geti bishops2 0))) + (geti bishops2 1))) ≤ 1)) || ((knights2 == 0) && ((minI (geti bishops2 0) (geti bishops2 1)) == 0))))] hF hS Fol (by kernel_rfl) (by kernel_rfl) (by kernel_rfl) ?_ (fun a w hF hS => ?_)
      · exact obs_cons (ob_ixA UndA23 hi3 hs3 (fun _ => hp7)) <| obs_cons (ob_getA (m := bishops2) (Value.int .i64) (0 : Int) 2 ([] : List Value) ([] : List Value) 0 Agg3 rfl (fun _ hS => ⟨_, _, _, _, _, hS.at_ 0 rfl⟩) (fun hy => by have h0 := hp7; omega)) <| obs_cons (ob_ixA UndA23 hi3 hs3 (fun _ => hp8)) <| obs_cons (ob_getA (m := bishops2) (Value.int .i64) (0 : Int) 2 ([] : List Value) ([] : List Value) 1 Agg3 rfl (fun _ hS => ⟨_, _, _, _, _, hS.at_ 0 rfl⟩) (fun hy => by have h0 := hp8; omega)) <| obs_cons (ob_ixA UndA23 hi3 hs3 (fun hy => hp9 (hy ((knights2 == 0), true) (by simp)) (hy (decide ((w64 ((w64 (knights2 + (geti bishops2 0))) + (geti bishops2 1))) ≤ 1), false) (by simp)))) <| obs_cons (ob_getA (m := bishops2) (Value.int .i64) (0 : Int) 2 ([] : List Value) ([] : List Value) 0 Agg3 rfl (fun _ hS => ⟨_, _, _, _, _, hS.at_ 0 rfl⟩) (fun hy => by have h0 := hp9 (hy ((knights2 == 0), true) (by simp)) (hy (decide ((w64 ((w64 (knights2 + (geti bishops2 0))) + (geti bishops2 1))) ≤ 1), false) (by simp)); omega)) <| obs_cons (ob_ixA UndA23 hi3 hs3 (fun hy => hp10 (hy ((knights2 == 0), true) (by simp)) (hy (decide ((w64 ((w64 (knights2 + (geti bishops2 0))) + (geti bishops2 1))) ≤ 1), false) (by simp)))) <| obs_cons (ob_getA (m := bishops2) (Value.int .i64) (0 : Int) 2 ([] : List Value) ([] : List Value) 1 Agg3 rfl (fun _ hS => ⟨_, _, _, _, _, hS.at_ 0 rfl⟩) (fun hy => by have h0 := hp10 (hy ((knights2 == 0), true) (by simp)) (hy (decide ((w64 ((w64 (knights2 + (geti bishops2 0))) + (geti bishops2 1))) ≤ 1), false) (by simp)); omega)) <| obs_cons (ob_min rfl) <| obs_nil
      refine reg [] [] [2, 3, 4] [pl 2 (.int .i64 sum2), pl 3 (.bool ((great2 == 0) && ((decide ((w64 ((w64 (knights2 + (geti bishops2 0))) + (geti bishops2 1))) ≤ 1)) || ((knights2 == 0) && ((minI (geti bishops2 0) (geti bishops2 1)) == 0))))), pl 4 (.int .i64 0)] hF hS Fol (by kernel_rfl) (by kernel_rfl) (by kernel_rfl) ?_ (fun a w hF hS => ?_)
      · exact obs_nil
      refine wpIn_ret ?_
      have hS := hS.pickN 1 [] (by decide)
      have hm : some (sum2, ((great2 == 0) && ((decide ((w64 ((w64 (knights2 + (geti bishops2 0))) + (geti bishops2 1))) ≤ 1)) || ((knights2 == 0) && ((minI (geti bishops2 0) (geti bishops2 1)) == 0)))), 0) = some r := hm
      obtain rfl := Option.some.inj hm
      exact retV (rs := [.tmp 2, .tmp 3, .tmp 4]) (vs := [.int .i64 sum2, .bool ((great2 == 0) && ((decide ((w64 ((w64 (knights2 + (geti bishops2 0))) + (geti bishops2 1))) ≤ 1)) || ((knights2 == 0) && ((minI (geti bishops2 0) (geti bishops2 1)) == 0)))), .int .i64 0]) hF rfl (rv_t (by kernel_rfl) <| rv_t (by kernel_rfl) <| rv_t (by kernel_rfl) <| rv_nil) rfl ⟨rfl, hS⟩
    · refine reg [⟨false, [], vS (Instr.loadAt 34 (.pointer (some ⟨g1, 0, none⟩))), .slice A1 p1.length c1⟩] [none, some (.slice A1 p1.length c1), none, none] [5, 6, 7, 8, 9, 19, 20, 21] [pl 5 (.pointer (some ⟨g2, 0, none⟩)), pl 6 (.int .i64 0), pl 7 (.int .i64 0), pl 8 (.int .i64 0), pl 9 (.pointer (some ⟨g3, 0, none⟩)), pl 19 (.slice A1 p1.length c1), pl 20 (.int .i64 (p1.length : Int)), pl 21 (.int .i64 0)] hF hS Fol (by kernel_rfl) (by kernel_rfl) (by kernel_rfl) ?_ (fun a w hF hS => ?_)
      · exact obs_cons (ob_load Agg34 (fun _ _ hS => (hS.at_ 2 rfl).cell rfl)) <| obs_nil
      refine wpIn_block ?_
      have hS := hS.pickN 3 [1, 0] (by decide)
      refine wp_loop_model (S := (Int × Int × Int × List Int × Int)) (R := (Int × Int × Int × List Int)) (chess_Material_L1 p1) (fun x => (chess_Material_K1 x).bind some) r (fun (x : (Int × Int × Int × List Int × Int)) a w => Fr 90 [pl 5 (.pointer (some ⟨g2, 0, none⟩)), pl 6 (.int .i64 x.1), pl 7 (.int .i64 x.2.1), pl 8 (.int .i64 x.2.2.1), pl 9 (.pointer (some ⟨g3, 0, none⟩)), pl 19 (.slice A1 p1.length c1), pl 20 (.int .i64 (p1.length : Int)), pl 21 (.int .i64 x.2.2.2.2)] a ∧ Sep w0 B w (blk g2 119 (List.toArray (([] : List Value) ++ (arr1 (Value.int .i64) (0 : Int) 7 ([0, 1, 3, 3, 5, 9, 0] : List Int) ++ ([] : List Value)))) :: blk g3 23 (List.toArray (([] : List Value) ++ (arr1 (Value.int .i64) (0 : Int) 2 x.2.2.2.1 ++ ([] : List Value)))) :: fs)) (assoc_b hm) ⟨hF.weak [5, 6, 7, 8, 9, 19, 20, 21] (by kernel_rfl), hS⟩ ?_
      clear hF hS hm
      rintro nn1 ⟨sum1, great1, knights1, bishops1, z1⟩ a w ⟨hF, hS⟩ hm
      generalize hφ1 : stK (chess_Material_L1 p1) nn1 (fun x => (chess_Material_K1 x).bind some) = φ1 at hm
      unfold chess_Material_L1 at hm
      dsimp only at hF hS hm
      refine reg [] [] [5, 6, 7, 8, 9, 19, 20, 21, 22] [pl 5 (.pointer (some ⟨g2, 0, none⟩)), pl 6 (.int .i64 sum1), pl 7 (.int .i64 great1), pl 8 (.int .i64 knights1), pl 9 (.pointer (some ⟨g3, 0, none⟩)), pl 19 (.slice A1 p1.length c1), pl 20 (.int .i64 (p1.length : Int)), pl 21 (.int .i64 z1), pl 22 (.bool (decide (z1 < (p1.length : Int))))] hF hS Fol (by kernel_rfl) (by kernel_rfl) (by kernel_rfl) ?_ (fun a w hF hS => ?_)
      · exact obs_nil
      refine seq_cut (fun a w => Fr 90 [pl 5 (.pointer (some ⟨g2, 0, none⟩)), pl 6 (.int .i64 sum1), pl 7 (.int .i64 great1), pl 8 (.int .i64 knights1), pl 9 (.pointer (some ⟨g3, 0, none⟩)), pl 19 (.slice A1 p1.length c1), pl 20 (.int .i64 (p1.length : Int)), pl 21 (.int .i64 z1)] a ∧ Sep w0 B w (blk g2 119 (List.toArray (([] : List Value) ++ (arr1 (Value.int .i64) (0 : Int) 7 ([0, 1, 3, 3, 5, 9, 0] : List Int) ++ ([] : List Value)))) :: blk g3 23 (List.toArray (([] : List Value) ++ (arr1 (Value.int .i64) (0 : Int) 2 bishops1 ++ ([] : List Value)))) :: fs) ∧ ((chess_Material_J3 p1 sum1 great1 knights1 bishops1 z1)).bind φ1 = some r) ?_ ?_
      · rintro a w ⟨hF, hS, hm⟩
        unfold chess_Material_J3 at hm
        refine seq_cut (fun a w => ∃ (sum4 : Int) (great3 : Int) (knights3 : Int) (bishops3 : List Int), Fr 90 [pl 5 (.pointer (some ⟨g2, 0, none⟩)), pl 6 (.int .i64 sum4), pl 7 (.int .i64 great3), pl 8 (.int .i64 knights3), pl 9 (.pointer (some ⟨g3, 0, none⟩)), pl 19 (.slice A1 p1.length c1), pl 20 (.int .i64 (p1.length : Int)), pl 21 (.int .i64 z1)] a ∧ Sep w0 B w (blk g2 119 (List.toArray (([] : List Value) ++ (arr1 (Value.int .i64) (0 : Int) 7 ([0, 1, 3, 3, 5, 9, 0] : List Int) ++ ([] : List Value)))) :: blk g3 23 (List.toArray (([] : List Value) ++ (arr1 (Value.int .i64) (0 : Int) 2 bishops3 ++ ([] : List Value)))) :: fs) ∧ ((chess_Material_J4 z1) sum4 great3 knights3 bishops3).bind φ1 = some r) ?_ ?_
        · rintro a w ⟨sum4, great3, knights3, bishops3, hF, hS, hm⟩
          unfold chess_Material_J4 at hm
          refine reg1 [] [] [5, 6, 7, 8, 9, 19, 20, 21] [pl 5 (.pointer (some ⟨g2, 0, none⟩)), pl 6 (.int .i64 sum4), pl 7 (.int .i64 great3), pl 8 (.int .i64 knights3), pl 9 (.pointer (some ⟨g3, 0, none⟩)), pl 19 (.slice A1 p1.length c1), pl 20 (.int .i64 (p1.length : Int)), pl 21 (.int .i64 (w64 (z1 + 1)))] hF hS Fol (by kernel_rfl) (by kernel_rfl) (by kernel_rfl) ?_ (fun a w hF hS => ?_)
          · exact obs_nil
          refine then_n ?_
          rw [← hφ1] at hm
          exact ⟨(sum4, great3, knights3, bishops3, (w64 (z1 + 1))), ⟨hF.weak [5, 6, 7, 8, 9, 19, 20, 21] (by kernel_rfl), hS⟩, hm⟩
        · refine wpIn_block ?_
          obtain ⟨hp1, hm⟩ := asrt_b hm
          refine reg [⟨true, [], vS (Instr.indexAt 34 (.slice A1 p1.length c1) (.int .i64 z1)), .pointer (some (sAddr A1 z1))⟩, ⟨false, [], vS (Instr.loadAt 3 (.pointer (some (sAddr A1 z1)))), .int .i64 (geti p1 z1)⟩] [none, some (.pointer (some (sAddr A1 z1))), some (.int .i64 (geti p1 z1)), none, none] [5, 6, 7, 8, 9, 10, 11, 19, 20, 21] [pl 5 (.pointer (some ⟨g2, 0, none⟩)), pl 6 (.int .i64 sum1), pl 7 (.int .i64 great1), pl 8 (.int .i64 knights1), pl 9 (.pointer (some ⟨g3, 0, none⟩)), pl 10 (.int .i64 z1), pl 11 (.int .i64 (geti p1 z1)), pl 19 (.slice A1 p1.length c1), pl 20 (.int .i64 (p1.length : Int)), pl 21 (.int .i64 z1)] hF hS Fol (by kernel_rfl) (by kernel_rfl) (by kernel_rfl) ?_ (fun a w hF hS => ?_)
          · exact obs_cons (ob_ix1 (f := (Value.int .i64)) (m := p1) Und34 hi3 hs3 (hr_p1 _ (hS.dropN 2)) rfl (fun _ => hp1)) <| obs_cons (ob_get1 (n := p1.length) (m := p1) (Value.int .i64) (0 : Int) Agg3 (fun _ hS => ⟨_, (hr_p1 _ (hS.dropN 2))⟩) (fun _ hS => rfl) (fun _ => hp1)) <| obs_nil
          obtain ⟨r2, hr2, hm⟩ := call_b hm
          refine reg [⟨false, [], callFunc 79 #[.int .i64 (geti p1 z1)], .int .i64 r2⟩] [none, some (.int .i64 r2), none] [5, 6, 7, 8, 9, 10, 11, 12, 19, 20, 21] [pl 5 (.pointer (some ⟨g2, 0, none⟩)), pl 6 (.int .i64 sum1), pl 7 (.int .i64 great1), pl 8 (.int .i64 knights1), pl 9 (.pointer (some ⟨g3, 0, none⟩)), pl 10 (.int .i64 z1), pl 11 (.int .i64 (geti p1 z1)), pl 12 (.int .i64 r2), pl 19 (.slice A1 p1.length c1), pl 20 (.int .i64 (p1.length : Int)), pl 21 (.int .i64 z1)] hF hS Fol (by kernel_rfl) (by kernel_rfl) (by kernel_rfl) ?_ (fun a w hF hS => ?_)
          · exact obs_cons (ob_call Try.func79 (by kernel_rfl) rfl (fun _ _ hS => board_Kind_w hr2 hS )) <| obs_nil
          refine seq_cut (fun a w => ∃ (sum3 : Int), Fr 90 [pl 5 (.pointer (some ⟨g2, 0, none⟩)), pl 6 (.int .i64 sum3), pl 7 (.int .i64 great1), pl 8 (.int .i64 knights1), pl 9 (.pointer (some ⟨g3, 0, none⟩)), pl 10 (.int .i64 z1), pl 12 (.int .i64 r2), pl 19 (.slice A1 p1.length c1), pl 20 (.int .i64 (p1.length : Int)), pl 21 (.int .i64 z1)] a ∧ Sep w0 B w (blk g2 119 (List.toArray (([] : List Value) ++ (arr1 (Value.int .i64) (0 : Int) 7 ([0, 1, 3, 3, 5, 9, 0] : List Int) ++ ([] : List Value)))) :: blk g3 23 (List.toArray (([] : List Value) ++ (arr1 (Value.int .i64) (0 : Int) 2 bishops1 ++ ([] : List Value)))) :: fs) ∧ ((chess_Material_J5 great1 knights1 bishops1 z1 r2) sum3).bind φ1 = some r) ?_ ?_
          · rintro a w ⟨sum3, hF, hS, hm⟩
            unfold chess_Material_J5 at hm
            refine reg [] [] [5, 6, 7, 8, 9, 10, 19, 20, 21, 40] [pl 5 (.pointer (some ⟨g2, 0, none⟩)), pl 6 (.int .i64 sum3), pl 7 (.int .i64 great1), pl 8 (.int .i64 knights1), pl 9 (.pointer (some ⟨g3, 0, none⟩)), pl 10 (.int .i64 z1), pl 19 (.slice A1 p1.length c1), pl 20 (.int .i64 (p1.length : Int)), pl 21 (.int .i64 z1), pl 40 (.int .i64 r2)] hF hS Fol (by kernel_rfl) (by kernel_rfl) (by kernel_rfl) ?_ (fun a w hF hS => ?_)
            · exact obs_nil
            refine wpIn_block ?_
            refine seq_cut (fun a w => ∃ (z2 : Bool), Fr 90 [pl 5 (.pointer (some ⟨g2, 0, none⟩)), pl 6 (.int .i64 sum3), pl 7 (.int .i64 great1), pl 8 (.int .i64 knights1), pl 9 (.pointer (some ⟨g3, 0, none⟩)), pl 10 (.int .i64 z1), pl 19 (.slice A1 p1.length c1), pl 20 (.int .i64 (p1.length : Int)), pl 21 (.int .i64 z1), pl 40 (.int .i64 r2), pl 41 (.bool z2)] a ∧ Sep w0 B w (blk g2 119 (List.toArray (([] : List Value) ++ (arr1 (Value.int .i64) (0 : Int) 7 ([0, 1, 3, 3, 5, 9, 0] : List Int) ++ ([] : List Value)))) :: blk g3 23 (List.toArray (([] : List Value) ++ (arr1 (Value.int .i64) (0 : Int) 2 bishops1 ++ ([] : List Value)))) :: fs) ∧ ((chess_Material_J6 great1 knights1 bishops1 z1 r2 sum3) z2).bind φ1 = some r) ?_ ?_
            · rintro a w ⟨z2, hF, hS, hm⟩
              unfold chess_Material_J6 at hm
              refine cond_ev (t := 41) (b := z2) hF (by kernel_rfl) (fun hb => ?_) (fun hb => ?_)
              · replace hm := if_t hm hb
                refine reg1 [] [] [5, 6, 7, 8, 9, 19, 20, 21] [pl 5 (.pointer (some ⟨g2, 0, none⟩)), pl 6 (.int .i64 sum3), pl 7 (.int .i64 (w64 (great1 + 1))), pl 8 (.int .i64 knights1), pl 9 (.pointer (some ⟨g3, 0, none⟩)), pl 19 (.slice A1 p1.length c1), pl 20 (.int .i64 (p1.length : Int)), pl 21 (.int .i64 z1)] hF hS Fol (by kernel_rfl) (by kernel_rfl) (by kernel_rfl) ?_ (fun a w hF hS => ?_)
                · exact obs_nil
                refine block_n ?_
                refine block_n ?_
                refine then_n ?_
                exact ⟨sum3, (w64 (great1 + 1)), knights1, bishops1, hF.weak [5, 6, 7, 8, 9, 19, 20, 21] (by kernel_rfl), hS, hm⟩
              · replace hm := if_f hm hb
                refine reg [] [] [5, 6, 7, 8, 9, 10, 19, 20, 21, 40, 47] [pl 5 (.pointer (some ⟨g2, 0, none⟩)), pl 6 (.int .i64 sum3), pl 7 (.int .i64 great1), pl 8 (.int .i64 knights1), pl 9 (.pointer (some ⟨g3, 0, none⟩)), pl 10 (.int .i64 z1), pl 19 (.slice A1 p1.length c1), pl 20 (.int .i64 (p1.length : Int)), pl 21 (.int .i64 z1), pl 40 (.int .i64 r2), pl 47 (.bool (r2 == 2))] hF hS Fol (by kernel_rfl) (by kernel_rfl) (by kernel_rfl) ?_ (fun a w hF hS => ?_)
                · exact obs_nil
                refine cond_ev (t := 47) (b := (r2 == 2)) hF (by kernel_rfl) (fun hb => ?_) (fun hb => ?_)
                · replace hm := if_t hm hb
                  refine reg1 [] [] [5, 6, 7, 8, 9, 19, 20, 21] [pl 5 (.pointer (some ⟨g2, 0, none⟩)), pl 6 (.int .i64 sum3), pl 7 (.int .i64 great1), pl 8 (.int .i64 (w64 (knights1 + 1))), pl 9 (.pointer (some ⟨g3, 0, none⟩)), pl 19 (.slice A1 p1.length c1), pl 20 (.int .i64 (p1.length : Int)), pl 21 (.int .i64 z1)] hF hS Fol (by kernel_rfl) (by kernel_rfl) (by kernel_rfl) ?_ (fun a w hF hS => ?_)
                  · exact obs_nil
                  refine block_n ?_
                  refine block_n ?_
                  refine then_n ?_
                  exact ⟨sum3, great1, (w64 (knights1 + 1)), bishops1, hF.weak [5, 6, 7, 8, 9, 19, 20, 21] (by kernel_rfl), hS, hm⟩
                · replace hm := if_f hm hb
                  refine reg [] [] [5, 6, 7, 8, 9, 10, 19, 20, 21, 51] [pl 5 (.pointer (some ⟨g2, 0, none⟩)), pl 6 (.int .i64 sum3), pl 7 (.int .i64 great1), pl 8 (.int .i64 knights1), pl 9 (.pointer (some ⟨g3, 0, none⟩)), pl 10 (.int .i64 z1), pl 19 (.slice A1 p1.length c1), pl 20 (.int .i64 (p1.length : Int)), pl 21 (.int .i64 z1), pl 51 (.bool (r2 == 3))] hF hS Fol (by kernel_rfl) (by kernel_rfl) (by kernel_rfl) ?_ (fun a w hF hS => ?_)
                  · exact obs_nil
                  refine cond_ev (t := 51) (b := (r2 == 3)) hF (by kernel_rfl) (fun hb => ?_) (fun hb => ?_)
                  · replace hm := if_t hm hb
                    refine oneR ?_
                    obtain ⟨hp4, hm⟩ := asrt_b hm
                    obtain ⟨hp5, hm⟩ := asrt_b hm
                    obtain ⟨hp6, hm⟩ := asrt_b hm
                    refine at_run 10 [⟨true, [], vS (Op.shift .shr .i64 z1 .u64 3), .int .i64 (shrK .i64 z1 3)⟩, ⟨true, [], vS (Instr.indexAt 23 (.pointer (some ⟨g3, 0, none⟩)) (.int .i64 (bAnd (w64 ((bAnd z1 7) + (shrK .i64 z1 3))) 1))), .pointer (some ((⟨g3, 0, none⟩ : Addr).add (Int.toNat (bAnd (w64 ((bAnd z1 7) + (shrK .i64 z1 3))) 1) * 1)))⟩, ⟨false, [], vS (Instr.loadAt 3 (.pointer (some ((⟨g3, 0, none⟩ : Addr).add (Int.toNat (bAnd (w64 ((bAnd z1 7) + (shrK .i64 z1 3))) 1) * 1))))), .int .i64 (geti bishops1 (bAnd (w64 ((bAnd z1 7) + (shrK .i64 z1 3))) 1))⟩, ⟨true, [], vS (Instr.indexAt 23 (.pointer (some ⟨g3, 0, none⟩)) (.int .i64 (bAnd (w64 ((bAnd z1 7) + (shrK .i64 z1 3))) 1))), .pointer (some ((⟨g3, 0, none⟩ : Addr).add (Int.toNat (bAnd (w64 ((bAnd z1 7) + (shrK .i64 z1 3))) 1) * 1)))⟩] [none, none, none, some (.int .i64 (shrK .i64 z1 3)), none, none, some (.pointer (some ((⟨g3, 0, none⟩ : Addr).add (Int.toNat (bAnd (w64 ((bAnd z1 7) + (shrK .i64 z1 3))) 1) * 1)))), some (.int .i64 (geti bishops1 (bAnd (w64 ((bAnd z1 7) + (shrK .i64 z1 3))) 1))), none, some (.pointer (some ((⟨g3, 0, none⟩ : Addr).add (Int.toNat (bAnd (w64 ((bAnd z1 7) + (shrK .i64 z1 3))) 1) * 1))))] [5, 6, 7, 8, 9, 19, 20, 21, 61, 62] [pl 5 (.pointer (some ⟨g2, 0, none⟩)), pl 6 (.int .i64 sum3), pl 7 (.int .i64 great1), pl 8 (.int .i64 knights1), pl 9 (.pointer (some ⟨g3, 0, none⟩)), pl 19 (.slice A1 p1.length c1), pl 20 (.int .i64 (p1.length : Int)), pl 21 (.int .i64 z1), pl 61 (.int .i64 (w64 ((geti bishops1 (bAnd (w64 ((bAnd z1 7) + (shrK .i64 z1 3))) 1)) + 1))), pl 62 (.pointer (some ((⟨g3, 0, none⟩ : Addr).add (Int.toNat (bAnd (w64 ((bAnd z1 7) + (shrK .i64 z1 3))) 1) * 1))))] hF hS (by kernel_rfl) (by kernel_rfl) ?_ (fun a w hF hS => ?_)
                    · exact obs_cons (ob_shr (fun _ => by decide)) <| obs_cons (ob_ixA UndA23 hi3 hs3 (fun _ => hp4)) <| obs_cons (ob_getA (m := bishops1) (Value.int .i64) (0 : Int) 2 ([] : List Value) ([] : List Value) (bAnd (w64 ((bAnd z1 7) + (shrK .i64 z1 3))) 1) Agg3 rfl (fun _ hS => ⟨_, _, _, _, _, hS.at_ 1 rfl⟩) (fun hy => by have h0 := hp4; omega)) <| obs_cons (ob_ixA UndA23 hi3 hs3 (fun _ => hp5)) <| obs_nil
                    obtain ⟨w, hrun, hS⟩ := run_setA (P := Try.prog) (t := 3) (x := (w64 ((geti bishops1 (bAnd (w64 ((bAnd z1 7) + (shrK .i64 z1 3))) 1)) + 1))) (i := (bAnd (w64 ((bAnd z1 7) + (shrK .i64 z1 3))) 1)) (m := bishops1) (d := Int.toNat (bAnd (w64 ((bAnd z1 7) + (shrK .i64 z1 3))) 1) * 1) (Value.int .i64) (0 : Int) 2 ([] : List Value) ([] : List Value) (hS.at_ 1 rfl) rfl hi3 hs3 rfl (by have h0 := hp5; omega) (by have h0 := hp5; have h9 := hp6; omega)
                    refine at_skip hF (by kernel_rfl) hrun ?_
                    have hS : Sep w0 B w (blk g2 119 (List.toArray (([] : List Value) ++ (arr1 (Value.int .i64) (0 : Int) 7 ([0, 1, 3, 3, 5, 9, 0] : List Int) ++ ([] : List Value)))) :: blk g3 23 (List.toArray (([] : List Value) ++ (arr1 (Value.int .i64) (0 : Int) 2 (bishops1.set (Int.toNat (bAnd (w64 ((bAnd z1 7) + (shrK .i64 z1 3))) 1)) (w64 ((geti bishops1 (bAnd (w64 ((bAnd z1 7) + (shrK .i64 z1 3))) 1)) + 1))) ++ ([] : List Value)))) :: fs) := hS
                    refine at_end [5, 6, 7, 8, 9, 19, 20, 21] [pl 5 (.pointer (some ⟨g2, 0, none⟩)), pl 6 (.int .i64 sum3), pl 7 (.int .i64 great1), pl 8 (.int .i64 knights1), pl 9 (.pointer (some ⟨g3, 0, none⟩)), pl 19 (.slice A1 p1.length c1), pl 20 (.int .i64 (p1.length : Int)), pl 21 (.int .i64 z1)] hF rfl (by kernel_rfl) (fun hF => ?_)
                    refine block_n ?_
                    refine block_n ?_
                    refine then_n ?_
                    exact ⟨sum3, great1, knights1, (bishops1.set (Int.toNat (bAnd (w64 ((bAnd z1 7) + (shrK .i64 z1 3))) 1)) (w64 ((geti bishops1 (bAnd (w64 ((bAnd z1 7) + (shrK .i64 z1 3))) 1)) + 1))), hF.weak [5, 6, 7, 8, 9, 19, 20, 21] (by kernel_rfl), hS, hm⟩
                  · replace hm := if_f hm hb
                    refine wpIn_skip ?_
                    refine block_n ?_
                    refine block_n ?_
                    refine then_n ?_
                    exact ⟨sum3, great1, knights1, bishops1, hF.weak [5, 6, 7, 8, 9, 19, 20, 21] (by kernel_rfl), hS, hm⟩
            · refine reg [] [] [5, 6, 7, 8, 9, 10, 19, 20, 21, 40, 41] [pl 5 (.pointer (some ⟨g2, 0, none⟩)), pl 6 (.int .i64 sum3), pl 7 (.int .i64 great1), pl 8 (.int .i64 knights1), pl 9 (.pointer (some ⟨g3, 0, none⟩)), pl 10 (.int .i64 z1), pl 19 (.slice A1 p1.length c1), pl 20 (.int .i64 (p1.length : Int)), pl 21 (.int .i64 z1), pl 40 (.int .i64 r2), pl 41 (.bool (r2 == 1))] hF hS Fol (by kernel_rfl) (by kernel_rfl) (by kernel_rfl) ?_ (fun a w hF hS => ?_)
              · exact obs_nil
              refine cond_ev (t := 41) (b := (r2 == 1)) hF (by kernel_rfl) (fun hb => ?_) (fun hb => ?_)
              · replace hm := if_t hm hb
                refine wpIn_skip ?_
                refine then_n ?_
                exact ⟨(r2 == 1), hF.weak [5, 6, 7, 8, 9, 10, 19, 20, 21, 40, 41] (by kernel_rfl), hS, hm⟩
              · replace hm := if_f hm hb
                refine reg [] [] [5, 6, 7, 8, 9, 10, 19, 20, 21, 40, 41] [pl 5 (.pointer (some ⟨g2, 0, none⟩)), pl 6 (.int .i64 sum3), pl 7 (.int .i64 great1), pl 8 (.int .i64 knights1), pl 9 (.pointer (some ⟨g3, 0, none⟩)), pl 10 (.int .i64 z1), pl 19 (.slice A1 p1.length c1), pl 20 (.int .i64 (p1.length : Int)), pl 21 (.int .i64 z1), pl 40 (.int .i64 r2), pl 41 (.bool (r2 == 4))] hF hS Fol (by kernel_rfl) (by kernel_rfl) (by kernel_rfl) ?_ (fun a w hF hS => ?_)
                · exact obs_nil
                refine cond_ev (t := 41) (b := (r2 == 4)) hF (by kernel_rfl) (fun hb => ?_) (fun hb => ?_)
                · replace hm := if_t hm hb
                  refine wpIn_skip ?_
                  refine then_n ?_
                  exact ⟨(r2 == 4), hF.weak [5, 6, 7, 8, 9, 10, 19, 20, 21, 40, 41] (by kernel_rfl), hS, hm⟩
                · replace hm := if_f hm hb
                  refine reg1 [] [] [5, 6, 7, 8, 9, 10, 19, 20, 21, 40, 41] [pl 5 (.pointer (some ⟨g2, 0, none⟩)), pl 6 (.int .i64 sum3), pl 7 (.int .i64 great1), pl 8 (.int .i64 knights1), pl 9 (.pointer (some ⟨g3, 0, none⟩)), pl 10 (.int .i64 z1), pl 19 (.slice A1 p1.length c1), pl 20 (.int .i64 (p1.length : Int)), pl 21 (.int .i64 z1), pl 40 (.int .i64 r2), pl 41 (.bool (r2 == 5))] hF hS Fol (by kernel_rfl) (by kernel_rfl) (by kernel_rfl) ?_ (fun a w hF hS => ?_)
                  · exact obs_nil
                  refine then_n ?_
                  exact ⟨(r2 == 5), hF.weak [5, 6, 7, 8, 9, 10, 19, 20, 21, 40, 41] (by kernel_rfl), hS, hm⟩
          · refine reg [] [] [5, 6, 7, 8, 9, 10, 12, 19, 20, 21, 29] [pl 5 (.pointer (some ⟨g2, 0, none⟩)), pl 6 (.int .i64 sum1), pl 7 (.int .i64 great1), pl 8 (.int .i64 knights1), pl 9 (.pointer (some ⟨g3, 0, none⟩)), pl 10 (.int .i64 z1), pl 12 (.int .i64 r2), pl 19 (.slice A1 p1.length c1), pl 20 (.int .i64 (p1.length : Int)), pl 21 (.int .i64 z1), pl 29 (.bool (decide ((0 : Int) < (geti p1 z1))))] hF hS Fol (by kernel_rfl) (by kernel_rfl) (by kernel_rfl) ?_ (fun a w hF hS => ?_)
            · exact obs_nil
            refine cond_ev (t := 29) (b := decide ((0 : Int) < (geti p1 z1))) hF (by kernel_rfl) (fun hb => ?_) (fun hb => ?_)
            · replace hm := if_t hm hb
              obtain ⟨hp2, hm⟩ := asrt_b hm
              refine reg1 [⟨true, [], vS (Instr.indexAt 119 (.pointer (some ⟨g2, 0, none⟩)) (.int .i64 r2)), .pointer (some ((⟨g2, 0, none⟩ : Addr).add (Int.toNat r2 * 1)))⟩, ⟨false, [], vS (Instr.loadAt 3 (.pointer (some ((⟨g2, 0, none⟩ : Addr).add (Int.toNat r2 * 1))))), .int .i64 (geti ([0, 1, 3, 3, 5, 9, 0] : List Int) r2)⟩] [none, none, some (.pointer (some ((⟨g2, 0, none⟩ : Addr).add (Int.toNat r2 * 1)))), some (.int .i64 (geti ([0, 1, 3, 3, 5, 9, 0] : List Int) r2)), none, none] [5, 6, 7, 8, 9, 10, 12, 19, 20, 21] [pl 5 (.pointer (some ⟨g2, 0, none⟩)), pl 6 (.int .i64 (w64 (sum1 + (geti ([0, 1, 3, 3, 5, 9, 0] : List Int) r2)))), pl 7 (.int .i64 great1), pl 8 (.int .i64 knights1), pl 9 (.pointer (some ⟨g3, 0, none⟩)), pl 10 (.int .i64 z1), pl 12 (.int .i64 r2), pl 19 (.slice A1 p1.length c1), pl 20 (.int .i64 (p1.length : Int)), pl 21 (.int .i64 z1)] hF hS Fol (by kernel_rfl) (by kernel_rfl) (by kernel_rfl) ?_ (fun a w hF hS => ?_)
              · exact obs_cons (ob_ixA UndA119 hi3 hs3 (fun _ => hp2)) <| obs_cons (ob_getA (m := ([0, 1, 3, 3, 5, 9, 0] : List Int)) (Value.int .i64) (0 : Int) 7 ([] : List Value) ([] : List Value) r2 Agg3 rfl (fun _ hS => ⟨_, _, _, _, _, hS.at_ 0 rfl⟩) (fun hy => by have h0 := hp2; omega)) <| obs_nil
              refine then_n ?_
              exact ⟨(w64 (sum1 + (geti ([0, 1, 3, 3, 5, 9, 0] : List Int) r2))), hF.weak [5, 6, 7, 8, 9, 10, 12, 19, 20, 21] (by kernel_rfl), hS, hm⟩
            · replace hm := if_f hm hb
              obtain ⟨hp3, hm⟩ := asrt_b hm
              refine reg1 [⟨true, [], vS (Instr.indexAt 119 (.pointer (some ⟨g2, 0, none⟩)) (.int .i64 r2)), .pointer (some ((⟨g2, 0, none⟩ : Addr).add (Int.toNat r2 * 1)))⟩, ⟨false, [], vS (Instr.loadAt 3 (.pointer (some ((⟨g2, 0, none⟩ : Addr).add (Int.toNat r2 * 1))))), .int .i64 (geti ([0, 1, 3, 3, 5, 9, 0] : List Int) r2)⟩] [none, none, some (.pointer (some ((⟨g2, 0, none⟩ : Addr).add (Int.toNat r2 * 1)))), some (.int .i64 (geti ([0, 1, 3, 3, 5, 9, 0] : List Int) r2)), none, none] [5, 6, 7, 8, 9, 10, 12, 19, 20, 21] [pl 5 (.pointer (some ⟨g2, 0, none⟩)), pl 6 (.int .i64 (w64 (sum1 - (geti ([0, 1, 3, 3, 5, 9, 0] : List Int) r2)))), pl 7 (.int .i64 great1), pl 8 (.int .i64 knights1), pl 9 (.pointer (some ⟨g3, 0, none⟩)), pl 10 (.int .i64 z1), pl 12 (.int .i64 r2), pl 19 (.slice A1 p1.length c1), pl 20 (.int .i64 (p1.length : Int)), pl 21 (.int .i64 z1)] hF hS Fol (by kernel_rfl) (by kernel_rfl) (by kernel_rfl) ?_ (fun a w hF hS => ?_)
              · exact obs_cons (ob_ixA UndA119 hi3 hs3 (fun _ => hp3)) <| obs_cons (ob_getA (m := ([0, 1, 3, 3, 5, 9, 0] : List Int)) (Value.int .i64) (0 : Int) 7 ([] : List Value) ([] : List Value) r2 Agg3 rfl (fun _ hS => ⟨_, _, _, _, _, hS.at_ 0 rfl⟩) (fun hy => by have h0 := hp3; omega)) <| obs_nil
              refine then_n ?_
              exact ⟨(w64 (sum1 - (geti ([0, 1, 3, 3, 5, 9, 0] : List Int) r2))), hF.weak [5, 6, 7, 8, 9, 10, 12, 19, 20, 21] (by kernel_rfl), hS, hm⟩
      · refine cond_ev (t := 22) (b := decide (z1 < (p1.length : Int))) hF (by kernel_rfl) (fun hb => ?_) (fun hb => ?_)
        · replace hm := if_t hm hb
          refine wpIn_skip ?_
          refine then_n ?_
          exact ⟨hF.weak [5, 6, 7, 8, 9, 19, 20, 21] (by kernel_rfl), hS, hm⟩
        · replace hm := if_f hm hb
          refine wpIn_exit ?_
          refine then_e (then_e (block_e (then_n ?_)))
          have hS := hS.pickN 2 [1] (by decide)
          rw [← hφ1] at hm
          replace hm := done_b hm
          unfold chess_Material_K1 at hm
          try dsimp only at hm
          have hm : (chess_Material_J2 sum1 great1 knights1 bishops1).bind some = some r := hm
          exact ⟨sum1, great1, knights1, bishops1, hF.weak [6, 7, 8, 9] (by kernel_rfl), hS, hm⟩
  · obtain ⟨r1, hr1, hm⟩ := call_b hm
    refine reg [⟨false, [], vS (Instr.loadAt 36 (.pointer (some ⟨g1, 0, none⟩))), .agg #[.slice A1 p1.length c1, .int .i64 p2, .int .i64 p3, .int .i64 p4, .int .i64 p5, .int .i64 p6]⟩, ⟨false, [], callFunc 75 #[.agg #[.slice A1 p1.length c1, .int .i64 p2, .int .i64 p3, .int .i64 p4, .int .i64 p5, .int .i64 p6]], .bool r1⟩] [some (.agg #[.slice A1 p1.length c1, .int .i64 p2, .int .i64 p3, .int .i64 p4, .int .i64 p5, .int .i64 p6]), some (.bool r1), none] [1, 16] [pl 1 (.pointer (some ⟨g1, 0, none⟩)), pl 16 (.bool (!r1))] hF hS Fol (by kernel_rfl) (by kernel_rfl) (by kernel_rfl) ?_ (fun a w hF hS => ?_)
    · exact obs_cons (ob_loadA (cs := #[.slice A1 p1.length c1, .int .i64 p2, .int .i64 p3, .int .i64 p4, .int .i64 p5, .int .i64 p6]) (by kernel_rfl) (by kernel_rfl) (fun _ _ hS => (hS.at_ 0 rfl).cellsAt 0 (by rfl))) <| obs_cons (ob_call Try.func75 (by kernel_rfl) rfl (fun _ _ hS => chess_May_w hr1 hS (fun _ hS => (hr_p1 _ (hS.dropN 1))) _hc_p1 rfl)) <| obs_nil
    refine cond_ev (t := 16) (b := !r1) hF (by kernel_rfl) (fun hb => ?_) (fun hb => ?_)
    · replace hm := if_t hm hb
      refine reg [] [] [2, 3, 4] [pl 2 (.int .i64 0), pl 3 (.bool false), pl 4 (.int .i64 12)] hF hS Fol (by kernel_rfl) (by kernel_rfl) (by kernel_rfl) ?_ (fun a w hF hS => ?_)
      · exact obs_nil
      refine wpIn_ret ?_
      refine then_r ?_
      have hS := hS.pickN 1 [] (by decide)
      have hm : some (0, false, 12) = some r := hm
      obtain rfl := Option.some.inj hm
      exact retV (rs := [.tmp 2, .tmp 3, .tmp 4]) (vs := [.int .i64 0, .bool false, .int .i64 12]) hF rfl (rv_t (by kernel_rfl) <| rv_t (by kernel_rfl) <| rv_t (by kernel_rfl) <| rv_nil) rfl ⟨rfl, hS⟩
    · replace hm := if_f hm hb
      refine wpIn_skip ?_
      refine then_n ?_
      exact ⟨hF.weak [1] (by kernel_rfl), hS, hm⟩

noncomputable def gameroomref_within_m  (n1 : Int) (low1 : Int) (high1 : Int) : Option Bool :=
  some ((decide (low1 ≤ n1)) && (decide (n1 ≤ high1)))

set_option maxRecDepth 100000 in
set_option maxHeartbeats 4000000 in
theorem gameroomref_within_w {n1 : Int} {low1 : Int} {high1 : Int} {r : Bool} {w0 w : World} {B : Nat} {fs : List HP} (hm : gameroomref_within_m n1 low1 high1 = some r) (hS : Sep w0 B w (fs)) :
    Calls Try.prog 74 #[.int .i64 n1, .int .i64 low1, .int .i64 high1] w fun e w' => e = .returned (.bool r) ∧ Sep w0 B w' (fs) := by
  unfold gameroomref_within_m at hm
  replace hm := start_b hm
  refine enter (l := [.int .i64 n1, .int .i64 low1, .int .i64 high1]) (n := 15) Try.func74 rfl rfl (by simp) (fun a hF => ?_)
  refine reg [] [] [0, 1, 2] [pl 0 (.int .i64 n1), pl 1 (.int .i64 low1), pl 2 (.int .i64 high1)] hF hS Fol (by kernel_rfl) (by kernel_rfl) (by kernel_rfl) ?_ (fun a w hF hS => ?_)
  · exact obs_nil
  refine reg [] [] [6] [pl 6 (.bool ((decide (low1 ≤ n1)) && (decide (n1 ≤ high1))))] hF hS Fol (by kernel_rfl) (by kernel_rfl) (by kernel_rfl) ?_ (fun a w hF hS => ?_)
  · exact obs_nil
  refine wpIn_ret ?_
  have hm : some ((decide (low1 ≤ n1)) && (decide (n1 ≤ high1))) = some r := hm
  obtain rfl := Option.some.inj hm
  exact retV (rs := [.tmp 6]) (vs := [.bool ((decide (low1 ≤ n1)) && (decide (n1 ≤ high1)))]) hF rfl (rv_t (by kernel_rfl) <| rv_nil) rfl ⟨rfl, hS⟩

noncomputable def gameroomref_size_J1  (n1 : Int) : Option Int :=
  some n1

noncomputable def gameroomref_size_m  (n1 : Int) : Option Int :=
  if (decide (n1 < 0)) then (some (w64 (0 - n1))) else ((gameroomref_size_J1 n1))

set_option maxRecDepth 100000 in
set_option maxHeartbeats 4000000 in
theorem gameroomref_size_w {n1 : Int} {r : Int} {w0 w : World} {B : Nat} {fs : List HP} (hm : gameroomref_size_m n1 = some r) (hS : Sep w0 B w (fs)) :
    Calls Try.prog 80 #[.int .i64 n1] w fun e w' => e = .returned (.int .i64 r) ∧ Sep w0 B w' (fs) := by
  unfold gameroomref_size_m at hm
  replace hm := start_b hm
  refine enter (l := [.int .i64 n1]) (n := 8) Try.func80 rfl rfl (by simp) (fun a hF => ?_)
  refine reg [] [] [0] [pl 0 (.int .i64 n1)] hF hS Fol (by kernel_rfl) (by kernel_rfl) (by kernel_rfl) ?_ (fun a w hF hS => ?_)
  · exact obs_nil
  refine seq_cut (fun a w => Fr 8 [pl 0 (.int .i64 n1)] a ∧ Sep w0 B w (fs) ∧ ((gameroomref_size_J1 n1)).bind some = some r) ?_ ?_
  · rintro a w ⟨hF, hS, hm⟩
    unfold gameroomref_size_J1 at hm
    refine reg [] [] [2] [pl 2 (.int .i64 n1)] hF hS Fol (by kernel_rfl) (by kernel_rfl) (by kernel_rfl) ?_ (fun a w hF hS => ?_)
    · exact obs_nil
    refine wpIn_ret ?_
    have hm : some n1 = some r := hm
    obtain rfl := Option.some.inj hm
    exact retV (rs := [.tmp 2]) (vs := [.int .i64 n1]) hF rfl (rv_t (by kernel_rfl) <| rv_nil) rfl ⟨rfl, hS⟩
  · refine reg [] [] [0, 4] [pl 0 (.int .i64 n1), pl 4 (.bool (decide (n1 < 0)))] hF hS Fol (by kernel_rfl) (by kernel_rfl) (by kernel_rfl) ?_ (fun a w hF hS => ?_)
    · exact obs_nil
    refine cond_ev (t := 4) (b := decide (n1 < 0)) hF (by kernel_rfl) (fun hb => ?_) (fun hb => ?_)
    · replace hm := if_t hm hb
      refine reg [] [] [2] [pl 2 (.int .i64 (w64 (0 - n1)))] hF hS Fol (by kernel_rfl) (by kernel_rfl) (by kernel_rfl) ?_ (fun a w hF hS => ?_)
      · exact obs_nil
      refine wpIn_ret ?_
      refine then_r ?_
      have hm : some (w64 (0 - n1)) = some r := hm
      obtain rfl := Option.some.inj hm
      exact retV (rs := [.tmp 2]) (vs := [.int .i64 (w64 (0 - n1))]) hF rfl (rv_t (by kernel_rfl) <| rv_nil) rfl ⟨rfl, hS⟩
    · replace hm := if_f hm hb
      refine wpIn_skip ?_
      refine then_n ?_
      exact ⟨hF.weak [0] (by kernel_rfl), hS, hm⟩

noncomputable def gameroomref_at_J3  (i1 : Int) : Option (St Int (Fl Unit Int)) :=
  some (.next (w64 (i1 + 1)))

noncomputable def gameroomref_at_J2  (l1 : List Int) (n2 : Int) (i1 : Int) : Option (St Int (Fl Unit Int)) :=
  asrt (0 ≤ i1 ∧ i1 < (l1.length : Int)) <| if ((geti l1 i1) == n2) then (some (.done (.ret i1))) else ((gameroomref_at_J3 i1))

noncomputable def gameroomref_at_J1  : Option Int :=
  some (-1)

noncomputable def gameroomref_at_K1  : (Fl Unit Int) → Option Int :=
  fun (x : (Fl Unit Int)) => match x with | .go _ => gameroomref_at_J1 | .ret x => some x

noncomputable def gameroomref_at_L1  (l1 : List Int) (n2 : Int) : Int → Option (St Int (Fl Unit Int)) :=
  fun (x : Int) => match x with | i1 => if (decide (i1 < (l1.length : Int))) then ((gameroomref_at_J2 l1 n2 i1)) else (some (.done (.go ())))

noncomputable def gameroomref_at_m  (l1 : List Int) (n2 : Int) : Option Int :=
  (loop (gameroomref_at_L1 l1 n2) 0).bind gameroomref_at_K1

set_option maxRecDepth 100000 in
set_option maxHeartbeats 4000000 in
theorem gameroomref_at_w {A1 : Option Addr} {c1 : Nat} {n1 : Nat} {l1 : List Int} {n2 : Int} {r : Int} {w0 w : World} {B : Nat} {fs : List HP} (hm : gameroomref_at_m l1 n2 = some r) (hS : Sep w0 B w (fs)) (hr_l1 : RdF w0 B fs A1 (vI l1)) (_hc_l1 : l1.length ≤ c1) (_hn_l1 : n1 = l1.length) :
    Calls Try.prog 82 #[.slice A1 n1 c1, .int .i64 n2] w fun e w' => e = .returned (.int .i64 r) ∧ Sep w0 B w' (fs) := by
  obtain ⟨i3, hi3, hz3, hs3, hb3⟩ := info_parts Info3
  obtain rfl := _hn_l1
  unfold gameroomref_at_m at hm
  replace hm := start_b hm
  refine enter (l := [.slice A1 l1.length c1, .int .i64 n2]) (n := 19) Try.func82 rfl rfl (by simp) (fun a hF => ?_)
  refine reg [] [] [0, 1] [pl 0 (.slice A1 l1.length c1), pl 1 (.int .i64 n2)] hF hS Fol (by kernel_rfl) (by kernel_rfl) (by kernel_rfl) ?_ (fun a w hF hS => ?_)
  · exact obs_nil
  refine seq_cut (fun a w => Fr 19 [] a ∧ Sep w0 B w (fs) ∧ (gameroomref_at_J1).bind some = some r) ?_ ?_
  · rintro a w ⟨hF, hS, hm⟩
    unfold gameroomref_at_J1 at hm
    refine reg [] [] [4] [pl 4 (.int .i64 (-1))] hF hS Fol (by kernel_rfl) (by kernel_rfl) (by kernel_rfl) ?_ (fun a w hF hS => ?_)
    · exact obs_nil
    refine wpIn_ret ?_
    have hm : some (-1) = some r := hm
    obtain rfl := Option.some.inj hm
    exact retV (rs := [.tmp 4]) (vs := [.int .i64 (-1)]) hF rfl (rv_t (by kernel_rfl) <| rv_nil) rfl ⟨rfl, hS⟩
  · refine reg [] [] [0, 1, 5] [pl 0 (.slice A1 l1.length c1), pl 1 (.int .i64 n2), pl 5 (.int .i64 0)] hF hS Fol (by kernel_rfl) (by kernel_rfl) (by kernel_rfl) ?_ (fun a w hF hS => ?_)
    · exact obs_nil
    refine wpIn_block ?_
    refine wp_loop_model (S := Int) (R := (Fl Unit Int)) (gameroomref_at_L1 l1 n2) (fun x => (gameroomref_at_K1 x).bind some) r (fun (x : Int) a w => Fr 19 [pl 0 (.slice A1 l1.length c1), pl 1 (.int .i64 n2), pl 5 (.int .i64 x)] a ∧ Sep w0 B w (fs)) (assoc_b hm) ⟨hF.weak [0, 1, 5] (by kernel_rfl), hS⟩ ?_
    clear hF hS hm
    rintro nn1 i1 a w ⟨hF, hS⟩ hm
    generalize hφ1 : stK (gameroomref_at_L1 l1 n2) nn1 (fun x => (gameroomref_at_K1 x).bind some) = φ1 at hm
    unfold gameroomref_at_L1 at hm
    dsimp only at hm
    refine seq_cut (fun a w => Fr 19 [pl 0 (.slice A1 l1.length c1), pl 1 (.int .i64 n2), pl 5 (.int .i64 i1)] a ∧ Sep w0 B w (fs) ∧ ((gameroomref_at_J2 l1 n2 i1)).bind φ1 = some r) ?_ ?_
    · rintro a w ⟨hF, hS, hm⟩
      unfold gameroomref_at_J2 at hm
      refine seq_cut (fun a w => Fr 19 [pl 0 (.slice A1 l1.length c1), pl 1 (.int .i64 n2), pl 5 (.int .i64 i1)] a ∧ Sep w0 B w (fs) ∧ ((gameroomref_at_J3 i1)).bind φ1 = some r) ?_ ?_
      · rintro a w ⟨hF, hS, hm⟩
        unfold gameroomref_at_J3 at hm
        refine reg1 [] [] [0, 1, 5] [pl 0 (.slice A1 l1.length c1), pl 1 (.int .i64 n2), pl 5 (.int .i64 (w64 (i1 + 1)))] hF hS Fol (by kernel_rfl) (by kernel_rfl) (by kernel_rfl) ?_ (fun a w hF hS => ?_)
        · exact obs_nil
        refine then_n ?_
        rw [← hφ1] at hm
        exact ⟨(w64 (i1 + 1)), ⟨hF.weak [0, 1, 5] (by kernel_rfl), hS⟩, hm⟩
      · refine wpIn_block ?_
        obtain ⟨hp1, hm⟩ := asrt_b hm
        refine reg [⟨true, [], vS (Instr.indexAt 34 (.slice A1 l1.length c1) (.int .i64 i1)), .pointer (some (sAddr A1 i1))⟩, ⟨false, [], vS (Instr.loadAt 3 (.pointer (some (sAddr A1 i1)))), .int .i64 (geti l1 i1)⟩] [none, none, some (.pointer (some (sAddr A1 i1))), some (.int .i64 (geti l1 i1)), none, none] [0, 1, 5, 17] [pl 0 (.slice A1 l1.length c1), pl 1 (.int .i64 n2), pl 5 (.int .i64 i1), pl 17 (.bool ((geti l1 i1) == n2))] hF hS Fol (by kernel_rfl) (by kernel_rfl) (by kernel_rfl) ?_ (fun a w hF hS => ?_)
        · exact obs_cons (ob_ix1 (f := (Value.int .i64)) (m := l1) Und34 hi3 hs3 (hr_l1 _ (hS.dropN 0)) rfl (fun _ => hp1)) <| obs_cons (ob_get1 (n := l1.length) (m := l1) (Value.int .i64) (0 : Int) Agg3 (fun _ hS => ⟨_, (hr_l1 _ (hS.dropN 0))⟩) (fun _ hS => rfl) (fun _ => hp1)) <| obs_nil
        refine cond_ev (t := 17) (b := ((geti l1 i1) == n2)) hF (by kernel_rfl) (fun hb => ?_) (fun hb => ?_)
        · replace hm := if_t hm hb
          refine reg [] [] [4] [pl 4 (.int .i64 i1)] hF hS Fol (by kernel_rfl) (by kernel_rfl) (by kernel_rfl) ?_ (fun a w hF hS => ?_)
          · exact obs_nil
          refine wpIn_ret ?_
          refine block_r (then_r (then_r (block_r (then_r ?_))))
          rw [← hφ1] at hm
          replace hm := done_b hm
          unfold gameroomref_at_K1 at hm
          try dsimp only at hm
          have hm : some i1 = some r := hm
          obtain rfl := Option.some.inj hm
          exact retV (rs := [.tmp 4]) (vs := [.int .i64 i1]) hF rfl (rv_t (by kernel_rfl) <| rv_nil) rfl ⟨rfl, hS⟩
        · replace hm := if_f hm hb
          refine wpIn_skip ?_
          refine block_n ?_
          refine then_n ?_
          exact ⟨hF.weak [0, 1, 5] (by kernel_rfl), hS, hm⟩
    · refine reg [] [] [0, 1, 5, 9] [pl 0 (.slice A1 l1.length c1), pl 1 (.int .i64 n2), pl 5 (.int .i64 i1), pl 9 (.bool (decide (i1 < (l1.length : Int))))] hF hS Fol (by kernel_rfl) (by kernel_rfl) (by kernel_rfl) ?_ (fun a w hF hS => ?_)
      · exact obs_nil
      refine cond_ev (t := 9) (b := decide (i1 < (l1.length : Int))) hF (by kernel_rfl) (fun hb => ?_) (fun hb => ?_)
      · replace hm := if_t hm hb
        refine wpIn_skip ?_
        refine then_n ?_
        exact ⟨hF.weak [0, 1, 5] (by kernel_rfl), hS, hm⟩
      · replace hm := if_f hm hb
        refine wpIn_exit ?_
        refine then_e (then_e (block_e (then_n ?_)))
        rw [← hφ1] at hm
        replace hm := done_b hm
        unfold gameroomref_at_K1 at hm
        try dsimp only at hm
        have hm : (gameroomref_at_J1).bind some = some r := hm
        exact ⟨hF.weak [] (by kernel_rfl), hS, hm⟩

noncomputable def gameroomref_pieceSide_J2  : Option Int :=
  some (-1)

noncomputable def gameroomref_pieceSide_J1  (x1 : Int) : Option Int :=
  if (decide (x1 < 0)) then (some 1) else (gameroomref_pieceSide_J2)

noncomputable def gameroomref_pieceSide_m  (x1 : Int) : Option Int :=
  if (decide ((0 : Int) < x1)) then (some 0) else ((gameroomref_pieceSide_J1 x1))

set_option maxRecDepth 100000 in
set_option maxHeartbeats 4000000 in
theorem gameroomref_pieceSide_w {x1 : Int} {r : Int} {w0 w : World} {B : Nat} {fs : List HP} (hm : gameroomref_pieceSide_m x1 = some r) (hS : Sep w0 B w (fs)) :
    Calls Try.prog 83 #[.int .i64 x1] w fun e w' => e = .returned (.int .i64 r) ∧ Sep w0 B w' (fs) := by
  unfold gameroomref_pieceSide_m at hm
  replace hm := start_b hm
  refine enter (l := [.int .i64 x1]) (n := 7) Try.func83 rfl rfl (by simp) (fun a hF => ?_)
  refine reg [] [] [0] [pl 0 (.int .i64 x1)] hF hS Fol (by kernel_rfl) (by kernel_rfl) (by kernel_rfl) ?_ (fun a w hF hS => ?_)
  · exact obs_nil
  refine seq_cut (fun a w => Fr 7 [pl 0 (.int .i64 x1)] a ∧ Sep w0 B w (fs) ∧ ((gameroomref_pieceSide_J1 x1)).bind some = some r) ?_ ?_
  · rintro a w ⟨hF, hS, hm⟩
    unfold gameroomref_pieceSide_J1 at hm
    refine seq_cut (fun a w => Fr 7 [] a ∧ Sep w0 B w (fs) ∧ (gameroomref_pieceSide_J2).bind some = some r) ?_ ?_
    · rintro a w ⟨hF, hS, hm⟩
      unfold gameroomref_pieceSide_J2 at hm
      refine reg [] [] [2] [pl 2 (.int .i64 (-1))] hF hS Fol (by kernel_rfl) (by kernel_rfl) (by kernel_rfl) ?_ (fun a w hF hS => ?_)
      · exact obs_nil
      refine wpIn_ret ?_
      have hm : some (-1) = some r := hm
      obtain rfl := Option.some.inj hm
      exact retV (rs := [.tmp 2]) (vs := [.int .i64 (-1)]) hF rfl (rv_t (by kernel_rfl) <| rv_nil) rfl ⟨rfl, hS⟩
    · refine reg [] [] [6] [pl 6 (.bool (decide (x1 < 0)))] hF hS Fol (by kernel_rfl) (by kernel_rfl) (by kernel_rfl) ?_ (fun a w hF hS => ?_)
      · exact obs_nil
      refine cond_ev (t := 6) (b := decide (x1 < 0)) hF (by kernel_rfl) (fun hb => ?_) (fun hb => ?_)
      · replace hm := if_t hm hb
        refine reg [] [] [2] [pl 2 (.int .i64 1)] hF hS Fol (by kernel_rfl) (by kernel_rfl) (by kernel_rfl) ?_ (fun a w hF hS => ?_)
        · exact obs_nil
        refine wpIn_ret ?_
        refine then_r ?_
        have hm : some 1 = some r := hm
        obtain rfl := Option.some.inj hm
        exact retV (rs := [.tmp 2]) (vs := [.int .i64 1]) hF rfl (rv_t (by kernel_rfl) <| rv_nil) rfl ⟨rfl, hS⟩
      · replace hm := if_f hm hb
        refine wpIn_skip ?_
        refine then_n ?_
        exact ⟨hF.weak [] (by kernel_rfl), hS, hm⟩
  · refine reg [] [] [0, 4] [pl 0 (.int .i64 x1), pl 4 (.bool (decide ((0 : Int) < x1)))] hF hS Fol (by kernel_rfl) (by kernel_rfl) (by kernel_rfl) ?_ (fun a w hF hS => ?_)
    · exact obs_nil
    refine cond_ev (t := 4) (b := decide ((0 : Int) < x1)) hF (by kernel_rfl) (fun hb => ?_) (fun hb => ?_)
    · replace hm := if_t hm hb
      refine reg [] [] [2] [pl 2 (.int .i64 0)] hF hS Fol (by kernel_rfl) (by kernel_rfl) (by kernel_rfl) ?_ (fun a w hF hS => ?_)
      · exact obs_nil
      refine wpIn_ret ?_
      refine then_r ?_
      have hm : some 0 = some r := hm
      obtain rfl := Option.some.inj hm
      exact retV (rs := [.tmp 2]) (vs := [.int .i64 0]) hF rfl (rv_t (by kernel_rfl) <| rv_nil) rfl ⟨rfl, hS⟩
    · replace hm := if_f hm hb
      refine wpIn_skip ?_
      refine then_n ?_
      exact ⟨hF.weak [0] (by kernel_rfl), hS, hm⟩

noncomputable def gameroomref_signOf_J2  : Option Int :=
  some 0

noncomputable def gameroomref_signOf_J1  (n1 : Int) : Option Int :=
  if (decide (n1 < 0)) then (some (-1)) else (gameroomref_signOf_J2)

noncomputable def gameroomref_signOf_m  (n1 : Int) : Option Int :=
  if (decide ((0 : Int) < n1)) then (some 1) else ((gameroomref_signOf_J1 n1))

set_option maxRecDepth 100000 in
set_option maxHeartbeats 4000000 in
theorem gameroomref_signOf_w {n1 : Int} {r : Int} {w0 w : World} {B : Nat} {fs : List HP} (hm : gameroomref_signOf_m n1 = some r) (hS : Sep w0 B w (fs)) :
    Calls Try.prog 81 #[.int .i64 n1] w fun e w' => e = .returned (.int .i64 r) ∧ Sep w0 B w' (fs) := by
  unfold gameroomref_signOf_m at hm
  replace hm := start_b hm
  refine enter (l := [.int .i64 n1]) (n := 7) Try.func81 rfl rfl (by simp) (fun a hF => ?_)
  refine reg [] [] [0] [pl 0 (.int .i64 n1)] hF hS Fol (by kernel_rfl) (by kernel_rfl) (by kernel_rfl) ?_ (fun a w hF hS => ?_)
  · exact obs_nil
  refine seq_cut (fun a w => Fr 7 [pl 0 (.int .i64 n1)] a ∧ Sep w0 B w (fs) ∧ ((gameroomref_signOf_J1 n1)).bind some = some r) ?_ ?_
  · rintro a w ⟨hF, hS, hm⟩
    unfold gameroomref_signOf_J1 at hm
    refine seq_cut (fun a w => Fr 7 [] a ∧ Sep w0 B w (fs) ∧ (gameroomref_signOf_J2).bind some = some r) ?_ ?_
    · rintro a w ⟨hF, hS, hm⟩
      unfold gameroomref_signOf_J2 at hm
      refine reg [] [] [2] [pl 2 (.int .i64 0)] hF hS Fol (by kernel_rfl) (by kernel_rfl) (by kernel_rfl) ?_ (fun a w hF hS => ?_)
      · exact obs_nil
      refine wpIn_ret ?_
      have hm : some 0 = some r := hm
      obtain rfl := Option.some.inj hm
      exact retV (rs := [.tmp 2]) (vs := [.int .i64 0]) hF rfl (rv_t (by kernel_rfl) <| rv_nil) rfl ⟨rfl, hS⟩
    · refine reg [] [] [6] [pl 6 (.bool (decide (n1 < 0)))] hF hS Fol (by kernel_rfl) (by kernel_rfl) (by kernel_rfl) ?_ (fun a w hF hS => ?_)
      · exact obs_nil
      refine cond_ev (t := 6) (b := decide (n1 < 0)) hF (by kernel_rfl) (fun hb => ?_) (fun hb => ?_)
      · replace hm := if_t hm hb
        refine reg [] [] [2] [pl 2 (.int .i64 (-1))] hF hS Fol (by kernel_rfl) (by kernel_rfl) (by kernel_rfl) ?_ (fun a w hF hS => ?_)
        · exact obs_nil
        refine wpIn_ret ?_
        refine then_r ?_
        have hm : some (-1) = some r := hm
        obtain rfl := Option.some.inj hm
        exact retV (rs := [.tmp 2]) (vs := [.int .i64 (-1)]) hF rfl (rv_t (by kernel_rfl) <| rv_nil) rfl ⟨rfl, hS⟩
      · replace hm := if_f hm hb
        refine wpIn_skip ?_
        refine then_n ?_
        exact ⟨hF.weak [] (by kernel_rfl), hS, hm⟩
  · refine reg [] [] [0, 4] [pl 0 (.int .i64 n1), pl 4 (.bool (decide ((0 : Int) < n1)))] hF hS Fol (by kernel_rfl) (by kernel_rfl) (by kernel_rfl) ?_ (fun a w hF hS => ?_)
    · exact obs_nil
    refine cond_ev (t := 4) (b := decide ((0 : Int) < n1)) hF (by kernel_rfl) (fun hb => ?_) (fun hb => ?_)
    · replace hm := if_t hm hb
      refine reg [] [] [2] [pl 2 (.int .i64 1)] hF hS Fol (by kernel_rfl) (by kernel_rfl) (by kernel_rfl) ?_ (fun a w hF hS => ?_)
      · exact obs_nil
      refine wpIn_ret ?_
      refine then_r ?_
      have hm : some 1 = some r := hm
      obtain rfl := Option.some.inj hm
      exact retV (rs := [.tmp 2]) (vs := [.int .i64 1]) hF rfl (rv_t (by kernel_rfl) <| rv_nil) rfl ⟨rfl, hS⟩
    · replace hm := if_f hm hb
      refine wpIn_skip ?_
      refine then_n ?_
      exact ⟨hF.weak [0] (by kernel_rfl), hS, hm⟩

noncomputable def gameroomref_Attacks_J6  (from1 : Int) (to1 : Int) (k1 : Int) : Option (St Int (Fl Unit Bool)) :=
  (gameroomref_signOf_m (w64 ((Int.tmod to1 8) - (Int.tmod from1 8)))).bind fun r12 => (gameroomref_signOf_m (w64 ((w64 (Int.tdiv to1 8)) - (w64 (Int.tdiv from1 8))))).bind fun r13 => some (.next (w64 (k1 + (w64 (r12 + (w64 (8 * r13)))))))

noncomputable def gameroomref_Attacks_J5  (places1 : List Int) (from1 : Int) (to1 : Int) (k1 : Int) : Option (St Int (Fl Unit Bool)) :=
  asrt (0 ≤ k1 ∧ k1 < (places1.length : Int)) <| if ((geti places1 k1) != 0) then (some (.done (.ret false))) else ((gameroomref_Attacks_J6 from1 to1 k1))

noncomputable def gameroomref_Attacks_J4  : Option Bool :=
  some true

noncomputable def gameroomref_Attacks_K1  : (Fl Unit Bool) → Option Bool :=
  fun (x : (Fl Unit Bool)) => match x with | .go _ => gameroomref_Attacks_J4 | .ret x => some x

noncomputable def gameroomref_Attacks_L1  (places1 : List Int) (from1 : Int) (to1 : Int) : Int → Option (St Int (Fl Unit Bool)) :=
  fun (x : Int) => match x with | k1 => if (k1 != to1) then ((gameroomref_Attacks_J5 places1 from1 to1 k1)) else (some (.done (.go ())))

noncomputable def gameroomref_Attacks_J3  (places1 : List Int) (from1 : Int) (to1 : Int) : Option Bool :=
  (gameroomref_signOf_m (w64 ((Int.tmod to1 8) - (Int.tmod from1 8)))).bind fun r10 => (gameroomref_signOf_m (w64 ((w64 (Int.tdiv to1 8)) - (w64 (Int.tdiv from1 8))))).bind fun r11 => (loop (gameroomref_Attacks_L1 places1 from1 to1) (w64 ((w64 (from1 + r10)) + (w64 (8 * r11))))).bind gameroomref_Attacks_K1

noncomputable def gameroomref_Attacks_J2  (places1 : List Int) (from1 : Int) (to1 : Int) : Option Bool :=
  (gameroomref_size_m (w64 ((Int.tmod to1 8) - (Int.tmod from1 8)))).bind fun r6 => (gameroomref_size_m (w64 ((w64 (Int.tdiv to1 8)) - (w64 (Int.tdiv from1 8))))).bind fun r7 => ((if (!(((geti places1 from1) == 0) || ((!(r6 == r7)) && (!(((w64 ((Int.tmod to1 8) - (Int.tmod from1 8))) == 0) || ((w64 ((w64 (Int.tdiv to1 8)) - (w64 (Int.tdiv from1 8)))) == 0)))))) then gameroomref_size_m (geti places1 from1) else some 0)).bind fun r8 => ((if (!((((geti places1 from1) == 0) || ((!(r6 == r7)) && (!(((w64 ((Int.tmod to1 8) - (Int.tmod from1 8))) == 0) || ((w64 ((w64 (Int.tdiv to1 8)) - (w64 (Int.tdiv from1 8)))) == 0))))) || ((r8 == 3) && (!(r6 == r7))))) then gameroomref_size_m (geti places1 from1) else some 0)).bind fun r9 => if (((((geti places1 from1) == 0) || ((!(r6 == r7)) && (!(((w64 ((Int.tmod to1 8) - (Int.tmod from1 8))) == 0) || ((w64 ((w64 (Int.tdiv to1 8)) - (w64 (Int.tdiv from1 8)))) == 0))))) || ((r8 == 3) && (!(r6 == r7)))) || ((r9 == 4) && (!(((w64 ((Int.tmod to1 8) - (Int.tmod from1 8))) == 0) || ((w64 ((w64 (Int.tdiv to1 8)) - (w64 (Int.tdiv from1 8)))) == 0))))) then (some false) else ((gameroomref_Attacks_J3 places1 from1 to1))

noncomputable def gameroomref_Attacks_J1  (places1 : List Int) (from1 : Int) (to1 : Int) : Option Bool :=
  (gameroomref_size_m (geti places1 from1)).bind fun r1 => if (r1 == 1) then ((gameroomref_size_m (w64 ((Int.tmod to1 8) - (Int.tmod from1 8)))).bind fun r2 => some ((r2 == 1) && ((w64 ((w64 (Int.tdiv to1 8)) - (w64 (Int.tdiv from1 8)))) == (geti places1 from1)))) else (if (r1 == 2) then ((gameroomref_size_m (w64 ((w64 ((Int.tmod to1 8) - (Int.tmod from1 8))) * (w64 ((w64 (Int.tdiv to1 8)) - (w64 (Int.tdiv from1 8))))))).bind fun r3 => some (r3 == 2)) else (if (r1 == 6) then ((gameroomref_size_m (w64 ((Int.tmod to1 8) - (Int.tmod from1 8)))).bind fun r4 => ((if (decide (r4 ≤ 1)) then gameroomref_size_m (w64 ((w64 (Int.tdiv to1 8)) - (w64 (Int.tdiv from1 8)))) else some 0)).bind fun r5 => some ((decide (r4 ≤ 1)) && (decide (r5 ≤ 1)))) else ((gameroomref_Attacks_J2 places1 from1 to1))))

noncomputable def gameroomref_Attacks_m  (places1 : List Int) (from1 : Int) (to1 : Int) : Option Bool :=
  asrt (0 ≤ from1 ∧ from1 < (places1.length : Int)) <| if (((w64 ((Int.tmod to1 8) - (Int.tmod from1 8))) == 0) && ((w64 ((w64 (Int.tdiv to1 8)) - (w64 (Int.tdiv from1 8)))) == 0)) then (some false) else ((gameroomref_Attacks_J1 places1 from1 to1))

set_option maxRecDepth 100000 in
set_option maxHeartbeats 4000000 in
theorem gameroomref_Attacks_w {A1 : Option Addr} {c1 : Nat} {n1 : Nat} {places1 : List Int} {from1 : Int} {to1 : Int} {r : Bool} {w0 w : World} {B : Nat} {fs : List HP} (hm : gameroomref_Attacks_m places1 from1 to1 = some r) (hS : Sep w0 B w (fs)) (hr_places1 : RdF w0 B fs A1 (vI places1)) (_hc_places1 : places1.length ≤ c1) (_hn_places1 : n1 = places1.length) :
    Calls Try.prog 84 #[.slice A1 n1 c1, .int .i64 from1, .int .i64 to1] w fun e w' => e = .returned (.bool r) ∧ Sep w0 B w' (fs) := by
  obtain ⟨i3, hi3, hz3, hs3, hb3⟩ := info_parts Info3
  obtain rfl := _hn_places1
  unfold gameroomref_Attacks_m at hm
  replace hm := start_b hm
  refine enter (l := [.slice A1 places1.length c1, .int .i64 from1, .int .i64 to1]) (n := 125) Try.func84 rfl rfl (by simp) (fun a hF => ?_)
  refine reg [] [] [0, 1, 2] [pl 0 (.slice A1 places1.length c1), pl 1 (.int .i64 from1), pl 2 (.int .i64 to1)] hF hS Fol (by kernel_rfl) (by kernel_rfl) (by kernel_rfl) ?_ (fun a w hF hS => ?_)
  · exact obs_nil
  refine reg [] [] [0, 1, 2, 7, 8] [pl 0 (.slice A1 places1.length c1), pl 1 (.int .i64 from1), pl 2 (.int .i64 to1), pl 7 (.int .i64 (w64 ((Int.tmod to1 8) - (Int.tmod from1 8)))), pl 8 (.int .i64 (w64 ((w64 (Int.tdiv to1 8)) - (w64 (Int.tdiv from1 8)))))] hF hS Fol (by kernel_rfl) (by kernel_rfl) (by kernel_rfl) ?_ (fun a w hF hS => ?_)
  · exact obs_nil
  obtain ⟨hp1, hm⟩ := asrt_b hm
  refine reg [⟨true, [], vS (Instr.indexAt 34 (.slice A1 places1.length c1) (.int .i64 from1)), .pointer (some (sAddr A1 from1))⟩, ⟨false, [], vS (Instr.loadAt 3 (.pointer (some (sAddr A1 from1)))), .int .i64 (geti places1 from1)⟩] [none, none, some (.pointer (some (sAddr A1 from1))), some (.int .i64 (geti places1 from1)), none] [0, 1, 2, 7, 8, 9] [pl 0 (.slice A1 places1.length c1), pl 1 (.int .i64 from1), pl 2 (.int .i64 to1), pl 7 (.int .i64 (w64 ((Int.tmod to1 8) - (Int.tmod from1 8)))), pl 8 (.int .i64 (w64 ((w64 (Int.tdiv to1 8)) - (w64 (Int.tdiv from1 8))))), pl 9 (.int .i64 (geti places1 from1))] hF hS Fol (by kernel_rfl) (by kernel_rfl) (by kernel_rfl) ?_ (fun a w hF hS => ?_)
  · exact obs_cons (ob_ix1 (f := (Value.int .i64)) (m := places1) Und34 hi3 hs3 (hr_places1 _ (hS.dropN 0)) rfl (fun _ => hp1)) <| obs_cons (ob_get1 (n := places1.length) (m := places1) (Value.int .i64) (0 : Int) Agg3 (fun _ hS => ⟨_, (hr_places1 _ (hS.dropN 0))⟩) (fun _ hS => rfl) (fun _ => hp1)) <| obs_nil
  refine seq_cut (fun a w => Fr 125 [pl 0 (.slice A1 places1.length c1), pl 1 (.int .i64 from1), pl 2 (.int .i64 to1), pl 7 (.int .i64 (w64 ((Int.tmod to1 8) - (Int.tmod from1 8)))), pl 8 (.int .i64 (w64 ((w64 (Int.tdiv to1 8)) - (w64 (Int.tdiv from1 8))))), pl 9 (.int .i64 (geti places1 from1))] a ∧ Sep w0 B w (fs) ∧ ((gameroomref_Attacks_J1 places1 from1 to1)).bind some = some r) ?_ ?_
  · rintro a w ⟨hF, hS, hm⟩
    unfold gameroomref_Attacks_J1 at hm
    refine seq_cut (fun a w => Fr 125 [pl 0 (.slice A1 places1.length c1), pl 1 (.int .i64 from1), pl 2 (.int .i64 to1), pl 7 (.int .i64 (w64 ((Int.tmod to1 8) - (Int.tmod from1 8)))), pl 8 (.int .i64 (w64 ((w64 (Int.tdiv to1 8)) - (w64 (Int.tdiv from1 8))))), pl 9 (.int .i64 (geti places1 from1))] a ∧ Sep w0 B w (fs) ∧ ((gameroomref_Attacks_J2 places1 from1 to1)).bind some = some r) ?_ ?_
    · rintro a w ⟨hF, hS, hm⟩
      unfold gameroomref_Attacks_J2 at hm
      obtain ⟨r6, hr6, hm⟩ := call_b hm
      obtain ⟨r7, hr7, hm⟩ := call_b hm
      refine reg [⟨false, [], callFunc 80 #[.int .i64 (w64 ((Int.tmod to1 8) - (Int.tmod from1 8)))], .int .i64 r6⟩, ⟨false, [], callFunc 80 #[.int .i64 (w64 ((w64 (Int.tdiv to1 8)) - (w64 (Int.tdiv from1 8))))], .int .i64 r7⟩] [none, some (.int .i64 r6), none, some (.int .i64 r7), none, none, none, none, none, none, none, none, none] [0, 1, 2, 7, 8, 9, 10, 11] [pl 0 (.slice A1 places1.length c1), pl 1 (.int .i64 from1), pl 2 (.int .i64 to1), pl 7 (.int .i64 (w64 ((Int.tmod to1 8) - (Int.tmod from1 8)))), pl 8 (.int .i64 (w64 ((w64 (Int.tdiv to1 8)) - (w64 (Int.tdiv from1 8))))), pl 9 (.int .i64 (geti places1 from1)), pl 10 (.bool (r6 == r7)), pl 11 (.bool (((w64 ((Int.tmod to1 8) - (Int.tmod from1 8))) == 0) || ((w64 ((w64 (Int.tdiv to1 8)) - (w64 (Int.tdiv from1 8)))) == 0)))] hF hS Fol (by kernel_rfl) (by kernel_rfl) (by kernel_rfl) ?_ (fun a w hF hS => ?_)
      · exact obs_cons (ob_call Try.func80 (by kernel_rfl) rfl (fun _ _ hS => gameroomref_size_w hr6 hS )) <| obs_cons (ob_call Try.func80 (by kernel_rfl) rfl (fun _ _ hS => gameroomref_size_w hr7 hS )) <| obs_nil
      refine seq_cut (fun a w => Fr 125 [pl 0 (.slice A1 places1.length c1), pl 1 (.int .i64 from1), pl 2 (.int .i64 to1), pl 7 (.int .i64 (w64 ((Int.tmod to1 8) - (Int.tmod from1 8)))), pl 8 (.int .i64 (w64 ((w64 (Int.tdiv to1 8)) - (w64 (Int.tdiv from1 8)))))] a ∧ Sep w0 B w (fs) ∧ ((gameroomref_Attacks_J3 places1 from1 to1)).bind some = some r) ?_ ?_
      · rintro a w ⟨hF, hS, hm⟩
        unfold gameroomref_Attacks_J3 at hm
        refine seq_cut (fun a w => Fr 125 [] a ∧ Sep w0 B w (fs) ∧ (gameroomref_Attacks_J4).bind some = some r) ?_ ?_
        · rintro a w ⟨hF, hS, hm⟩
          unfold gameroomref_Attacks_J4 at hm
          refine reg [] [] [6] [pl 6 (.bool true)] hF hS Fol (by kernel_rfl) (by kernel_rfl) (by kernel_rfl) ?_ (fun a w hF hS => ?_)
          · exact obs_nil
          refine wpIn_ret ?_
          have hm : some true = some r := hm
          obtain rfl := Option.some.inj hm
          exact retV (rs := [.tmp 6]) (vs := [.bool true]) hF rfl (rv_t (by kernel_rfl) <| rv_nil) rfl ⟨rfl, hS⟩
        · obtain ⟨r10, hr10, hm⟩ := call_b hm
          obtain ⟨r11, hr11, hm⟩ := call_b hm
          refine reg [⟨false, [], callFunc 81 #[.int .i64 (w64 ((Int.tmod to1 8) - (Int.tmod from1 8)))], .int .i64 r10⟩, ⟨false, [], callFunc 81 #[.int .i64 (w64 ((w64 (Int.tdiv to1 8)) - (w64 (Int.tdiv from1 8))))], .int .i64 r11⟩] [none, none, some (.int .i64 r10), none, none, some (.int .i64 r11), none, none, none] [0, 2, 7, 8, 12] [pl 0 (.slice A1 places1.length c1), pl 2 (.int .i64 to1), pl 7 (.int .i64 (w64 ((Int.tmod to1 8) - (Int.tmod from1 8)))), pl 8 (.int .i64 (w64 ((w64 (Int.tdiv to1 8)) - (w64 (Int.tdiv from1 8))))), pl 12 (.int .i64 (w64 ((w64 (from1 + r10)) + (w64 (8 * r11)))))] hF hS Fol (by kernel_rfl) (by kernel_rfl) (by kernel_rfl) ?_ (fun a w hF hS => ?_)
          · exact obs_cons (ob_call Try.func81 (by kernel_rfl) rfl (fun _ _ hS => gameroomref_signOf_w hr10 hS )) <| obs_cons (ob_call Try.func81 (by kernel_rfl) rfl (fun _ _ hS => gameroomref_signOf_w hr11 hS )) <| obs_nil
          refine wpIn_block ?_
          refine wp_loop_model (S := Int) (R := (Fl Unit Bool)) (gameroomref_Attacks_L1 places1 from1 to1) (fun x => (gameroomref_Attacks_K1 x).bind some) r (fun (x : Int) a w => Fr 125 [pl 0 (.slice A1 places1.length c1), pl 2 (.int .i64 to1), pl 7 (.int .i64 (w64 ((Int.tmod to1 8) - (Int.tmod from1 8)))), pl 8 (.int .i64 (w64 ((w64 (Int.tdiv to1 8)) - (w64 (Int.tdiv from1 8))))), pl 12 (.int .i64 x)] a ∧ Sep w0 B w (fs)) (assoc_b hm) ⟨hF.weak [0, 2, 7, 8, 12] (by kernel_rfl), hS⟩ ?_
          clear hF hS hm
          rintro nn1 k1 a w ⟨hF, hS⟩ hm
          generalize hφ1 : stK (gameroomref_Attacks_L1 places1 from1 to1) nn1 (fun x => (gameroomref_Attacks_K1 x).bind some) = φ1 at hm
          unfold gameroomref_Attacks_L1 at hm
          dsimp only at hm
          refine seq_cut (fun a w => Fr 125 [pl 0 (.slice A1 places1.length c1), pl 2 (.int .i64 to1), pl 7 (.int .i64 (w64 ((Int.tmod to1 8) - (Int.tmod from1 8)))), pl 8 (.int .i64 (w64 ((w64 (Int.tdiv to1 8)) - (w64 (Int.tdiv from1 8))))), pl 12 (.int .i64 k1)] a ∧ Sep w0 B w (fs) ∧ ((gameroomref_Attacks_J5 places1 from1 to1 k1)).bind φ1 = some r) ?_ ?_
          · rintro a w ⟨hF, hS, hm⟩
            unfold gameroomref_Attacks_J5 at hm
            refine seq_cut (fun a w => Fr 125 [pl 0 (.slice A1 places1.length c1), pl 2 (.int .i64 to1), pl 7 (.int .i64 (w64 ((Int.tmod to1 8) - (Int.tmod from1 8)))), pl 8 (.int .i64 (w64 ((w64 (Int.tdiv to1 8)) - (w64 (Int.tdiv from1 8))))), pl 12 (.int .i64 k1)] a ∧ Sep w0 B w (fs) ∧ ((gameroomref_Attacks_J6 from1 to1 k1)).bind φ1 = some r) ?_ ?_
            · rintro a w ⟨hF, hS, hm⟩
              unfold gameroomref_Attacks_J6 at hm
              obtain ⟨r12, hr12, hm⟩ := call_b hm
              obtain ⟨r13, hr13, hm⟩ := call_b hm
              refine reg1 [⟨false, [], callFunc 81 #[.int .i64 (w64 ((Int.tmod to1 8) - (Int.tmod from1 8)))], .int .i64 r12⟩, ⟨false, [], callFunc 81 #[.int .i64 (w64 ((w64 (Int.tdiv to1 8)) - (w64 (Int.tdiv from1 8))))], .int .i64 r13⟩] [none, none, some (.int .i64 r12), none, some (.int .i64 r13), none, none, none, none] [0, 2, 7, 8, 12] [pl 0 (.slice A1 places1.length c1), pl 2 (.int .i64 to1), pl 7 (.int .i64 (w64 ((Int.tmod to1 8) - (Int.tmod from1 8)))), pl 8 (.int .i64 (w64 ((w64 (Int.tdiv to1 8)) - (w64 (Int.tdiv from1 8))))), pl 12 (.int .i64 (w64 (k1 + (w64 (r12 + (w64 (8 * r13)))))))] hF hS Fol (by kernel_rfl) (by kernel_rfl) (by kernel_rfl) ?_ (fun a w hF hS => ?_)
              · exact obs_cons (ob_call Try.func81 (by kernel_rfl) rfl (fun _ _ hS => gameroomref_signOf_w hr12 hS )) <| obs_cons (ob_call Try.func81 (by kernel_rfl) rfl (fun _ _ hS => gameroomref_signOf_w hr13 hS )) <| obs_nil
              refine then_n ?_
              rw [← hφ1] at hm
              exact ⟨(w64 (k1 + (w64 (r12 + (w64 (8 * r13)))))), ⟨hF.weak [0, 2, 7, 8, 12] (by kernel_rfl), hS⟩, hm⟩
            · refine wpIn_block ?_
              obtain ⟨hp2, hm⟩ := asrt_b hm
              refine reg [⟨true, [], vS (Instr.indexAt 34 (.slice A1 places1.length c1) (.int .i64 k1)), .pointer (some (sAddr A1 k1))⟩, ⟨false, [], vS (Instr.loadAt 3 (.pointer (some (sAddr A1 k1)))), .int .i64 (geti places1 k1)⟩] [none, none, some (.pointer (some (sAddr A1 k1))), some (.int .i64 (geti places1 k1)), none] [0, 2, 7, 8, 12, 124] [pl 0 (.slice A1 places1.length c1), pl 2 (.int .i64 to1), pl 7 (.int .i64 (w64 ((Int.tmod to1 8) - (Int.tmod from1 8)))), pl 8 (.int .i64 (w64 ((w64 (Int.tdiv to1 8)) - (w64 (Int.tdiv from1 8))))), pl 12 (.int .i64 k1), pl 124 (.bool ((geti places1 k1) != 0))] hF hS Fol (by kernel_rfl) (by kernel_rfl) (by kernel_rfl) ?_ (fun a w hF hS => ?_)
              · exact obs_cons (ob_ix1 (f := (Value.int .i64)) (m := places1) Und34 hi3 hs3 (hr_places1 _ (hS.dropN 0)) rfl (fun _ => hp2)) <| obs_cons (ob_get1 (n := places1.length) (m := places1) (Value.int .i64) (0 : Int) Agg3 (fun _ hS => ⟨_, (hr_places1 _ (hS.dropN 0))⟩) (fun _ hS => rfl) (fun _ => hp2)) <| obs_nil
              refine cond_ev (t := 124) (b := ((geti places1 k1) != 0)) hF (by kernel_rfl) (fun hb => ?_) (fun hb => ?_)
              · replace hm := if_t hm hb
                refine reg [] [] [6] [pl 6 (.bool false)] hF hS Fol (by kernel_rfl) (by kernel_rfl) (by kernel_rfl) ?_ (fun a w hF hS => ?_)
                · exact obs_nil
                refine wpIn_ret ?_
                refine block_r (then_r (then_r (block_r (then_r ?_))))
                rw [← hφ1] at hm
                replace hm := done_b hm
                unfold gameroomref_Attacks_K1 at hm
                try dsimp only at hm
                have hm : some false = some r := hm
                obtain rfl := Option.some.inj hm
                exact retV (rs := [.tmp 6]) (vs := [.bool false]) hF rfl (rv_t (by kernel_rfl) <| rv_nil) rfl ⟨rfl, hS⟩
              · replace hm := if_f hm hb
                refine wpIn_skip ?_
                refine block_n ?_
                refine then_n ?_
                exact ⟨hF.weak [0, 2, 7, 8, 12] (by kernel_rfl), hS, hm⟩
          · refine reg [] [] [0, 2, 7, 8, 12, 111] [pl 0 (.slice A1 places1.length c1), pl 2 (.int .i64 to1), pl 7 (.int .i64 (w64 ((Int.tmod to1 8) - (Int.tmod from1 8)))), pl 8 (.int .i64 (w64 ((w64 (Int.tdiv to1 8)) - (w64 (Int.tdiv from1 8))))), pl 12 (.int .i64 k1), pl 111 (.bool (k1 != to1))] hF hS Fol (by kernel_rfl) (by kernel_rfl) (by kernel_rfl) ?_ (fun a w hF hS => ?_)
            · exact obs_nil
            refine cond_ev (t := 111) (b := (k1 != to1)) hF (by kernel_rfl) (fun hb => ?_) (fun hb => ?_)
            · replace hm := if_t hm hb
              refine wpIn_skip ?_
              refine then_n ?_
              exact ⟨hF.weak [0, 2, 7, 8, 12] (by kernel_rfl), hS, hm⟩
            · replace hm := if_f hm hb
              refine wpIn_exit ?_
              refine then_e (then_e (block_e (then_n ?_)))
              rw [← hφ1] at hm
              replace hm := done_b hm
              unfold gameroomref_Attacks_K1 at hm
              try dsimp only at hm
              have hm : (gameroomref_Attacks_J4).bind some = some r := hm
              exact ⟨hF.weak [] (by kernel_rfl), hS, hm⟩
      · obtain ⟨r8, hr8, hm⟩ := call_b hm
        obtain ⟨r9, hr9, hm⟩ := call_b hm
        refine reg [⟨false, [(((geti places1 from1) == 0) || ((!(r6 == r7)) && (!(((w64 ((Int.tmod to1 8) - (Int.tmod from1 8))) == 0) || ((w64 ((w64 (Int.tdiv to1 8)) - (w64 (Int.tdiv from1 8)))) == 0)))), false)], callFunc 80 #[.int .i64 (geti places1 from1)], .int .i64 r8⟩, ⟨false, [((((geti places1 from1) == 0) || ((!(r6 == r7)) && (!(((w64 ((Int.tmod to1 8) - (Int.tmod from1 8))) == 0) || ((w64 ((w64 (Int.tdiv to1 8)) - (w64 (Int.tdiv from1 8)))) == 0))))) || ((r8 == 3) && (!(r6 == r7))), false)], callFunc 80 #[.int .i64 (geti places1 from1)], .int .i64 r9⟩] [none, none, none, none, none, none, none, none, none, none, none, none, some (.int .i64 r8), none, none, none, none, none, none, none, none, some (.int .i64 r9), none, none, none, none, none, none] [0, 1, 2, 7, 8, 100] [pl 0 (.slice A1 places1.length c1), pl 1 (.int .i64 from1), pl 2 (.int .i64 to1), pl 7 (.int .i64 (w64 ((Int.tmod to1 8) - (Int.tmod from1 8)))), pl 8 (.int .i64 (w64 ((w64 (Int.tdiv to1 8)) - (w64 (Int.tdiv from1 8))))), pl 100 (.bool (((((geti places1 from1) == 0) || ((!(r6 == r7)) && (!(((w64 ((Int.tmod to1 8) - (Int.tmod from1 8))) == 0) || ((w64 ((w64 (Int.tdiv to1 8)) - (w64 (Int.tdiv from1 8)))) == 0))))) || ((r8 == 3) && (!(r6 == r7)))) || ((r9 == 4) && (!(((w64 ((Int.tmod to1 8) - (Int.tmod from1 8))) == 0) || ((w64 ((w64 (Int.tdiv to1 8)) - (w64 (Int.tdiv from1 8)))) == 0))))))] hF hS Fol (by kernel_rfl) (by kernel_rfl) (by kernel_rfl) ?_ (fun a w hF hS => ?_)
        · exact obs_cons (ob_call Try.func80 (by kernel_rfl) rfl (fun hy _ hS => gameroomref_size_w (ite_some hr8 (by rw [show (((geti places1 from1) == 0) || ((!(r6 == r7)) && (!(((w64 ((Int.tmod to1 8) - (Int.tmod from1 8))) == 0) || ((w64 ((w64 (Int.tdiv to1 8)) - (w64 (Int.tdiv from1 8)))) == 0))))) = false from hy (((geti places1 from1) == 0) || ((!(r6 == r7)) && (!(((w64 ((Int.tmod to1 8) - (Int.tmod from1 8))) == 0) || ((w64 ((w64 (Int.tdiv to1 8)) - (w64 (Int.tdiv from1 8)))) == 0)))), false) (by simp)]; try rfl)) hS )) <| obs_cons (ob_call Try.func80 (by kernel_rfl) rfl (fun hy _ hS => gameroomref_size_w (ite_some hr9 (by rw [show ((((geti places1 from1) == 0) || ((!(r6 == r7)) && (!(((w64 ((Int.tmod to1 8) - (Int.tmod from1 8))) == 0) || ((w64 ((w64 (Int.tdiv to1 8)) - (w64 (Int.tdiv from1 8)))) == 0))))) || ((r8 == 3) && (!(r6 == r7)))) = false from hy ((((geti places1 from1) == 0) || ((!(r6 == r7)) && (!(((w64 ((Int.tmod to1 8) - (Int.tmod from1 8))) == 0) || ((w64 ((w64 (Int.tdiv to1 8)) - (w64 (Int.tdiv from1 8)))) == 0))))) || ((r8 == 3) && (!(r6 == r7))), false) (by simp)]; try rfl)) hS )) <| obs_nil
        refine cond_ev (t := 100) (b := ((((geti places1 from1) == 0) || ((!(r6 == r7)) && (!(((w64 ((Int.tmod to1 8) - (Int.tmod from1 8))) == 0) || ((w64 ((w64 (Int.tdiv to1 8)) - (w64 (Int.tdiv from1 8)))) == 0))))) || ((r8 == 3) && (!(r6 == r7)))) || ((r9 == 4) && (!(((w64 ((Int.tmod to1 8) - (Int.tmod from1 8))) == 0) || ((w64 ((w64 (Int.tdiv to1 8)) - (w64 (Int.tdiv from1 8)))) == 0))))) hF (by kernel_rfl) (fun hb => ?_) (fun hb => ?_)
        · replace hm := if_t hm hb
          refine reg [] [] [6] [pl 6 (.bool false)] hF hS Fol (by kernel_rfl) (by kernel_rfl) (by kernel_rfl) ?_ (fun a w hF hS => ?_)
          · exact obs_nil
          refine wpIn_ret ?_
          refine then_r ?_
          have hm : some false = some r := hm
          obtain rfl := Option.some.inj hm
          exact retV (rs := [.tmp 6]) (vs := [.bool false]) hF rfl (rv_t (by kernel_rfl) <| rv_nil) rfl ⟨rfl, hS⟩
        · replace hm := if_f hm hb
          refine wpIn_skip ?_
          refine then_n ?_
          exact ⟨hF.weak [0, 1, 2, 7, 8] (by kernel_rfl), hS, hm⟩
    · obtain ⟨r1, hr1, hm⟩ := call_b hm
      refine reg [⟨false, [], callFunc 80 #[.int .i64 (geti places1 from1)], .int .i64 r1⟩] [none, some (.int .i64 r1)] [0, 1, 2, 7, 8, 9, 34] [pl 0 (.slice A1 places1.length c1), pl 1 (.int .i64 from1), pl 2 (.int .i64 to1), pl 7 (.int .i64 (w64 ((Int.tmod to1 8) - (Int.tmod from1 8)))), pl 8 (.int .i64 (w64 ((w64 (Int.tdiv to1 8)) - (w64 (Int.tdiv from1 8))))), pl 9 (.int .i64 (geti places1 from1)), pl 34 (.int .i64 r1)] hF hS Fol (by kernel_rfl) (by kernel_rfl) (by kernel_rfl) ?_ (fun a w hF hS => ?_)
      · exact obs_cons (ob_call Try.func80 (by kernel_rfl) rfl (fun _ _ hS => gameroomref_size_w hr1 hS )) <| obs_nil
      refine wpIn_block ?_
      refine reg [] [] [0, 1, 2, 7, 8, 9, 34, 35] [pl 0 (.slice A1 places1.length c1), pl 1 (.int .i64 from1), pl 2 (.int .i64 to1), pl 7 (.int .i64 (w64 ((Int.tmod to1 8) - (Int.tmod from1 8)))), pl 8 (.int .i64 (w64 ((w64 (Int.tdiv to1 8)) - (w64 (Int.tdiv from1 8))))), pl 9 (.int .i64 (geti places1 from1)), pl 34 (.int .i64 r1), pl 35 (.bool (r1 == 1))] hF hS Fol (by kernel_rfl) (by kernel_rfl) (by kernel_rfl) ?_ (fun a w hF hS => ?_)
      · exact obs_nil
      refine cond_ev (t := 35) (b := (r1 == 1)) hF (by kernel_rfl) (fun hb => ?_) (fun hb => ?_)
      · replace hm := if_t hm hb
        obtain ⟨r2, hr2, hm⟩ := call_b hm
        refine reg [⟨false, [], callFunc 80 #[.int .i64 (w64 ((Int.tmod to1 8) - (Int.tmod from1 8)))], .int .i64 r2⟩] [none, some (.int .i64 r2), none, none, none, none, none, none, none] [6] [pl 6 (.bool ((r2 == 1) && ((w64 ((w64 (Int.tdiv to1 8)) - (w64 (Int.tdiv from1 8)))) == (geti places1 from1))))] hF hS Fol (by kernel_rfl) (by kernel_rfl) (by kernel_rfl) ?_ (fun a w hF hS => ?_)
        · exact obs_cons (ob_call Try.func80 (by kernel_rfl) rfl (fun _ _ hS => gameroomref_size_w hr2 hS )) <| obs_nil
        refine wpIn_ret ?_
        refine block_r (then_r ?_)
        have hm : some ((r2 == 1) && ((w64 ((w64 (Int.tdiv to1 8)) - (w64 (Int.tdiv from1 8)))) == (geti places1 from1))) = some r := hm
        obtain rfl := Option.some.inj hm
        exact retV (rs := [.tmp 6]) (vs := [.bool ((r2 == 1) && ((w64 ((w64 (Int.tdiv to1 8)) - (w64 (Int.tdiv from1 8)))) == (geti places1 from1)))]) hF rfl (rv_t (by kernel_rfl) <| rv_nil) rfl ⟨rfl, hS⟩
      · replace hm := if_f hm hb
        refine reg [] [] [0, 1, 2, 7, 8, 9, 34, 45] [pl 0 (.slice A1 places1.length c1), pl 1 (.int .i64 from1), pl 2 (.int .i64 to1), pl 7 (.int .i64 (w64 ((Int.tmod to1 8) - (Int.tmod from1 8)))), pl 8 (.int .i64 (w64 ((w64 (Int.tdiv to1 8)) - (w64 (Int.tdiv from1 8))))), pl 9 (.int .i64 (geti places1 from1)), pl 34 (.int .i64 r1), pl 45 (.bool (r1 == 2))] hF hS Fol (by kernel_rfl) (by kernel_rfl) (by kernel_rfl) ?_ (fun a w hF hS => ?_)
        · exact obs_nil
        refine cond_ev (t := 45) (b := (r1 == 2)) hF (by kernel_rfl) (fun hb => ?_) (fun hb => ?_)
        · replace hm := if_t hm hb
          obtain ⟨r3, hr3, hm⟩ := call_b hm
          refine reg [⟨false, [], callFunc 80 #[.int .i64 (w64 ((w64 ((Int.tmod to1 8) - (Int.tmod from1 8))) * (w64 ((w64 (Int.tdiv to1 8)) - (w64 (Int.tdiv from1 8))))))], .int .i64 r3⟩] [none, none, none, some (.int .i64 r3), none, none] [6] [pl 6 (.bool (r3 == 2))] hF hS Fol (by kernel_rfl) (by kernel_rfl) (by kernel_rfl) ?_ (fun a w hF hS => ?_)
          · exact obs_cons (ob_call Try.func80 (by kernel_rfl) rfl (fun _ _ hS => gameroomref_size_w hr3 hS )) <| obs_nil
          refine wpIn_ret ?_
          refine block_r (then_r ?_)
          have hm : some (r3 == 2) = some r := hm
          obtain rfl := Option.some.inj hm
          exact retV (rs := [.tmp 6]) (vs := [.bool (r3 == 2)]) hF rfl (rv_t (by kernel_rfl) <| rv_nil) rfl ⟨rfl, hS⟩
        · replace hm := if_f hm hb
          refine reg [] [] [0, 1, 2, 7, 8, 9, 52] [pl 0 (.slice A1 places1.length c1), pl 1 (.int .i64 from1), pl 2 (.int .i64 to1), pl 7 (.int .i64 (w64 ((Int.tmod to1 8) - (Int.tmod from1 8)))), pl 8 (.int .i64 (w64 ((w64 (Int.tdiv to1 8)) - (w64 (Int.tdiv from1 8))))), pl 9 (.int .i64 (geti places1 from1)), pl 52 (.bool (r1 == 6))] hF hS Fol (by kernel_rfl) (by kernel_rfl) (by kernel_rfl) ?_ (fun a w hF hS => ?_)
          · exact obs_nil
          refine cond_ev (t := 52) (b := (r1 == 6)) hF (by kernel_rfl) (fun hb => ?_) (fun hb => ?_)
          · replace hm := if_t hm hb
            obtain ⟨r4, hr4, hm⟩ := call_b hm
            obtain ⟨r5, hr5, hm⟩ := call_b hm
            refine reg [⟨false, [], callFunc 80 #[.int .i64 (w64 ((Int.tmod to1 8) - (Int.tmod from1 8)))], .int .i64 r4⟩, ⟨false, [(decide (r4 ≤ 1), true)], callFunc 80 #[.int .i64 (w64 ((w64 (Int.tdiv to1 8)) - (w64 (Int.tdiv from1 8))))], .int .i64 r5⟩] [none, some (.int .i64 r4), none, none, none, some (.int .i64 r5), none, none, none] [6] [pl 6 (.bool ((decide (r4 ≤ 1)) && (decide (r5 ≤ 1))))] hF hS Fol (by kernel_rfl) (by kernel_rfl) (by kernel_rfl) ?_ (fun a w hF hS => ?_)
            · exact obs_cons (ob_call Try.func80 (by kernel_rfl) rfl (fun _ _ hS => gameroomref_size_w hr4 hS )) <| obs_cons (ob_call Try.func80 (by kernel_rfl) rfl (fun hy _ hS => gameroomref_size_w (ite_some hr5 (by rw [show (decide (r4 ≤ 1)) = true from hy (decide (r4 ≤ 1), true) (by simp)]; try rfl)) hS )) <| obs_nil
            refine wpIn_ret ?_
            refine block_r (then_r ?_)
            have hm : some ((decide (r4 ≤ 1)) && (decide (r5 ≤ 1))) = some r := hm
            obtain rfl := Option.some.inj hm
            exact retV (rs := [.tmp 6]) (vs := [.bool ((decide (r4 ≤ 1)) && (decide (r5 ≤ 1)))]) hF rfl (rv_t (by kernel_rfl) <| rv_nil) rfl ⟨rfl, hS⟩
          · replace hm := if_f hm hb
            refine wpIn_skip ?_
            refine block_n ?_
            refine then_n ?_
            exact ⟨hF.weak [0, 1, 2, 7, 8, 9] (by kernel_rfl), hS, hm⟩
  · refine reg [] [] [0, 1, 2, 7, 8, 9, 32] [pl 0 (.slice A1 places1.length c1), pl 1 (.int .i64 from1), pl 2 (.int .i64 to1), pl 7 (.int .i64 (w64 ((Int.tmod to1 8) - (Int.tmod from1 8)))), pl 8 (.int .i64 (w64 ((w64 (Int.tdiv to1 8)) - (w64 (Int.tdiv from1 8))))), pl 9 (.int .i64 (geti places1 from1)), pl 32 (.bool (((w64 ((Int.tmod to1 8) - (Int.tmod from1 8))) == 0) && ((w64 ((w64 (Int.tdiv to1 8)) - (w64 (Int.tdiv from1 8)))) == 0)))] hF hS Fol (by kernel_rfl) (by kernel_rfl) (by kernel_rfl) ?_ (fun a w hF hS => ?_)
    · exact obs_nil
    refine cond_ev (t := 32) (b := ((w64 ((Int.tmod to1 8) - (Int.tmod from1 8))) == 0) && ((w64 ((w64 (Int.tdiv to1 8)) - (w64 (Int.tdiv from1 8)))) == 0)) hF (by kernel_rfl) (fun hb => ?_) (fun hb => ?_)
    · replace hm := if_t hm hb
      refine reg [] [] [6] [pl 6 (.bool false)] hF hS Fol (by kernel_rfl) (by kernel_rfl) (by kernel_rfl) ?_ (fun a w hF hS => ?_)
      · exact obs_nil
      refine wpIn_ret ?_
      refine then_r ?_
      have hm : some false = some r := hm
      obtain rfl := Option.some.inj hm
      exact retV (rs := [.tmp 6]) (vs := [.bool false]) hF rfl (rv_t (by kernel_rfl) <| rv_nil) rfl ⟨rfl, hS⟩
    · replace hm := if_f hm hb
      refine wpIn_skip ?_
      refine then_n ?_
      exact ⟨hF.weak [0, 1, 2, 7, 8, 9] (by kernel_rfl), hS, hm⟩

noncomputable def gameroomref_AttackersOf_J3  (i1 : Int) (l3 : List Int) : Option (St (List Int × Int) (List Int)) :=
  some (.next (l3, (w64 (i1 + 1))))

noncomputable def gameroomref_AttackersOf_J2  (places1 : List Int) (to1 : Int) (by1 : Int) (l1 : List Int) (i1 : Int) : Option (St (List Int × Int) (List Int)) :=
  asrt (0 ≤ i1 ∧ i1 < (places1.length : Int)) <| (gameroomref_pieceSide_m (geti places1 i1)).bind fun r1 => ((if (r1 == by1) then gameroomref_Attacks_m places1 i1 to1 else some false)).bind fun r2 => if ((r1 == by1) && r2) then (asrt ((l1.length : Int) + 1 ≤ bigN) <| (gameroomref_AttackersOf_J3 i1) (l1 ++ ([i1] : List Int))) else ((gameroomref_AttackersOf_J3 i1) l1)

noncomputable def gameroomref_AttackersOf_J1  (l2 : List Int) : Option (List Int) :=
  some l2

noncomputable def gameroomref_AttackersOf_K1  : (List Int) → Option (List Int) :=
  fun (x : (List Int)) => match x with | l2 => gameroomref_AttackersOf_J1 l2

noncomputable def gameroomref_AttackersOf_L1  (places1 : List Int) (to1 : Int) (by1 : Int) : (List Int × Int) → Option (St (List Int × Int) (List Int)) :=
  fun (x : (List Int × Int)) => match x with | (l1, i1) => if (decide (i1 < 64)) then ((gameroomref_AttackersOf_J2 places1 to1 by1 l1 i1)) else (some (.done l1))

noncomputable def gameroomref_AttackersOf_m  (places1 : List Int) (to1 : Int) (by1 : Int) : Option (List Int) :=
  (loop (gameroomref_AttackersOf_L1 places1 to1 by1) (([] : List Int), 0)).bind gameroomref_AttackersOf_K1

set_option maxRecDepth 100000 in
set_option maxHeartbeats 4000000 in
theorem gameroomref_AttackersOf_w {A1 : Option Addr} {c1 : Nat} {n1 : Nat} {places1 : List Int} {to1 : Int} {by1 : Int} {r : (List Int)} {w0 w : World} {B : Nat} {fs : List HP} (hm : gameroomref_AttackersOf_m places1 to1 by1 = some r) (hS : Sep w0 B w (fs)) (hr_places1 : RdF w0 B fs A1 (vI places1)) (_hc_places1 : places1.length ≤ c1) (_hn_places1 : n1 = places1.length) :
    Calls Try.prog 28 #[.slice A1 n1 c1, .int .i64 to1, .int .i64 by1] w fun e w' => ∃ v, e = .returned v ∧ ∃ (A6 : Option Addr) (c6 : Nat), v = .slice A6 r.length c6 ∧ Sep w0 B w' (own 3 (.slice A6 r.length c6) (vI r) :: fs) := by
  obtain ⟨i3, hi3, hz3, hs3, hb3⟩ := info_parts Info3
  obtain rfl := _hn_places1
  unfold gameroomref_AttackersOf_m at hm
  replace hm := start_b hm
  refine enter (l := [.slice A1 places1.length c1, .int .i64 to1, .int .i64 by1]) (n := 31) Try.func28 rfl rfl (by simp) (fun a hF => ?_)
  refine reg [] [] [0, 1, 2] [pl 0 (.slice A1 places1.length c1), pl 1 (.int .i64 to1), pl 2 (.int .i64 by1)] hF hS Fol (by kernel_rfl) (by kernel_rfl) (by kernel_rfl) ?_ (fun a w hF hS => ?_)
  · exact obs_nil
  refine reg [] [] [0, 1, 2, 7] [pl 0 (.slice A1 places1.length c1), pl 1 (.int .i64 to1), pl 2 (.int .i64 by1), pl 7 (.slice none 0 0)] hF hS Fol (by kernel_rfl) (by kernel_rfl) (by kernel_rfl) ?_ (fun a w hF hS => ?_)
  · exact obs_nil
  refine seq_cut (fun a w => ∃ (l2 : List Int) (A3 : Option Addr) (c3 : Nat), Fr 31 [pl 7 (.slice A3 l2.length c3)] a ∧ Sep w0 B w (own 3 (.slice A3 l2.length c3) (vI l2) :: fs) ∧ (gameroomref_AttackersOf_J1 l2).bind some = some r) ?_ ?_
  · rintro a w ⟨l2, A3, c3, hF, hS, hm⟩
    unfold gameroomref_AttackersOf_J1 at hm
    refine reg [] [] [6] [pl 6 (.slice A3 l2.length c3)] hF hS Fol (by kernel_rfl) (by kernel_rfl) (by kernel_rfl) ?_ (fun a w hF hS => ?_)
    · exact obs_nil
    refine wpIn_ret ?_
    have hm : some l2 = some r := hm
    obtain rfl := Option.some.inj hm
    exact retV (rs := [.tmp 6]) (vs := [.slice A3 l2.length c3]) hF rfl (rv_t (by kernel_rfl) <| rv_nil) rfl ⟨_, rfl, A3, c3, rfl, hS⟩
  · refine reg [] [] [0, 1, 2, 7, 8] [pl 0 (.slice A1 places1.length c1), pl 1 (.int .i64 to1), pl 2 (.int .i64 by1), pl 7 (.slice none 0 0), pl 8 (.int .i64 0)] hF hS Fol (by kernel_rfl) (by kernel_rfl) (by kernel_rfl) ?_ (fun a w hF hS => ?_)
    · exact obs_nil
    refine wpIn_block ?_
    have hS : Sep w0 B w (own 3 (.slice none 0 0) (vI ([] : List Int)) :: fs) := hS.nil 3
    have hl1 := (hS.at_ 0 rfl).len1
    have hS := (hS.at_ 0 rfl).reN hl1
    have hS : Sep w0 B w (own 3 (.slice none (([] : List Int).length) 0) (vI ([] : List Int)) :: fs) := hS
    have hF := hF.cast (t := 7) (v := .slice none 0 0) (v' := .slice none (([] : List Int).length) 0) rfl rfl (congrArg (fun k => Value.slice none k 0) hl1)
    refine wp_loop_model (S := (List Int × Int)) (R := (List Int)) (gameroomref_AttackersOf_L1 places1 to1 by1) (fun x => (gameroomref_AttackersOf_K1 x).bind some) r (fun (x : (List Int × Int)) a w => ∃ (A2 : Option Addr) (c2 : Nat), Fr 31 [pl 0 (.slice A1 places1.length c1), pl 1 (.int .i64 to1), pl 2 (.int .i64 by1), pl 7 (.slice A2 x.1.length c2), pl 8 (.int .i64 x.2)] a ∧ Sep w0 B w (own 3 (.slice A2 x.1.length c2) (vI x.1) :: fs)) (assoc_b hm) ⟨none, 0, hF.weak [0, 1, 2, 7, 8] (by kernel_rfl), hS⟩ ?_
    clear hF hS hm
    rintro nn1 ⟨l1, i1⟩ a w ⟨A2, c2, hF, hS⟩ hm
    generalize hφ1 : stK (gameroomref_AttackersOf_L1 places1 to1 by1) nn1 (fun x => (gameroomref_AttackersOf_K1 x).bind some) = φ1 at hm
    unfold gameroomref_AttackersOf_L1 at hm
    dsimp only at hF hS hm
    refine seq_cut (fun a w => Fr 31 [pl 0 (.slice A1 places1.length c1), pl 1 (.int .i64 to1), pl 2 (.int .i64 by1), pl 7 (.slice A2 l1.length c2), pl 8 (.int .i64 i1)] a ∧ Sep w0 B w (own 3 (.slice A2 l1.length c2) (vI l1) :: fs) ∧ ((gameroomref_AttackersOf_J2 places1 to1 by1 l1 i1)).bind φ1 = some r) ?_ ?_
    · rintro a w ⟨hF, hS, hm⟩
      unfold gameroomref_AttackersOf_J2 at hm
      refine seq_cut (fun a w => ∃ (l3 : List Int) (A5 : Option Addr) (c5 : Nat), Fr 31 [pl 0 (.slice A1 places1.length c1), pl 1 (.int .i64 to1), pl 2 (.int .i64 by1), pl 7 (.slice A5 l3.length c5), pl 8 (.int .i64 i1)] a ∧ Sep w0 B w (own 3 (.slice A5 l3.length c5) (vI l3) :: fs) ∧ ((gameroomref_AttackersOf_J3 i1) l3).bind φ1 = some r) ?_ ?_
      · rintro a w ⟨l3, A5, c5, hF, hS, hm⟩
        unfold gameroomref_AttackersOf_J3 at hm
        refine reg1 [] [] [0, 1, 2, 7, 8] [pl 0 (.slice A1 places1.length c1), pl 1 (.int .i64 to1), pl 2 (.int .i64 by1), pl 7 (.slice A5 l3.length c5), pl 8 (.int .i64 (w64 (i1 + 1)))] hF hS Fol (by kernel_rfl) (by kernel_rfl) (by kernel_rfl) ?_ (fun a w hF hS => ?_)
        · exact obs_nil
        refine then_n ?_
        rw [← hφ1] at hm
        exact ⟨(l3, (w64 (i1 + 1))), ⟨A5, c5, hF.weak [0, 1, 2, 7, 8] (by kernel_rfl), hS⟩, hm⟩
      · refine wpIn_block ?_
        obtain ⟨hp1, hm⟩ := asrt_b hm
        obtain ⟨r1, hr1, hm⟩ := call_b hm
        obtain ⟨r2, hr2, hm⟩ := call_b hm
        refine reg [⟨true, [], vS (Instr.indexAt 34 (.slice A1 places1.length c1) (.int .i64 i1)), .pointer (some (sAddr A1 i1))⟩, ⟨false, [], vS (Instr.loadAt 3 (.pointer (some (sAddr A1 i1)))), .int .i64 (geti places1 i1)⟩, ⟨false, [], callFunc 83 #[.int .i64 (geti places1 i1)], .int .i64 r1⟩, ⟨false, [((r1 == by1), true)], callFunc 84 #[.slice A1 places1.length c1, .int .i64 i1, .int .i64 to1], .bool r2⟩] [none, none, some (.pointer (some (sAddr A1 i1))), some (.int .i64 (geti places1 i1)), some (.int .i64 r1), none, none, none, none, none, none, some (.bool r2), none] [0, 1, 2, 7, 8, 25] [pl 0 (.slice A1 places1.length c1), pl 1 (.int .i64 to1), pl 2 (.int .i64 by1), pl 7 (.slice A2 l1.length c2), pl 8 (.int .i64 i1), pl 25 (.bool ((r1 == by1) && r2))] hF hS Fol (by kernel_rfl) (by kernel_rfl) (by kernel_rfl) ?_ (fun a w hF hS => ?_)
        · exact obs_cons (ob_ix1 (f := (Value.int .i64)) (m := places1) Und34 hi3 hs3 (hr_places1 _ (hS.dropN 1)) rfl (fun _ => hp1)) <| obs_cons (ob_get1 (n := places1.length) (m := places1) (Value.int .i64) (0 : Int) Agg3 (fun _ hS => ⟨_, (hr_places1 _ (hS.dropN 1))⟩) (fun _ hS => rfl) (fun _ => hp1)) <| obs_cons (ob_call Try.func83 (by kernel_rfl) rfl (fun _ _ hS => gameroomref_pieceSide_w hr1 hS )) <| obs_cons (ob_call Try.func84 (by kernel_rfl) rfl (fun hy _ hS => gameroomref_Attacks_w (ite_some hr2 (by rw [show (r1 == by1) = true from hy ((r1 == by1), true) (by simp)]; try rfl)) hS (fun _ hS => (hr_places1 _ (hS.dropN 1))) _hc_places1 rfl)) <| obs_nil
        refine cond_ev (t := 25) (b := (r1 == by1) && r2) hF (by kernel_rfl) (fun hb => ?_) (fun hb => ?_)
        · replace hm := if_t hm hb
          refine oneR ?_
          obtain ⟨hp2, hm⟩ := asrt_b hm
          refine at_run 2 [] [] [0, 1, 2, 8, 26, 27] [pl 0 (.slice A1 places1.length c1), pl 1 (.int .i64 to1), pl 2 (.int .i64 by1), pl 8 (.int .i64 i1), pl 26 (.slice A2 l1.length c2), pl 27 (.int .i64 i1)] hF hS (by kernel_rfl) (by kernel_rfl) ?_ (fun a w hF hS => ?_)
          · exact obs_nil
          refine at_do (d := 28) (s := vS (Instr.buildSlice 34 1 #[(0, .int .i64 i1)])) (v := .slice (some ⟨w.heap.size, 0, none⟩) 1 1) (w' := w.alloc (.cells #[.int .i64 i1] 3)) hF (by kernel_rfl) (by kernel_rfl) (by kernel_rfl) (fun a hF => ?_)
          have hS : Sep w0 B (w.alloc (.cells #[.int .i64 i1] 3)) (own 3 (.slice (some (⟨w.heap.size, 0, none⟩ : Addr)) 1 1) (vI ([i1] : List Int)) :: (own 3 (.slice A2 l1.length c2) (vI l1) :: fs)) := hS.lit 3 #[.int .i64 i1] 1 rfl (by omega)
          generalize (some (⟨w.heap.size, 0, none⟩ : Addr)) = g1 at hF hS
          generalize w.alloc (.cells #[.int .i64 i1] 3) = w at hS ⊢
          obtain ⟨A4, c4, w, hrun, hS⟩ := run_app1 (P := Try.prog) (t := 34) (m := l1) (ys := ([i1] : List Int)) (A2 := g1) (m2 := 1) (c2 := 1) (Value.int .i64) (0 : Int) (hS.at_ 1 rfl) (hS.at_ 0 rfl).rd ((hS.at_ 0 rfl).len1) 34 Und34 hi3 hz3 hs3 (by omega) rfl (fun _ => rfl) hp2
          have hS : Sep w0 B w (own 3 (.slice g1 1 1) (vI ([i1] : List Int)) :: own 3 (.slice A4 ((l1 ++ ([i1] : List Int)).length) c4) (vI (l1 ++ ([i1] : List Int))) :: fs) := hS
          refine at_do (d := 29) hF (by kernel_rfl) (by kernel_rfl) hrun (fun a hF => ?_)
          refine at_run 1 [] [] [0, 1, 2, 7, 8] [pl 0 (.slice A1 places1.length c1), pl 1 (.int .i64 to1), pl 2 (.int .i64 by1), pl 7 (.slice A4 ((l1 ++ ([i1] : List Int)).length) c4), pl 8 (.int .i64 i1)] hF hS (by kernel_rfl) (by kernel_rfl) ?_ (fun a w hF hS => ?_)
          · exact obs_nil
          refine at_end [0, 1, 2, 7, 8] [pl 0 (.slice A1 places1.length c1), pl 1 (.int .i64 to1), pl 2 (.int .i64 by1), pl 7 (.slice A4 ((l1 ++ ([i1] : List Int)).length) c4), pl 8 (.int .i64 i1)] hF rfl (by kernel_rfl) (fun hF => ?_)
          refine block_n ?_
          refine then_n ?_
          have hS := hS.pickN 2 [1] (by decide)
          exact ⟨(l1 ++ ([i1] : List Int)), A4, c4, hF.weak [0, 1, 2, 7, 8] (by kernel_rfl), hS, hm⟩
        · replace hm := if_f hm hb
          refine wpIn_skip ?_
          refine block_n ?_
          refine then_n ?_
          exact ⟨l1, A2, c2, hF.weak [0, 1, 2, 7, 8] (by kernel_rfl), hS, hm⟩
    · refine reg [] [] [0, 1, 2, 7, 8, 10] [pl 0 (.slice A1 places1.length c1), pl 1 (.int .i64 to1), pl 2 (.int .i64 by1), pl 7 (.slice A2 l1.length c2), pl 8 (.int .i64 i1), pl 10 (.bool (decide (i1 < 64)))] hF hS Fol (by kernel_rfl) (by kernel_rfl) (by kernel_rfl) ?_ (fun a w hF hS => ?_)
      · exact obs_nil
      refine cond_ev (t := 10) (b := decide (i1 < 64)) hF (by kernel_rfl) (fun hb => ?_) (fun hb => ?_)
      · replace hm := if_t hm hb
        refine wpIn_skip ?_
        refine then_n ?_
        exact ⟨hF.weak [0, 1, 2, 7, 8] (by kernel_rfl), hS, hm⟩
      · replace hm := if_f hm hb
        refine wpIn_exit ?_
        refine then_e (then_e (block_e (then_n ?_)))
        rw [← hφ1] at hm
        replace hm := done_b hm
        unfold gameroomref_AttackersOf_K1 at hm
        try dsimp only at hm
        have hm : (gameroomref_AttackersOf_J1 l1).bind some = some r := hm
        exact ⟨l1, A2, c2, hF.weak [7] (by kernel_rfl), hS, hm⟩

noncomputable def gameroomref_InCheck_J1  (places1 : List Int) (side1 : Int) (king1 : Int) : Option Bool :=
  (gameroomref_at_m places1 king1).bind fun r1 => (gameroomref_AttackersOf_m places1 r1 (w64 (1 - side1))).bind fun r2 => some (decide ((0 : Int) < (r2.length : Int)))

noncomputable def gameroomref_InCheck_m  (places1 : List Int) (side1 : Int) : Option Bool :=
  if (side1 == 1) then ((gameroomref_InCheck_J1 places1 side1) (w64 (0 - 6))) else ((gameroomref_InCheck_J1 places1 side1) 6)

set_option maxRecDepth 100000 in
set_option maxHeartbeats 4000000 in
theorem gameroomref_InCheck_w {A1 : Option Addr} {c1 : Nat} {n1 : Nat} {places1 : List Int} {side1 : Int} {r : Bool} {w0 w : World} {B : Nat} {fs : List HP} (hm : gameroomref_InCheck_m places1 side1 = some r) (hS : Sep w0 B w (fs)) (hr_places1 : RdF w0 B fs A1 (vI places1)) (_hc_places1 : places1.length ≤ c1) (_hn_places1 : n1 = places1.length) :
    Calls Try.prog 26 #[.slice A1 n1 c1, .int .i64 side1] w fun e w' => e = .returned (.bool r) ∧ Sep w0 B w' (fs) := by
  obtain ⟨i3, hi3, hz3, hs3, hb3⟩ := info_parts Info3
  obtain rfl := _hn_places1
  unfold gameroomref_InCheck_m at hm
  replace hm := start_b hm
  refine enter (l := [.slice A1 places1.length c1, .int .i64 side1]) (n := 19) Try.func26 rfl rfl (by simp) (fun a hF => ?_)
  refine reg [] [] [0, 1] [pl 0 (.slice A1 places1.length c1), pl 1 (.int .i64 side1)] hF hS Fol (by kernel_rfl) (by kernel_rfl) (by kernel_rfl) ?_ (fun a w hF hS => ?_)
  · exact obs_nil
  refine reg [] [] [0, 1, 5] [pl 0 (.slice A1 places1.length c1), pl 1 (.int .i64 side1), pl 5 (.int .i64 6)] hF hS Fol (by kernel_rfl) (by kernel_rfl) (by kernel_rfl) ?_ (fun a w hF hS => ?_)
  · exact obs_nil
  refine seq_cut (fun a w => ∃ (king1 : Int), Fr 19 [pl 0 (.slice A1 places1.length c1), pl 1 (.int .i64 side1), pl 5 (.int .i64 king1)] a ∧ Sep w0 B w (fs) ∧ ((gameroomref_InCheck_J1 places1 side1) king1).bind some = some r) ?_ ?_
  · rintro a w ⟨king1, hF, hS, hm⟩
    unfold gameroomref_InCheck_J1 at hm
    refine seqR ?_
    obtain ⟨r1, hr1, hm⟩ := call_b hm
    obtain ⟨r2, hr2, hm⟩ := call_b hm
    refine at_run 6 [⟨false, [], callFunc 82 #[.slice A1 places1.length c1, .int .i64 king1], .int .i64 r1⟩] [none, none, none, some (.int .i64 r1), none, none] [10, 13, 15] [pl 10 (.slice A1 places1.length c1), pl 13 (.int .i64 r1), pl 15 (.int .i64 (w64 (1 - side1)))] hF hS (by kernel_rfl) (by kernel_rfl) ?_ (fun a w hF hS => ?_)
    · exact obs_cons (ob_call Try.func82 (by kernel_rfl) rfl (fun _ _ hS => gameroomref_at_w hr1 hS (fun _ hS => (hr_places1 _ (hS.dropN 0))) _hc_places1 rfl)) <| obs_nil
    refine at_call (f := 28) (args := #[.slice A1 places1.length c1, .int .i64 r1, .int .i64 (w64 (1 - side1))]) (d := 16) hF (by kernel_rfl) (by kernel_rfl) Try.func28 (by kernel_rfl) rfl (gameroomref_AttackersOf_w hr2 hS (fun _ hS => (hr_places1 _ (hS.dropN 0))) _hc_places1 rfl) (fun v a w hR hF => ?_)
    clear hS
    obtain ⟨A2, c2, rfl, hS⟩ := hR
    have hS : Sep w0 B w (own 3 (.slice A2 r2.length c2) (vI r2) :: fs) := hS
    refine at_run 3 [] [] [4] [pl 4 (.bool (decide ((0 : Int) < (r2.length : Int))))] hF hS (by kernel_rfl) (by kernel_rfl) ?_ (fun a w hF hS => ?_)
    · exact obs_nil
    refine at_end [4] [pl 4 (.bool (decide ((0 : Int) < (r2.length : Int))))] hF rfl (by kernel_rfl) (fun hF => ?_)
    refine then_n ?_
    refine wpIn_ret ?_
    have hS := hS.pickN 1 [] (by decide)
    have hm : some (decide ((0 : Int) < (r2.length : Int))) = some r := hm
    obtain rfl := Option.some.inj hm
    exact retV (rs := [.tmp 4]) (vs := [.bool (decide ((0 : Int) < (r2.length : Int)))]) hF rfl (rv_t (by kernel_rfl) <| rv_nil) rfl ⟨rfl, hS⟩
  · refine reg [] [] [0, 1, 5, 7] [pl 0 (.slice A1 places1.length c1), pl 1 (.int .i64 side1), pl 5 (.int .i64 6), pl 7 (.bool (side1 == 1))] hF hS Fol (by kernel_rfl) (by kernel_rfl) (by kernel_rfl) ?_ (fun a w hF hS => ?_)
    · exact obs_nil
    refine cond_ev (t := 7) (b := (side1 == 1)) hF (by kernel_rfl) (fun hb => ?_) (fun hb => ?_)
    · replace hm := if_t hm hb
      refine reg1 [] [] [0, 1, 5] [pl 0 (.slice A1 places1.length c1), pl 1 (.int .i64 side1), pl 5 (.int .i64 (w64 (0 - 6)))] hF hS Fol (by kernel_rfl) (by kernel_rfl) (by kernel_rfl) ?_ (fun a w hF hS => ?_)
      · exact obs_nil
      refine then_n ?_
      exact ⟨(w64 (0 - 6)), hF.weak [0, 1, 5] (by kernel_rfl), hS, hm⟩
    · replace hm := if_f hm hb
      refine wpIn_skip ?_
      refine then_n ?_
      exact ⟨6, hF.weak [0, 1, 5] (by kernel_rfl), hS, hm⟩

noncomputable def gameroomref_ChessMay_J4  (i1 : Int) (white4 : Int) (black3 : Int) : Option (St (Int × Int × Int) (Fl (Int × Int) Bool)) :=
  some (.next (white4, black3, (w64 (i1 + 1))))

noncomputable def gameroomref_ChessMay_J6  (p1 : List Int) (black1 : Int) (i1 : Int) (white3 : Int) : Option (St (Int × Int × Int) (Fl (Int × Int) Bool)) :=
  if ((geti p1 i1) == (-6)) then ((gameroomref_ChessMay_J4 i1) white3 (w64 (black1 + 1))) else ((gameroomref_ChessMay_J4 i1) white3 black1)

noncomputable def gameroomref_ChessMay_J5  (p1 : List Int) (white1 : Int) (black1 : Int) (i1 : Int) : Option (St (Int × Int × Int) (Fl (Int × Int) Bool)) :=
  if ((geti p1 i1) == 6) then ((gameroomref_ChessMay_J6 p1 black1 i1) (w64 (white1 + 1))) else ((gameroomref_ChessMay_J6 p1 black1 i1) white1)

noncomputable def gameroomref_ChessMay_J3  (p1 : List Int) (white1 : Int) (black1 : Int) (i1 : Int) : Option (St (Int × Int × Int) (Fl (Int × Int) Bool)) :=
  asrt (0 ≤ i1 ∧ i1 < (p1.length : Int)) <| (gameroomref_within_m (geti p1 i1) (-6) 6).bind fun r5 => ((if (!(!r5)) then gameroomref_size_m (geti p1 i1) else some 0)).bind fun r6 => if ((!r5) || ((r6 == 1) && ((decide (i1 < 8)) || (decide ((55 : Int) < i1))))) then (some (.done (.ret false))) else ((gameroomref_ChessMay_J5 p1 white1 black1 i1))

noncomputable def gameroomref_ChessMay_J10  (n2 : Int) : Option (St Int (Fl Unit Bool)) :=
  some (.next (w64 (n2 + 1)))

noncomputable def gameroomref_ChessMay_J11  (p1 : List Int) (p3 : Int) (n2 : Int) (c2 : Int) : Option (St Int (Fl Unit Bool)) :=
  asrt ((0 : Int) ≤ n2) <| asrt (((bAnd (shrK .i64 p3 n2) 1) == 1) = true → 0 ≤ n2 ∧ n2 < 4) <| asrt (((bAnd (shrK .i64 p3 n2) 1) == 1) = true → 0 ≤ (geti ([4, 4, 60, 60] : List Int) n2) ∧ (geti ([4, 4, 60, 60] : List Int) n2) < (p1.length : Int)) <| asrt (((geti p1 (geti ([4, 4, 60, 60] : List Int) n2)) != (w64 (c2 * 6))) = false → ((bAnd (shrK .i64 p3 n2) 1) == 1) = true → 0 ≤ n2 ∧ n2 < 4) <| asrt (((geti p1 (geti ([4, 4, 60, 60] : List Int) n2)) != (w64 (c2 * 6))) = false → ((bAnd (shrK .i64 p3 n2) 1) == 1) = true → 0 ≤ (geti ([7, 0, 63, 56] : List Int) n2) ∧ (geti ([7, 0, 63, 56] : List Int) n2) < (p1.length : Int)) <| if (((bAnd (shrK .i64 p3 n2) 1) == 1) && (((geti p1 (geti ([4, 4, 60, 60] : List Int) n2)) != (w64 (c2 * 6))) || ((geti p1 (geti ([7, 0, 63, 56] : List Int) n2)) != (w64 (c2 * 4))))) then (some (.done (.ret false))) else ((gameroomref_ChessMay_J10 n2))

noncomputable def gameroomref_ChessMay_J9  (p1 : List Int) (p3 : Int) (n2 : Int) : Option (St Int (Fl Unit Bool)) :=
  if (decide ((2 : Int) ≤ n2)) then ((gameroomref_ChessMay_J11 p1 p3 n2) (-1)) else ((gameroomref_ChessMay_J11 p1 p3 n2) 1)

noncomputable def gameroomref_ChessMay_L2  (p1 : List Int) (p3 : Int) : Int → Option (St Int (Fl Unit Bool)) :=
  fun (x : Int) => match x with | n2 => if (decide (n2 < 4)) then ((gameroomref_ChessMay_J9 p1 p3 n2)) else (some (.done (.go ())))

noncomputable def gameroomref_ChessMay_J13  (p1 : List Int) (p4 : Int) : Option Bool :=
  (gameroomref_within_m p4 16 23).bind fun r9 => asrt (r9 = true → 0 ≤ p4 ∧ p4 < (p1.length : Int)) <| asrt ((r9 && ((geti p1 p4) == 0)) = true → 0 ≤ (w64 (p4 + 8)) ∧ (w64 (p4 + 8)) < (p1.length : Int)) <| asrt (((r9 && ((geti p1 p4) == 0)) && ((geti p1 (w64 (p4 + 8))) == 1)) = true → 0 ≤ (w64 (p4 - 8)) ∧ (w64 (p4 - 8)) < (p1.length : Int)) <| some (((r9 && ((geti p1 p4) == 0)) && ((geti p1 (w64 (p4 + 8))) == 1)) && ((geti p1 (w64 (p4 - 8))) == 0))

noncomputable def gameroomref_ChessMay_J12  (p1 : List Int) (p2 : Int) (p4 : Int) : Option Bool :=
  if (p2 == 0) then ((gameroomref_within_m p4 40 47).bind fun r8 => asrt (r8 = true → 0 ≤ p4 ∧ p4 < (p1.length : Int)) <| asrt ((r8 && ((geti p1 p4) == 0)) = true → 0 ≤ (w64 (p4 - 8)) ∧ (w64 (p4 - 8)) < (p1.length : Int)) <| asrt (((r8 && ((geti p1 p4) == 0)) && ((geti p1 (w64 (p4 - 8))) == (-1))) = true → 0 ≤ (w64 (p4 + 8)) ∧ (w64 (p4 + 8)) < (p1.length : Int)) <| some (((r8 && ((geti p1 p4) == 0)) && ((geti p1 (w64 (p4 - 8))) == (-1))) && ((geti p1 (w64 (p4 + 8))) == 0))) else ((gameroomref_ChessMay_J13 p1 p4))

noncomputable def gameroomref_ChessMay_J8  (p1 : List Int) (p2 : Int) (p4 : Int) : Option Bool :=
  if (p4 == (-1)) then (some true) else ((gameroomref_ChessMay_J12 p1 p2 p4))

noncomputable def gameroomref_ChessMay_K2  (p1 : List Int) (p2 : Int) (p4 : Int) : (Fl Unit Bool) → Option Bool :=
  fun (x : (Fl Unit Bool)) => match x with | .go _ => (gameroomref_ChessMay_J8 p1 p2 p4) | .ret x => some x

noncomputable def gameroomref_ChessMay_J7  (p1 : List Int) (p2 : Int) (p3 : Int) (p4 : Int) : Option Bool :=
  (loop (gameroomref_ChessMay_L2 p1 p3) 0).bind (gameroomref_ChessMay_K2 p1 p2 p4)

noncomputable def gameroomref_ChessMay_J2  (p1 : List Int) (p2 : Int) (p3 : Int) (p4 : Int) (white2 : Int) (black2 : Int) : Option Bool :=
  ((if (!((white2 != 1) || (black2 != 1))) then gameroomref_InCheck_m p1 (w64 (1 - p2)) else some false)).bind fun r7 => if (((white2 != 1) || (black2 != 1)) || r7) then (some false) else ((gameroomref_ChessMay_J7 p1 p2 p3 p4))

noncomputable def gameroomref_ChessMay_K1  (p1 : List Int) (p2 : Int) (p3 : Int) (p4 : Int) : (Fl (Int × Int) Bool) → Option Bool :=
  fun (x : (Fl (Int × Int) Bool)) => match x with | .go (white2, black2) => (gameroomref_ChessMay_J2 p1 p2 p3 p4) white2 black2 | .ret x => some x

noncomputable def gameroomref_ChessMay_L1  (p1 : List Int) : (Int × Int × Int) → Option (St (Int × Int × Int) (Fl (Int × Int) Bool)) :=
  fun (x : (Int × Int × Int)) => match x with | (white1, black1, i1) => if (decide (i1 < 64)) then ((gameroomref_ChessMay_J3 p1 white1 black1 i1)) else (some (.done (.go (white1, black1))))

noncomputable def gameroomref_ChessMay_J1  (p1 : List Int) (p2 : Int) (p3 : Int) (p4 : Int) : Option Bool :=
  (loop (gameroomref_ChessMay_L1 p1) (0, 0, 0)).bind (gameroomref_ChessMay_K1 p1 p2 p3 p4)

noncomputable def gameroomref_ChessMay_m  (p1 : List Int) (p2 : Int) (p3 : Int) (p4 : Int) (p5 : Int) (p6 : Int) : Option Bool :=
  ((if (!((p1.length : Int) != 64)) then gameroomref_within_m p2 0 1 else some false)).bind fun r1 => ((if (!(((p1.length : Int) != 64) || (!r1))) then gameroomref_within_m p3 0 15 else some false)).bind fun r2 => ((if (!((((p1.length : Int) != 64) || (!r1)) || (!r2))) then gameroomref_within_m p5 0 999 else some false)).bind fun r3 => ((if (!(((((p1.length : Int) != 64) || (!r1)) || (!r2)) || (!r3))) then gameroomref_within_m p6 1 999 else some false)).bind fun r4 => if ((((((p1.length : Int) != 64) || (!r1)) || (!r2)) || (!r3)) || (!r4)) then (some false) else ((gameroomref_ChessMay_J1 p1 p2 p3 p4))

set_option maxRecDepth 100000 in
set_option maxHeartbeats 4000000 in
theorem gameroomref_ChessMay_w {A1 : Option Addr} {c1 : Nat} {n1 : Nat} {p1 : List Int} {p2 : Int} {p3 : Int} {p4 : Int} {p5 : Int} {p6 : Int} {r : Bool} {w0 w : World} {B : Nat} {fs : List HP} (hm : gameroomref_ChessMay_m p1 p2 p3 p4 p5 p6 = some r) (hS : Sep w0 B w (fs)) (hr_p1 : RdF w0 B fs A1 (vI p1)) (_hc_p1 : p1.length ≤ c1) (_hn_p1 : n1 = p1.length) :
    Calls Try.prog 24 #[.agg #[.slice A1 n1 c1, .int .i64 p2, .int .i64 p3, .int .i64 p4, .int .i64 p5, .int .i64 p6]] w fun e w' => e = .returned (.bool r) ∧ Sep w0 B w' (fs) := by
  obtain ⟨i3, hi3, hz3, hs3, hb3⟩ := info_parts Info3
  obtain rfl := _hn_p1
  unfold gameroomref_ChessMay_m at hm
  replace hm := start_b hm
  refine enter (l := [.agg #[.slice A1 p1.length c1, .int .i64 p2, .int .i64 p3, .int .i64 p4, .int .i64 p5, .int .i64 p6]]) (n := 190) Try.func24 rfl rfl (by simp) (fun a hF => ?_)
  refine seqR ?_
  refine at_do (d := 1) (s := vS (Instr.box 36 (.agg #[.slice A1 p1.length c1, .int .i64 p2, .int .i64 p3, .int .i64 p4, .int .i64 p5, .int .i64 p6]))) (v := .pointer (some ⟨w.heap.size, 0, none⟩)) (w' := w.alloc (.cells #[.slice A1 p1.length c1, .int .i64 p2, .int .i64 p3, .int .i64 p4, .int .i64 p5, .int .i64 p6] 36)) hF (by kernel_rfl) (by kernel_rfl) (by kernel_rfl) (fun a hF => ?_)
  have hS : Sep w0 B (w.alloc (.cells #[.slice A1 p1.length c1, .int .i64 p2, .int .i64 p3, .int .i64 p4, .int .i64 p5, .int .i64 p6] 36)) (blk w.heap.size 36 #[.slice A1 p1.length c1, .int .i64 p2, .int .i64 p3, .int .i64 p4, .int .i64 p5, .int .i64 p6] :: (fs)) := hS.box 36 #[.slice A1 p1.length c1, .int .i64 p2, .int .i64 p3, .int .i64 p4, .int .i64 p5, .int .i64 p6]
  generalize w.heap.size = g1 at hF hS
  generalize w.alloc (.cells #[.slice A1 p1.length c1, .int .i64 p2, .int .i64 p3, .int .i64 p4, .int .i64 p5, .int .i64 p6] 36) = w at hS ⊢
  refine at_run 1 [] [] [1] [pl 1 (.pointer (some ⟨g1, 0, none⟩))] hF hS (by kernel_rfl) (by kernel_rfl) ?_ (fun a w hF hS => ?_)
  · exact obs_nil
  refine at_end [1] [pl 1 (.pointer (some ⟨g1, 0, none⟩))] hF rfl (by kernel_rfl) (fun hF => ?_)
  refine then_n ?_
  refine seq_cut (fun a w => Fr 190 [pl 1 (.pointer (some ⟨g1, 0, none⟩))] a ∧ Sep w0 B w (blk g1 36 #[.slice A1 p1.length c1, .int .i64 p2, .int .i64 p3, .int .i64 p4, .int .i64 p5, .int .i64 p6] :: fs) ∧ ((gameroomref_ChessMay_J1 p1 p2 p3 p4)).bind some = some r) ?_ ?_
  · rintro a w ⟨hF, hS, hm⟩
    unfold gameroomref_ChessMay_J1 at hm
    refine reg [] [] [1, 3, 4] [pl 1 (.pointer (some ⟨g1, 0, none⟩)), pl 3 (.int .i64 0), pl 4 (.int .i64 0)] hF hS Fol (by kernel_rfl) (by kernel_rfl) (by kernel_rfl) ?_ (fun a w hF hS => ?_)
    · exact obs_nil
    refine seq_cut (fun a w => ∃ (white2 : Int) (black2 : Int), Fr 190 [pl 1 (.pointer (some ⟨g1, 0, none⟩)), pl 3 (.int .i64 white2), pl 4 (.int .i64 black2)] a ∧ Sep w0 B w (blk g1 36 #[.slice A1 p1.length c1, .int .i64 p2, .int .i64 p3, .int .i64 p4, .int .i64 p5, .int .i64 p6] :: fs) ∧ ((gameroomref_ChessMay_J2 p1 p2 p3 p4) white2 black2).bind some = some r) ?_ ?_
    · rintro a w ⟨white2, black2, hF, hS, hm⟩
      unfold gameroomref_ChessMay_J2 at hm
      refine seq_cut (fun a w => Fr 190 [pl 1 (.pointer (some ⟨g1, 0, none⟩))] a ∧ Sep w0 B w (blk g1 36 #[.slice A1 p1.length c1, .int .i64 p2, .int .i64 p3, .int .i64 p4, .int .i64 p5, .int .i64 p6] :: fs) ∧ ((gameroomref_ChessMay_J7 p1 p2 p3 p4)).bind some = some r) ?_ ?_
      · rintro a w ⟨hF, hS, hm⟩
        unfold gameroomref_ChessMay_J7 at hm
        refine seqR ?_
        refine at_do (d := 87) (s := vS (Instr.buildSlice 34 4 #[(0, .int .i64 4), (1, .int .i64 4), (2, .int .i64 60), (3, .int .i64 60)])) (v := .slice (some ⟨w.heap.size, 0, none⟩) 4 4) (w' := w.alloc (.cells #[.int .i64 4, .int .i64 4, .int .i64 60, .int .i64 60] 3)) hF (by kernel_rfl) (by kernel_rfl) (by kernel_rfl) (fun a hF => ?_)
        have hS : Sep w0 B (w.alloc (.cells #[.int .i64 4, .int .i64 4, .int .i64 60, .int .i64 60] 3)) (own 3 (.slice (some (⟨w.heap.size, 0, none⟩ : Addr)) 4 4) (vI ([4, 4, 60, 60] : List Int)) :: (blk g1 36 #[.slice A1 p1.length c1, .int .i64 p2, .int .i64 p3, .int .i64 p4, .int .i64 p5, .int .i64 p6] :: fs)) := hS.lit 3 #[.int .i64 4, .int .i64 4, .int .i64 60, .int .i64 60] 4 rfl (by omega)
        generalize (some (⟨w.heap.size, 0, none⟩ : Addr)) = g2 at hF hS
        generalize w.alloc (.cells #[.int .i64 4, .int .i64 4, .int .i64 60, .int .i64 60] 3) = w at hS ⊢
        refine at_do (d := 88) (s := vS (Instr.buildSlice 34 4 #[(0, .int .i64 7), (1, .int .i64 0), (2, .int .i64 63), (3, .int .i64 56)])) (v := .slice (some ⟨w.heap.size, 0, none⟩) 4 4) (w' := w.alloc (.cells #[.int .i64 7, .int .i64 0, .int .i64 63, .int .i64 56] 3)) hF (by kernel_rfl) (by kernel_rfl) (by kernel_rfl) (fun a hF => ?_)
        have hS : Sep w0 B (w.alloc (.cells #[.int .i64 7, .int .i64 0, .int .i64 63, .int .i64 56] 3)) (own 3 (.slice (some (⟨w.heap.size, 0, none⟩ : Addr)) 4 4) (vI ([7, 0, 63, 56] : List Int)) :: (own 3 (.slice g2 4 4) (vI ([4, 4, 60, 60] : List Int)) :: blk g1 36 #[.slice A1 p1.length c1, .int .i64 p2, .int .i64 p3, .int .i64 p4, .int .i64 p5, .int .i64 p6] :: fs)) := hS.lit 3 #[.int .i64 7, .int .i64 0, .int .i64 63, .int .i64 56] 4 rfl (by omega)
        generalize (some (⟨w.heap.size, 0, none⟩ : Addr)) = g3 at hF hS
        generalize w.alloc (.cells #[.int .i64 7, .int .i64 0, .int .i64 63, .int .i64 56] 3) = w at hS ⊢
        refine at_run 2 [] [] [1, 7, 8] [pl 1 (.pointer (some ⟨g1, 0, none⟩)), pl 7 (.slice g2 4 4), pl 8 (.slice g3 4 4)] hF hS (by kernel_rfl) (by kernel_rfl) ?_ (fun a w hF hS => ?_)
        · exact obs_nil
        refine at_end [1, 7, 8] [pl 1 (.pointer (some ⟨g1, 0, none⟩)), pl 7 (.slice g2 4 4), pl 8 (.slice g3 4 4)] hF rfl (by kernel_rfl) (fun hF => ?_)
        refine then_n ?_
        refine seq_cut (fun a w => Fr 190 [pl 1 (.pointer (some ⟨g1, 0, none⟩))] a ∧ Sep w0 B w (blk g1 36 #[.slice A1 p1.length c1, .int .i64 p2, .int .i64 p3, .int .i64 p4, .int .i64 p5, .int .i64 p6] :: fs) ∧ ((gameroomref_ChessMay_J8 p1 p2 p4)).bind some = some r) ?_ ?_
        · rintro a w ⟨hF, hS, hm⟩
          unfold gameroomref_ChessMay_J8 at hm
          refine reg [⟨false, [], vS (Instr.loadAt 3 (.pointer (some ⟨g1, 3, none⟩))), .int .i64 p4⟩] [none, some (.int .i64 p4), none] [1, 11] [pl 1 (.pointer (some ⟨g1, 0, none⟩)), pl 11 (.int .i64 p4)] hF hS Fol (by kernel_rfl) (by kernel_rfl) (by kernel_rfl) ?_ (fun a w hF hS => ?_)
          · exact obs_cons (ob_load Agg3 (fun _ _ hS => (hS.at_ 0 rfl).cell rfl)) <| obs_nil
          refine seq_cut (fun a w => Fr 190 [pl 1 (.pointer (some ⟨g1, 0, none⟩)), pl 11 (.int .i64 p4)] a ∧ Sep w0 B w (blk g1 36 #[.slice A1 p1.length c1, .int .i64 p2, .int .i64 p3, .int .i64 p4, .int .i64 p5, .int .i64 p6] :: fs) ∧ ((gameroomref_ChessMay_J12 p1 p2 p4)).bind some = some r) ?_ ?_
          · rintro a w ⟨hF, hS, hm⟩
            unfold gameroomref_ChessMay_J12 at hm
            refine seq_cut (fun a w => Fr 190 [pl 1 (.pointer (some ⟨g1, 0, none⟩)), pl 11 (.int .i64 p4)] a ∧ Sep w0 B w (blk g1 36 #[.slice A1 p1.length c1, .int .i64 p2, .int .i64 p3, .int .i64 p4, .int .i64 p5, .int .i64 p6] :: fs) ∧ ((gameroomref_ChessMay_J13 p1 p4)).bind some = some r) ?_ ?_
            · rintro a w ⟨hF, hS, hm⟩
              unfold gameroomref_ChessMay_J13 at hm
              obtain ⟨r9, hr9, hm⟩ := call_b hm
              obtain ⟨hp10, hm⟩ := asrt_b hm
              obtain ⟨hp11, hm⟩ := asrt_b hm
              obtain ⟨hp12, hm⟩ := asrt_b hm
              refine reg [⟨false, [], callFunc 74 #[.int .i64 p4, .int .i64 16, .int .i64 23], .bool r9⟩, ⟨false, [(r9, true)], vS (Instr.loadAt 34 (.pointer (some ⟨g1, 0, none⟩))), .slice A1 p1.length c1⟩, ⟨true, [(r9, true)], vS (Instr.indexAt 34 (.slice A1 p1.length c1) (.int .i64 p4)), .pointer (some (sAddr A1 p4))⟩, ⟨false, [(r9, true)], vS (Instr.loadAt 3 (.pointer (some (sAddr A1 p4)))), .int .i64 (geti p1 p4)⟩, ⟨false, [(r9 && ((geti p1 p4) == 0), true)], vS (Instr.loadAt 34 (.pointer (some ⟨g1, 0, none⟩))), .slice A1 p1.length c1⟩, ⟨true, [(r9 && ((geti p1 p4) == 0), true)], vS (Instr.indexAt 34 (.slice A1 p1.length c1) (.int .i64 (w64 (p4 + 8)))), .pointer (some (sAddr A1 (w64 (p4 + 8))))⟩, ⟨false, [(r9 && ((geti p1 p4) == 0), true)], vS (Instr.loadAt 3 (.pointer (some (sAddr A1 (w64 (p4 + 8)))))), .int .i64 (geti p1 (w64 (p4 + 8)))⟩, ⟨false, [((r9 && ((geti p1 p4) == 0)) && ((geti p1 (w64 (p4 + 8))) == 1), true)], vS (Instr.loadAt 34 (.pointer (some ⟨g1, 0, none⟩))), .slice A1 p1.length c1⟩, ⟨true, [((r9 && ((geti p1 p4) == 0)) && ((geti p1 (w64 (p4 + 8))) == 1), true)], vS (Instr.indexAt 34 (.slice A1 p1.length c1) (.int .i64 (w64 (p4 - 8)))), .pointer (some (sAddr A1 (w64 (p4 - 8))))⟩, ⟨false, [((r9 && ((geti p1 p4) == 0)) && ((geti p1 (w64 (p4 + 8))) == 1), true)], vS (Instr.loadAt 3 (.pointer (some (sAddr A1 (w64 (p4 - 8)))))), .int .i64 (geti p1 (w64 (p4 - 8)))⟩] [none, some (.bool r9), none, none, some (.slice A1 p1.length c1), none, some (.pointer (some (sAddr A1 p4))), some (.int .i64 (geti p1 p4)), none, none, none, none, some (.slice A1 p1.length c1), none, none, some (.pointer (some (sAddr A1 (w64 (p4 + 8))))), some (.int .i64 (geti p1 (w64 (p4 + 8)))), none, none, none, none, some (.slice A1 p1.length c1), none, none, some (.pointer (some (sAddr A1 (w64 (p4 - 8))))), some (.int .i64 (geti p1 (w64 (p4 - 8)))), none, none, none] [2] [pl 2 (.bool (((r9 && ((geti p1 p4) == 0)) && ((geti p1 (w64 (p4 + 8))) == 1)) && ((geti p1 (w64 (p4 - 8))) == 0)))] hF hS Fol (by kernel_rfl) (by kernel_rfl) (by kernel_rfl) ?_ (fun a w hF hS => ?_)
              · exact obs_cons (ob_call Try.func74 (by kernel_rfl) rfl (fun _ _ hS => gameroomref_within_w hr9 hS )) <| obs_cons (ob_load Agg34 (fun _ _ hS => (hS.at_ 0 rfl).cell rfl)) <| obs_cons (ob_ix1 (f := (Value.int .i64)) (m := p1) Und34 hi3 hs3 (hr_p1 _ (hS.dropN 1)) rfl (fun hy => hp10 (hy (r9, true) (by simp)))) <| obs_cons (ob_get1 (n := p1.length) (m := p1) (Value.int .i64) (0 : Int) Agg3 (fun _ hS => ⟨_, (hr_p1 _ (hS.dropN 1))⟩) (fun _ hS => rfl) (fun hy => hp10 (hy (r9, true) (by simp)))) <| obs_cons (ob_load Agg34 (fun _ _ hS => (hS.at_ 0 rfl).cell rfl)) <| obs_cons (ob_ix1 (f := (Value.int .i64)) (m := p1) Und34 hi3 hs3 (hr_p1 _ (hS.dropN 1)) rfl (fun hy => hp11 (hy (r9 && ((geti p1 p4) == 0), true) (by simp)))) <| obs_cons (ob_get1 (n := p1.length) (m := p1) (Value.int .i64) (0 : Int) Agg3 (fun _ hS => ⟨_, (hr_p1 _ (hS.dropN 1))⟩) (fun _ hS => rfl) (fun hy => hp11 (hy (r9 && ((geti p1 p4) == 0), true) (by simp)))) <| obs_cons (ob_load Agg34 (fun _ _ hS => (hS.at_ 0 rfl).cell rfl)) <| obs_cons (ob_ix1 (f := (Value.int .i64)) (m := p1) Und34 hi3 hs3 (hr_p1 _ (hS.dropN 1)) rfl (fun hy => hp12 (hy ((r9 && ((geti p1 p4) == 0)) && ((geti p1 (w64 (p4 + 8))) == 1), true) (by simp)))) <| obs_cons (ob_get1 (n := p1.length) (m := p1) (Value.int .i64) (0 : Int) Agg3 (fun _ hS => ⟨_, (hr_p1 _ (hS.dropN 1))⟩) (fun _ hS => rfl) (fun hy => hp12 (hy ((r9 && ((geti p1 p4) == 0)) && ((geti p1 (w64 (p4 + 8))) == 1), true) (by simp)))) <| obs_nil
              refine wpIn_ret ?_
              have hS := hS.pickN 1 [] (by decide)
              have hm : some (((r9 && ((geti p1 p4) == 0)) && ((geti p1 (w64 (p4 + 8))) == 1)) && ((geti p1 (w64 (p4 - 8))) == 0)) = some r := hm
              obtain rfl := Option.some.inj hm
              exact retV (rs := [.tmp 2]) (vs := [.bool (((r9 && ((geti p1 p4) == 0)) && ((geti p1 (w64 (p4 + 8))) == 1)) && ((geti p1 (w64 (p4 - 8))) == 0))]) hF rfl (rv_t (by kernel_rfl) <| rv_nil) rfl ⟨rfl, hS⟩
            · refine reg [⟨false, [], vS (Instr.loadAt 3 (.pointer (some ⟨g1, 1, none⟩))), .int .i64 p2⟩] [none, some (.int .i64 p2), none] [1, 11, 133] [pl 1 (.pointer (some ⟨g1, 0, none⟩)), pl 11 (.int .i64 p4), pl 133 (.bool (p2 == 0))] hF hS Fol (by kernel_rfl) (by kernel_rfl) (by kernel_rfl) ?_ (fun a w hF hS => ?_)
              · exact obs_cons (ob_load Agg3 (fun _ _ hS => (hS.at_ 0 rfl).cell rfl)) <| obs_nil
              refine cond_ev (t := 133) (b := (p2 == 0)) hF (by kernel_rfl) (fun hb => ?_) (fun hb => ?_)
              · replace hm := if_t hm hb
                obtain ⟨r8, hr8, hm⟩ := call_b hm
                obtain ⟨hp7, hm⟩ := asrt_b hm
                obtain ⟨hp8, hm⟩ := asrt_b hm
                obtain ⟨hp9, hm⟩ := asrt_b hm
                refine reg [⟨false, [], callFunc 74 #[.int .i64 p4, .int .i64 40, .int .i64 47], .bool r8⟩, ⟨false, [(r8, true)], vS (Instr.loadAt 34 (.pointer (some ⟨g1, 0, none⟩))), .slice A1 p1.length c1⟩, ⟨true, [(r8, true)], vS (Instr.indexAt 34 (.slice A1 p1.length c1) (.int .i64 p4)), .pointer (some (sAddr A1 p4))⟩, ⟨false, [(r8, true)], vS (Instr.loadAt 3 (.pointer (some (sAddr A1 p4)))), .int .i64 (geti p1 p4)⟩, ⟨false, [(r8 && ((geti p1 p4) == 0), true)], vS (Instr.loadAt 34 (.pointer (some ⟨g1, 0, none⟩))), .slice A1 p1.length c1⟩, ⟨true, [(r8 && ((geti p1 p4) == 0), true)], vS (Instr.indexAt 34 (.slice A1 p1.length c1) (.int .i64 (w64 (p4 - 8)))), .pointer (some (sAddr A1 (w64 (p4 - 8))))⟩, ⟨false, [(r8 && ((geti p1 p4) == 0), true)], vS (Instr.loadAt 3 (.pointer (some (sAddr A1 (w64 (p4 - 8)))))), .int .i64 (geti p1 (w64 (p4 - 8)))⟩, ⟨false, [((r8 && ((geti p1 p4) == 0)) && ((geti p1 (w64 (p4 - 8))) == (-1)), true)], vS (Instr.loadAt 34 (.pointer (some ⟨g1, 0, none⟩))), .slice A1 p1.length c1⟩, ⟨true, [((r8 && ((geti p1 p4) == 0)) && ((geti p1 (w64 (p4 - 8))) == (-1)), true)], vS (Instr.indexAt 34 (.slice A1 p1.length c1) (.int .i64 (w64 (p4 + 8)))), .pointer (some (sAddr A1 (w64 (p4 + 8))))⟩, ⟨false, [((r8 && ((geti p1 p4) == 0)) && ((geti p1 (w64 (p4 - 8))) == (-1)), true)], vS (Instr.loadAt 3 (.pointer (some (sAddr A1 (w64 (p4 + 8)))))), .int .i64 (geti p1 (w64 (p4 + 8)))⟩] [none, some (.bool r8), none, none, some (.slice A1 p1.length c1), none, some (.pointer (some (sAddr A1 p4))), some (.int .i64 (geti p1 p4)), none, none, none, none, some (.slice A1 p1.length c1), none, none, some (.pointer (some (sAddr A1 (w64 (p4 - 8))))), some (.int .i64 (geti p1 (w64 (p4 - 8)))), none, none, none, none, some (.slice A1 p1.length c1), none, none, some (.pointer (some (sAddr A1 (w64 (p4 + 8))))), some (.int .i64 (geti p1 (w64 (p4 + 8)))), none, none, none] [2] [pl 2 (.bool (((r8 && ((geti p1 p4) == 0)) && ((geti p1 (w64 (p4 - 8))) == (-1))) && ((geti p1 (w64 (p4 + 8))) == 0)))] hF hS Fol (by kernel_rfl) (by kernel_rfl) (by kernel_rfl) ?_ (fun a w hF hS => ?_)
                · exact obs_cons (ob_call Try.func74 (by kernel_rfl) rfl (fun _ _ hS => gameroomref_within_w hr8 hS )) <| obs_cons (ob_load Agg34 (fun _ _ hS => (hS.at_ 0 rfl).cell rfl)) <| obs_cons (ob_ix1 (f := (Value.int .i64)) (m := p1) Und34 hi3 hs3 (hr_p1 _ (hS.dropN 1)) rfl (fun hy => hp7 (hy (r8, true) (by simp)))) <| obs_cons (ob_get1 (n := p1.length) (m := p1) (Value.int .i64) (0 : Int) Agg3 (fun _ hS => ⟨_, (hr_p1 _ (hS.dropN 1))⟩) (fun _ hS => rfl) (fun hy => hp7 (hy (r8, true) (by simp)))) <| obs_cons (ob_load Agg34 (fun _ _ hS => (hS.at_ 0 rfl).cell rfl)) <| obs_cons (ob_ix1 (f := (Value.int .i64)) (m := p1) Und34 hi3 hs3 (hr_p1 _ (hS.dropN 1)) rfl (fun hy => hp8 (hy (r8 && ((geti p1 p4) == 0), true) (by simp)))) <| obs_cons (ob_get1 (n := p1.length) (m := p1) (Value.int .i64) (0 : Int) Agg3 (fun _ hS => ⟨_, (hr_p1 _ (hS.dropN 1))⟩) (fun _ hS => rfl) (fun hy => hp8 (hy (r8 && ((geti p1 p4) == 0), true) (by simp)))) <| obs_cons (ob_load Agg34 (fun _ _ hS => (hS.at_ 0 rfl).cell rfl)) <| obs_cons (ob_ix1 (f := (Value.int .i64)) (m := p1) Und34 hi3 hs3 (hr_p1 _ (hS.dropN 1)) rfl (fun hy => hp9 (hy ((r8 && ((geti p1 p4) == 0)) && ((geti p1 (w64 (p4 - 8))) == (-1)), true) (by simp)))) <| obs_cons (ob_get1 (n := p1.length) (m := p1) (Value.int .i64) (0 : Int) Agg3 (fun _ hS => ⟨_, (hr_p1 _ (hS.dropN 1))⟩) (fun _ hS => rfl) (fun hy => hp9 (hy ((r8 && ((geti p1 p4) == 0)) && ((geti p1 (w64 (p4 - 8))) == (-1)), true) (by simp)))) <| obs_nil
                refine wpIn_ret ?_
                refine then_r ?_
                have hS := hS.pickN 1 [] (by decide)
                have hm : some (((r8 && ((geti p1 p4) == 0)) && ((geti p1 (w64 (p4 - 8))) == (-1))) && ((geti p1 (w64 (p4 + 8))) == 0)) = some r := hm
                obtain rfl := Option.some.inj hm
                exact retV (rs := [.tmp 2]) (vs := [.bool (((r8 && ((geti p1 p4) == 0)) && ((geti p1 (w64 (p4 - 8))) == (-1))) && ((geti p1 (w64 (p4 + 8))) == 0))]) hF rfl (rv_t (by kernel_rfl) <| rv_nil) rfl ⟨rfl, hS⟩
              · replace hm := if_f hm hb
                refine wpIn_skip ?_
                refine then_n ?_
                exact ⟨hF.weak [1, 11] (by kernel_rfl), hS, hm⟩
          · refine reg [] [] [1, 11, 130] [pl 1 (.pointer (some ⟨g1, 0, none⟩)), pl 11 (.int .i64 p4), pl 130 (.bool (p4 == (-1)))] hF hS Fol (by kernel_rfl) (by kernel_rfl) (by kernel_rfl) ?_ (fun a w hF hS => ?_)
            · exact obs_nil
            refine cond_ev (t := 130) (b := (p4 == (-1))) hF (by kernel_rfl) (fun hb => ?_) (fun hb => ?_)
            · replace hm := if_t hm hb
              refine reg [] [] [2] [pl 2 (.bool true)] hF hS Fol (by kernel_rfl) (by kernel_rfl) (by kernel_rfl) ?_ (fun a w hF hS => ?_)
              · exact obs_nil
              refine wpIn_ret ?_
              refine then_r ?_
              have hS := hS.pickN 1 [] (by decide)
              have hm : some true = some r := hm
              obtain rfl := Option.some.inj hm
              exact retV (rs := [.tmp 2]) (vs := [.bool true]) hF rfl (rv_t (by kernel_rfl) <| rv_nil) rfl ⟨rfl, hS⟩
            · replace hm := if_f hm hb
              refine wpIn_skip ?_
              refine then_n ?_
              exact ⟨hF.weak [1, 11] (by kernel_rfl), hS, hm⟩
        · refine reg [] [] [1, 7, 8, 9] [pl 1 (.pointer (some ⟨g1, 0, none⟩)), pl 7 (.slice g2 4 4), pl 8 (.slice g3 4 4), pl 9 (.int .i64 0)] hF hS Fol (by kernel_rfl) (by kernel_rfl) (by kernel_rfl) ?_ (fun a w hF hS => ?_)
          · exact obs_nil
          refine wpIn_block ?_
          have hS := hS.pickN 3 [2, 1, 0] (by decide)
          refine wp_loop_model (S := Int) (R := (Fl Unit Bool)) (gameroomref_ChessMay_L2 p1 p3) (fun x => ((gameroomref_ChessMay_K2 p1 p2 p4) x).bind some) r (fun (x : Int) a w => Fr 190 [pl 1 (.pointer (some ⟨g1, 0, none⟩)), pl 7 (.slice g2 4 4), pl 8 (.slice g3 4 4), pl 9 (.int .i64 x)] a ∧ Sep w0 B w (blk g1 36 #[.slice A1 p1.length c1, .int .i64 p2, .int .i64 p3, .int .i64 p4, .int .i64 p5, .int .i64 p6] :: own 3 (.slice g2 4 4) (vI ([4, 4, 60, 60] : List Int)) :: own 3 (.slice g3 4 4) (vI ([7, 0, 63, 56] : List Int)) :: fs)) (assoc_b hm) ⟨hF.weak [1, 7, 8, 9] (by kernel_rfl), hS⟩ ?_
          clear hF hS hm
          rintro nn2 n2 a w ⟨hF, hS⟩ hm
          generalize hφ2 : stK (gameroomref_ChessMay_L2 p1 p3) nn2 (fun x => ((gameroomref_ChessMay_K2 p1 p2 p4) x).bind some) = φ2 at hm
          unfold gameroomref_ChessMay_L2 at hm
          dsimp only at hm
          refine seq_cut (fun a w => Fr 190 [pl 1 (.pointer (some ⟨g1, 0, none⟩)), pl 7 (.slice g2 4 4), pl 8 (.slice g3 4 4), pl 9 (.int .i64 n2)] a ∧ Sep w0 B w (blk g1 36 #[.slice A1 p1.length c1, .int .i64 p2, .int .i64 p3, .int .i64 p4, .int .i64 p5, .int .i64 p6] :: own 3 (.slice g2 4 4) (vI ([4, 4, 60, 60] : List Int)) :: own 3 (.slice g3 4 4) (vI ([7, 0, 63, 56] : List Int)) :: fs) ∧ ((gameroomref_ChessMay_J9 p1 p3 n2)).bind φ2 = some r) ?_ ?_
          · rintro a w ⟨hF, hS, hm⟩
            unfold gameroomref_ChessMay_J9 at hm
            refine seq_cut (fun a w => Fr 190 [pl 1 (.pointer (some ⟨g1, 0, none⟩)), pl 7 (.slice g2 4 4), pl 8 (.slice g3 4 4), pl 9 (.int .i64 n2)] a ∧ Sep w0 B w (blk g1 36 #[.slice A1 p1.length c1, .int .i64 p2, .int .i64 p3, .int .i64 p4, .int .i64 p5, .int .i64 p6] :: own 3 (.slice g2 4 4) (vI ([4, 4, 60, 60] : List Int)) :: own 3 (.slice g3 4 4) (vI ([7, 0, 63, 56] : List Int)) :: fs) ∧ ((gameroomref_ChessMay_J10 n2)).bind φ2 = some r) ?_ ?_
            · rintro a w ⟨hF, hS, hm⟩
              unfold gameroomref_ChessMay_J10 at hm
              refine reg1 [] [] [1, 7, 8, 9] [pl 1 (.pointer (some ⟨g1, 0, none⟩)), pl 7 (.slice g2 4 4), pl 8 (.slice g3 4 4), pl 9 (.int .i64 (w64 (n2 + 1)))] hF hS Fol (by kernel_rfl) (by kernel_rfl) (by kernel_rfl) ?_ (fun a w hF hS => ?_)
              · exact obs_nil
              refine then_n ?_
              rw [← hφ2] at hm
              exact ⟨(w64 (n2 + 1)), ⟨hF.weak [1, 7, 8, 9] (by kernel_rfl), hS⟩, hm⟩
            · refine wpIn_block ?_
              refine reg [] [] [1, 7, 8, 9, 10] [pl 1 (.pointer (some ⟨g1, 0, none⟩)), pl 7 (.slice g2 4 4), pl 8 (.slice g3 4 4), pl 9 (.int .i64 n2), pl 10 (.int .i64 1)] hF hS Fol (by kernel_rfl) (by kernel_rfl) (by kernel_rfl) ?_ (fun a w hF hS => ?_)
              · exact obs_nil
              refine seq_cut (fun a w => ∃ (c2 : Int), Fr 190 [pl 1 (.pointer (some ⟨g1, 0, none⟩)), pl 7 (.slice g2 4 4), pl 8 (.slice g3 4 4), pl 9 (.int .i64 n2), pl 10 (.int .i64 c2)] a ∧ Sep w0 B w (blk g1 36 #[.slice A1 p1.length c1, .int .i64 p2, .int .i64 p3, .int .i64 p4, .int .i64 p5, .int .i64 p6] :: own 3 (.slice g2 4 4) (vI ([4, 4, 60, 60] : List Int)) :: own 3 (.slice g3 4 4) (vI ([7, 0, 63, 56] : List Int)) :: fs) ∧ ((gameroomref_ChessMay_J11 p1 p3 n2) c2).bind φ2 = some r) ?_ ?_
              · rintro a w ⟨c2, hF, hS, hm⟩
                unfold gameroomref_ChessMay_J11 at hm
                obtain ⟨hp2, hm⟩ := asrt_b hm
                obtain ⟨hp3, hm⟩ := asrt_b hm
                obtain ⟨hp4, hm⟩ := asrt_b hm
                obtain ⟨hp5, hm⟩ := asrt_b hm
                obtain ⟨hp6, hm⟩ := asrt_b hm
                refine reg [⟨false, [], vS (Instr.loadAt 3 (.pointer (some ⟨g1, 2, none⟩))), .int .i64 p3⟩, ⟨true, [], vS (Op.shift .shr .i64 p3 .i64 n2), .int .i64 (shrK .i64 p3 n2)⟩, ⟨false, [(((bAnd (shrK .i64 p3 n2) 1) == 1), true)], vS (Instr.loadAt 34 (.pointer (some ⟨g1, 0, none⟩))), .slice A1 p1.length c1⟩, ⟨true, [(((bAnd (shrK .i64 p3 n2) 1) == 1), true)], vS (Instr.indexAt 34 (.slice g2 4 4) (.int .i64 n2)), .pointer (some (sAddr g2 n2))⟩, ⟨false, [(((bAnd (shrK .i64 p3 n2) 1) == 1), true)], vS (Instr.loadAt 3 (.pointer (some (sAddr g2 n2)))), .int .i64 (geti ([4, 4, 60, 60] : List Int) n2)⟩, ⟨true, [(((bAnd (shrK .i64 p3 n2) 1) == 1), true)], vS (Instr.indexAt 34 (.slice A1 p1.length c1) (.int .i64 (geti ([4, 4, 60, 60] : List Int) n2))), .pointer (some (sAddr A1 (geti ([4, 4, 60, 60] : List Int) n2)))⟩, ⟨false, [(((bAnd (shrK .i64 p3 n2) 1) == 1), true)], vS (Instr.loadAt 3 (.pointer (some (sAddr A1 (geti ([4, 4, 60, 60] : List Int) n2))))), .int .i64 (geti p1 (geti ([4, 4, 60, 60] : List Int) n2))⟩, ⟨false, [(((geti p1 (geti ([4, 4, 60, 60] : List Int) n2)) != (w64 (c2 * 6))), false), (((bAnd (shrK .i64 p3 n2) 1) == 1), true)], vS (Instr.loadAt 34 (.pointer (some ⟨g1, 0, none⟩))), .slice A1 p1.length c1⟩, ⟨true, [(((geti p1 (geti ([4, 4, 60, 60] : List Int) n2)) != (w64 (c2 * 6))), false), (((bAnd (shrK .i64 p3 n2) 1) == 1), true)], vS (Instr.indexAt 34 (.slice g3 4 4) (.int .i64 n2)), .pointer (some (sAddr g3 n2))⟩, ⟨false, [(((geti p1 (geti ([4, 4, 60, 60] : List Int) n2)) != (w64 (c2 * 6))), false), (((bAnd (shrK .i64 p3 n2) 1) == 1), true)], vS (Instr.loadAt 3 (.pointer (some (sAddr g3 n2)))), .int .i64 (geti ([7, 0, 63, 56] : List Int) n2)⟩, ⟨true, [(((geti p1 (geti ([4, 4, 60, 60] : List Int) n2)) != (w64 (c2 * 6))), false), (((bAnd (shrK .i64 p3 n2) 1) == 1), true)], vS (Instr.indexAt 34 (.slice A1 p1.length c1) (.int .i64 (geti ([7, 0, 63, 56] : List Int) n2))), .pointer (some (sAddr A1 (geti ([7, 0, 63, 56] : List Int) n2)))⟩, ⟨false, [(((geti p1 (geti ([4, 4, 60, 60] : List Int) n2)) != (w64 (c2 * 6))), false), (((bAnd (shrK .i64 p3 n2) 1) == 1), true)], vS (Instr.loadAt 3 (.pointer (some (sAddr A1 (geti ([7, 0, 63, 56] : List Int) n2))))), .int .i64 (geti p1 (geti ([7, 0, 63, 56] : List Int) n2))⟩] [none, some (.int .i64 p3), none, some (.int .i64 (shrK .i64 p3 n2)), none, none, none, none, some (.slice A1 p1.length c1), none, none, some (.pointer (some (sAddr g2 n2))), some (.int .i64 (geti ([4, 4, 60, 60] : List Int) n2)), some (.pointer (some (sAddr A1 (geti ([4, 4, 60, 60] : List Int) n2)))), some (.int .i64 (geti p1 (geti ([4, 4, 60, 60] : List Int) n2))), none, none, none, none, none, some (.slice A1 p1.length c1), none, none, some (.pointer (some (sAddr g3 n2))), some (.int .i64 (geti ([7, 0, 63, 56] : List Int) n2)), some (.pointer (some (sAddr A1 (geti ([7, 0, 63, 56] : List Int) n2)))), some (.int .i64 (geti p1 (geti ([7, 0, 63, 56] : List Int) n2))), none, none, none, none, none] [1, 7, 8, 9, 126] [pl 1 (.pointer (some ⟨g1, 0, none⟩)), pl 7 (.slice g2 4 4), pl 8 (.slice g3 4 4), pl 9 (.int .i64 n2), pl 126 (.bool (((bAnd (shrK .i64 p3 n2) 1) == 1) && (((geti p1 (geti ([4, 4, 60, 60] : List Int) n2)) != (w64 (c2 * 6))) || ((geti p1 (geti ([7, 0, 63, 56] : List Int) n2)) != (w64 (c2 * 4))))))] hF hS Fol (by kernel_rfl) (by kernel_rfl) (by kernel_rfl) ?_ (fun a w hF hS => ?_)
                · exact obs_cons (ob_load Agg3 (fun _ _ hS => (hS.at_ 0 rfl).cell rfl)) <| obs_cons (ob_shr (fun _ => hp2)) <| obs_cons (ob_load Agg34 (fun _ _ hS => (hS.at_ 0 rfl).cell rfl)) <| obs_cons (ob_ix1 (f := (Value.int .i64)) (m := ([4, 4, 60, 60] : List Int)) Und34 hi3 hs3 (hS.at_ 1 rfl).rd ((hS.at_ 1 rfl).len1) (fun hy => hp3 (hy (((bAnd (shrK .i64 p3 n2) 1) == 1), true) (by simp)))) <| obs_cons (ob_get1 (n := 4) (m := ([4, 4, 60, 60] : List Int)) (Value.int .i64) (0 : Int) Agg3 (fun _ hS => ⟨_, (hS.at_ 1 rfl).rd⟩) (fun _ hS => ((hS.at_ 1 rfl).len1)) (fun hy => hp3 (hy (((bAnd (shrK .i64 p3 n2) 1) == 1), true) (by simp)))) <| obs_cons (ob_ix1 (f := (Value.int .i64)) (m := p1) Und34 hi3 hs3 (hr_p1 _ (hS.dropN 3)) rfl (fun hy => hp4 (hy (((bAnd (shrK .i64 p3 n2) 1) == 1), true) (by simp)))) <| obs_cons (ob_get1 (n := p1.length) (m := p1) (Value.int .i64) (0 : Int) Agg3 (fun _ hS => ⟨_, (hr_p1 _ (hS.dropN 3))⟩) (fun _ hS => rfl) (fun hy => hp4 (hy (((bAnd (shrK .i64 p3 n2) 1) == 1), true) (by simp)))) <| obs_cons (ob_load Agg34 (fun _ _ hS => (hS.at_ 0 rfl).cell rfl)) <| obs_cons (ob_ix1 (f := (Value.int .i64)) (m := ([7, 0, 63, 56] : List Int)) Und34 hi3 hs3 (hS.at_ 2 rfl).rd ((hS.at_ 2 rfl).len1) (fun hy => hp5 (hy (((geti p1 (geti ([4, 4, 60, 60] : List Int) n2)) != (w64 (c2 * 6))), false) (by simp)) (hy (((bAnd (shrK .i64 p3 n2) 1) == 1), true) (by simp)))) <| obs_cons (ob_get1 (n := 4) (m := ([7, 0, 63, 56] : List Int)) (Value.int .i64) (0 : Int) Agg3 (fun _ hS => ⟨_, (hS.at_ 2 rfl).rd⟩) (fun _ hS => ((hS.at_ 2 rfl).len1)) (fun hy => hp5 (hy (((geti p1 (geti ([4, 4, 60, 60] : List Int) n2)) != (w64 (c2 * 6))), false) (by simp)) (hy (((bAnd (shrK .i64 p3 n2) 1) == 1), true) (by simp)))) <| obs_cons (ob_ix1 (f := (Value.int .i64)) (m := p1) Und34 hi3 hs3 (hr_p1 _ (hS.dropN 3)) rfl (fun hy => hp6 (hy (((geti p1 (geti ([4, 4, 60, 60] : List Int) n2)) != (w64 (c2 * 6))), false) (by simp)) (hy (((bAnd (shrK .i64 p3 n2) 1) == 1), true) (by simp)))) <| obs_cons (ob_get1 (n := p1.length) (m := p1) (Value.int .i64) (0 : Int) Agg3 (fun _ hS => ⟨_, (hr_p1 _ (hS.dropN 3))⟩) (fun _ hS => rfl) (fun hy => hp6 (hy (((geti p1 (geti ([4, 4, 60, 60] : List Int) n2)) != (w64 (c2 * 6))), false) (by simp)) (hy (((bAnd (shrK .i64 p3 n2) 1) == 1), true) (by simp)))) <| obs_nil
                refine cond_ev (t := 126) (b := ((bAnd (shrK .i64 p3 n2) 1) == 1) && (((geti p1 (geti ([4, 4, 60, 60] : List Int) n2)) != (w64 (c2 * 6))) || ((geti p1 (geti ([7, 0, 63, 56] : List Int) n2)) != (w64 (c2 * 4))))) hF (by kernel_rfl) (fun hb => ?_) (fun hb => ?_)
                · replace hm := if_t hm hb
                  refine reg [] [] [2] [pl 2 (.bool false)] hF hS Fol (by kernel_rfl) (by kernel_rfl) (by kernel_rfl) ?_ (fun a w hF hS => ?_)
                  · exact obs_nil
                  refine wpIn_ret ?_
                  refine block_r (then_r (then_r (block_r (then_r ?_))))
                  rw [← hφ2] at hm
                  replace hm := done_b hm
                  unfold gameroomref_ChessMay_K2 at hm
                  try dsimp only at hm
                  have hS := hS.pickN 3 [] (by decide)
                  have hm : some false = some r := hm
                  obtain rfl := Option.some.inj hm
                  exact retV (rs := [.tmp 2]) (vs := [.bool false]) hF rfl (rv_t (by kernel_rfl) <| rv_nil) rfl ⟨rfl, hS⟩
                · replace hm := if_f hm hb
                  refine wpIn_skip ?_
                  refine block_n ?_
                  refine then_n ?_
                  exact ⟨hF.weak [1, 7, 8, 9] (by kernel_rfl), hS, hm⟩
              · refine reg [] [] [1, 7, 8, 9, 10, 94] [pl 1 (.pointer (some ⟨g1, 0, none⟩)), pl 7 (.slice g2 4 4), pl 8 (.slice g3 4 4), pl 9 (.int .i64 n2), pl 10 (.int .i64 1), pl 94 (.bool (decide ((2 : Int) ≤ n2)))] hF hS Fol (by kernel_rfl) (by kernel_rfl) (by kernel_rfl) ?_ (fun a w hF hS => ?_)
                · exact obs_nil
                refine cond_ev (t := 94) (b := decide ((2 : Int) ≤ n2)) hF (by kernel_rfl) (fun hb => ?_) (fun hb => ?_)
                · replace hm := if_t hm hb
                  refine reg1 [] [] [1, 7, 8, 9, 10] [pl 1 (.pointer (some ⟨g1, 0, none⟩)), pl 7 (.slice g2 4 4), pl 8 (.slice g3 4 4), pl 9 (.int .i64 n2), pl 10 (.int .i64 (-1))] hF hS Fol (by kernel_rfl) (by kernel_rfl) (by kernel_rfl) ?_ (fun a w hF hS => ?_)
                  · exact obs_nil
                  refine then_n ?_
                  exact ⟨(-1), hF.weak [1, 7, 8, 9, 10] (by kernel_rfl), hS, hm⟩
                · replace hm := if_f hm hb
                  refine wpIn_skip ?_
                  refine then_n ?_
                  exact ⟨1, hF.weak [1, 7, 8, 9, 10] (by kernel_rfl), hS, hm⟩
          · refine reg [] [] [1, 7, 8, 9, 90] [pl 1 (.pointer (some ⟨g1, 0, none⟩)), pl 7 (.slice g2 4 4), pl 8 (.slice g3 4 4), pl 9 (.int .i64 n2), pl 90 (.bool (decide (n2 < 4)))] hF hS Fol (by kernel_rfl) (by kernel_rfl) (by kernel_rfl) ?_ (fun a w hF hS => ?_)
            · exact obs_nil
            refine cond_ev (t := 90) (b := decide (n2 < 4)) hF (by kernel_rfl) (fun hb => ?_) (fun hb => ?_)
            · replace hm := if_t hm hb
              refine wpIn_skip ?_
              refine then_n ?_
              exact ⟨hF.weak [1, 7, 8, 9] (by kernel_rfl), hS, hm⟩
            · replace hm := if_f hm hb
              refine wpIn_exit ?_
              refine then_e (then_e (block_e (then_n ?_)))
              have hS := hS.pickN 3 [0] (by decide)
              rw [← hφ2] at hm
              replace hm := done_b hm
              unfold gameroomref_ChessMay_K2 at hm
              try dsimp only at hm
              have hm : ((gameroomref_ChessMay_J8 p1 p2 p4)).bind some = some r := hm
              exact ⟨hF.weak [1] (by kernel_rfl), hS, hm⟩
      · obtain ⟨r7, hr7, hm⟩ := call_b hm
        refine reg [⟨false, [((white2 != 1) || (black2 != 1), false)], vS (Instr.loadAt 34 (.pointer (some ⟨g1, 0, none⟩))), .slice A1 p1.length c1⟩, ⟨false, [((white2 != 1) || (black2 != 1), false)], vS (Instr.loadAt 3 (.pointer (some ⟨g1, 1, none⟩))), .int .i64 p2⟩, ⟨false, [((white2 != 1) || (black2 != 1), false)], callFunc 26 #[.slice A1 p1.length c1, .int .i64 (w64 (1 - p2))], .bool r7⟩] [none, none, none, none, none, none, none, none, some (.slice A1 p1.length c1), none, some (.int .i64 p2), none, some (.bool r7), none] [1, 86] [pl 1 (.pointer (some ⟨g1, 0, none⟩)), pl 86 (.bool (((white2 != 1) || (black2 != 1)) || r7))] hF hS Fol (by kernel_rfl) (by kernel_rfl) (by kernel_rfl) ?_ (fun a w hF hS => ?_)
        · exact obs_cons (ob_load Agg34 (fun _ _ hS => (hS.at_ 0 rfl).cell rfl)) <| obs_cons (ob_load Agg3 (fun _ _ hS => (hS.at_ 0 rfl).cell rfl)) <| obs_cons (ob_call Try.func26 (by kernel_rfl) rfl (fun hy _ hS => gameroomref_InCheck_w (ite_some hr7 (by rw [show ((white2 != 1) || (black2 != 1)) = false from hy ((white2 != 1) || (black2 != 1), false) (by simp)]; try rfl)) hS (fun _ hS => (hr_p1 _ (hS.dropN 1))) _hc_p1 rfl)) <| obs_nil
        refine cond_ev (t := 86) (b := ((white2 != 1) || (black2 != 1)) || r7) hF (by kernel_rfl) (fun hb => ?_) (fun hb => ?_)
        · replace hm := if_t hm hb
          refine reg [] [] [2] [pl 2 (.bool false)] hF hS Fol (by kernel_rfl) (by kernel_rfl) (by kernel_rfl) ?_ (fun a w hF hS => ?_)
          · exact obs_nil
          refine wpIn_ret ?_
          refine then_r ?_
          have hS := hS.pickN 1 [] (by decide)
          have hm : some false = some r := hm
          obtain rfl := Option.some.inj hm
          exact retV (rs := [.tmp 2]) (vs := [.bool false]) hF rfl (rv_t (by kernel_rfl) <| rv_nil) rfl ⟨rfl, hS⟩
        · replace hm := if_f hm hb
          refine wpIn_skip ?_
          refine then_n ?_
          exact ⟨hF.weak [1] (by kernel_rfl), hS, hm⟩
    · refine reg [] [] [1, 3, 4, 5] [pl 1 (.pointer (some ⟨g1, 0, none⟩)), pl 3 (.int .i64 0), pl 4 (.int .i64 0), pl 5 (.int .i64 0)] hF hS Fol (by kernel_rfl) (by kernel_rfl) (by kernel_rfl) ?_ (fun a w hF hS => ?_)
      · exact obs_nil
      refine wpIn_block ?_
      refine wp_loop_model (S := (Int × Int × Int)) (R := (Fl (Int × Int) Bool)) (gameroomref_ChessMay_L1 p1) (fun x => ((gameroomref_ChessMay_K1 p1 p2 p3 p4) x).bind some) r (fun (x : (Int × Int × Int)) a w => Fr 190 [pl 1 (.pointer (some ⟨g1, 0, none⟩)), pl 3 (.int .i64 x.1), pl 4 (.int .i64 x.2.1), pl 5 (.int .i64 x.2.2)] a ∧ Sep w0 B w (blk g1 36 #[.slice A1 p1.length c1, .int .i64 p2, .int .i64 p3, .int .i64 p4, .int .i64 p5, .int .i64 p6] :: fs)) (assoc_b hm) ⟨hF.weak [1, 3, 4, 5] (by kernel_rfl), hS⟩ ?_
      clear hF hS hm
      rintro nn1 ⟨white1, black1, i1⟩ a w ⟨hF, hS⟩ hm
      generalize hφ1 : stK (gameroomref_ChessMay_L1 p1) nn1 (fun x => ((gameroomref_ChessMay_K1 p1 p2 p3 p4) x).bind some) = φ1 at hm
      unfold gameroomref_ChessMay_L1 at hm
      dsimp only at hF hS hm
      refine seq_cut (fun a w => Fr 190 [pl 1 (.pointer (some ⟨g1, 0, none⟩)), pl 3 (.int .i64 white1), pl 4 (.int .i64 black1), pl 5 (.int .i64 i1)] a ∧ Sep w0 B w (blk g1 36 #[.slice A1 p1.length c1, .int .i64 p2, .int .i64 p3, .int .i64 p4, .int .i64 p5, .int .i64 p6] :: fs) ∧ ((gameroomref_ChessMay_J3 p1 white1 black1 i1)).bind φ1 = some r) ?_ ?_
      · rintro a w ⟨hF, hS, hm⟩
        unfold gameroomref_ChessMay_J3 at hm
        refine seq_cut (fun a w => ∃ (white4 : Int) (black3 : Int), Fr 190 [pl 1 (.pointer (some ⟨g1, 0, none⟩)), pl 3 (.int .i64 white4), pl 4 (.int .i64 black3), pl 5 (.int .i64 i1)] a ∧ Sep w0 B w (blk g1 36 #[.slice A1 p1.length c1, .int .i64 p2, .int .i64 p3, .int .i64 p4, .int .i64 p5, .int .i64 p6] :: fs) ∧ ((gameroomref_ChessMay_J4 i1) white4 black3).bind φ1 = some r) ?_ ?_
        · rintro a w ⟨white4, black3, hF, hS, hm⟩
          unfold gameroomref_ChessMay_J4 at hm
          refine reg1 [] [] [1, 3, 4, 5] [pl 1 (.pointer (some ⟨g1, 0, none⟩)), pl 3 (.int .i64 white4), pl 4 (.int .i64 black3), pl 5 (.int .i64 (w64 (i1 + 1)))] hF hS Fol (by kernel_rfl) (by kernel_rfl) (by kernel_rfl) ?_ (fun a w hF hS => ?_)
          · exact obs_nil
          refine then_n ?_
          rw [← hφ1] at hm
          exact ⟨(white4, black3, (w64 (i1 + 1))), ⟨hF.weak [1, 3, 4, 5] (by kernel_rfl), hS⟩, hm⟩
        · refine wpIn_block ?_
          obtain ⟨hp1, hm⟩ := asrt_b hm
          refine reg [⟨false, [], vS (Instr.loadAt 34 (.pointer (some ⟨g1, 0, none⟩))), .slice A1 p1.length c1⟩, ⟨true, [], vS (Instr.indexAt 34 (.slice A1 p1.length c1) (.int .i64 i1)), .pointer (some (sAddr A1 i1))⟩, ⟨false, [], vS (Instr.loadAt 3 (.pointer (some (sAddr A1 i1)))), .int .i64 (geti p1 i1)⟩] [none, some (.slice A1 p1.length c1), none, some (.pointer (some (sAddr A1 i1))), some (.int .i64 (geti p1 i1)), none] [1, 3, 4, 5, 6] [pl 1 (.pointer (some ⟨g1, 0, none⟩)), pl 3 (.int .i64 white1), pl 4 (.int .i64 black1), pl 5 (.int .i64 i1), pl 6 (.int .i64 (geti p1 i1))] hF hS Fol (by kernel_rfl) (by kernel_rfl) (by kernel_rfl) ?_ (fun a w hF hS => ?_)
          · exact obs_cons (ob_load Agg34 (fun _ _ hS => (hS.at_ 0 rfl).cell rfl)) <| obs_cons (ob_ix1 (f := (Value.int .i64)) (m := p1) Und34 hi3 hs3 (hr_p1 _ (hS.dropN 1)) rfl (fun _ => hp1)) <| obs_cons (ob_get1 (n := p1.length) (m := p1) (Value.int .i64) (0 : Int) Agg3 (fun _ hS => ⟨_, (hr_p1 _ (hS.dropN 1))⟩) (fun _ hS => rfl) (fun _ => hp1)) <| obs_nil
          refine seq_cut (fun a w => Fr 190 [pl 1 (.pointer (some ⟨g1, 0, none⟩)), pl 3 (.int .i64 white1), pl 4 (.int .i64 black1), pl 5 (.int .i64 i1), pl 6 (.int .i64 (geti p1 i1))] a ∧ Sep w0 B w (blk g1 36 #[.slice A1 p1.length c1, .int .i64 p2, .int .i64 p3, .int .i64 p4, .int .i64 p5, .int .i64 p6] :: fs) ∧ ((gameroomref_ChessMay_J5 p1 white1 black1 i1)).bind φ1 = some r) ?_ ?_
          · rintro a w ⟨hF, hS, hm⟩
            unfold gameroomref_ChessMay_J5 at hm
            refine seq_cut (fun a w => ∃ (white3 : Int), Fr 190 [pl 1 (.pointer (some ⟨g1, 0, none⟩)), pl 3 (.int .i64 white3), pl 4 (.int .i64 black1), pl 5 (.int .i64 i1), pl 6 (.int .i64 (geti p1 i1))] a ∧ Sep w0 B w (blk g1 36 #[.slice A1 p1.length c1, .int .i64 p2, .int .i64 p3, .int .i64 p4, .int .i64 p5, .int .i64 p6] :: fs) ∧ ((gameroomref_ChessMay_J6 p1 black1 i1) white3).bind φ1 = some r) ?_ ?_
            · rintro a w ⟨white3, hF, hS, hm⟩
              unfold gameroomref_ChessMay_J6 at hm
              refine reg [] [] [1, 3, 4, 5, 70] [pl 1 (.pointer (some ⟨g1, 0, none⟩)), pl 3 (.int .i64 white3), pl 4 (.int .i64 black1), pl 5 (.int .i64 i1), pl 70 (.bool ((geti p1 i1) == (-6)))] hF hS Fol (by kernel_rfl) (by kernel_rfl) (by kernel_rfl) ?_ (fun a w hF hS => ?_)
              · exact obs_nil
              refine cond_ev (t := 70) (b := ((geti p1 i1) == (-6))) hF (by kernel_rfl) (fun hb => ?_) (fun hb => ?_)
              · replace hm := if_t hm hb
                refine reg1 [] [] [1, 3, 4, 5] [pl 1 (.pointer (some ⟨g1, 0, none⟩)), pl 3 (.int .i64 white3), pl 4 (.int .i64 (w64 (black1 + 1))), pl 5 (.int .i64 i1)] hF hS Fol (by kernel_rfl) (by kernel_rfl) (by kernel_rfl) ?_ (fun a w hF hS => ?_)
                · exact obs_nil
                refine block_n ?_
                refine then_n ?_
                exact ⟨white3, (w64 (black1 + 1)), hF.weak [1, 3, 4, 5] (by kernel_rfl), hS, hm⟩
              · replace hm := if_f hm hb
                refine wpIn_skip ?_
                refine block_n ?_
                refine then_n ?_
                exact ⟨white3, black1, hF.weak [1, 3, 4, 5] (by kernel_rfl), hS, hm⟩
            · refine reg [] [] [1, 3, 4, 5, 6, 66] [pl 1 (.pointer (some ⟨g1, 0, none⟩)), pl 3 (.int .i64 white1), pl 4 (.int .i64 black1), pl 5 (.int .i64 i1), pl 6 (.int .i64 (geti p1 i1)), pl 66 (.bool ((geti p1 i1) == 6))] hF hS Fol (by kernel_rfl) (by kernel_rfl) (by kernel_rfl) ?_ (fun a w hF hS => ?_)
              · exact obs_nil
              refine cond_ev (t := 66) (b := ((geti p1 i1) == 6)) hF (by kernel_rfl) (fun hb => ?_) (fun hb => ?_)
              · replace hm := if_t hm hb
                refine reg1 [] [] [1, 3, 4, 5, 6] [pl 1 (.pointer (some ⟨g1, 0, none⟩)), pl 3 (.int .i64 (w64 (white1 + 1))), pl 4 (.int .i64 black1), pl 5 (.int .i64 i1), pl 6 (.int .i64 (geti p1 i1))] hF hS Fol (by kernel_rfl) (by kernel_rfl) (by kernel_rfl) ?_ (fun a w hF hS => ?_)
                · exact obs_nil
                refine then_n ?_
                exact ⟨(w64 (white1 + 1)), hF.weak [1, 3, 4, 5, 6] (by kernel_rfl), hS, hm⟩
              · replace hm := if_f hm hb
                refine wpIn_skip ?_
                refine then_n ?_
                exact ⟨white1, hF.weak [1, 3, 4, 5, 6] (by kernel_rfl), hS, hm⟩
          · obtain ⟨r5, hr5, hm⟩ := call_b hm
            obtain ⟨r6, hr6, hm⟩ := call_b hm
            refine reg [⟨false, [], callFunc 74 #[.int .i64 (geti p1 i1), .int .i64 (-6), .int .i64 6], .bool r5⟩, ⟨false, [(!r5, false)], callFunc 80 #[.int .i64 (geti p1 i1)], .int .i64 r6⟩] [none, some (.bool r5), none, none, none, some (.int .i64 r6), none, none, none, none, none, none, none, none, none, none] [1, 3, 4, 5, 6, 64] [pl 1 (.pointer (some ⟨g1, 0, none⟩)), pl 3 (.int .i64 white1), pl 4 (.int .i64 black1), pl 5 (.int .i64 i1), pl 6 (.int .i64 (geti p1 i1)), pl 64 (.bool ((!r5) || ((r6 == 1) && ((decide (i1 < 8)) || (decide ((55 : Int) < i1))))))] hF hS Fol (by kernel_rfl) (by kernel_rfl) (by kernel_rfl) ?_ (fun a w hF hS => ?_)
            · exact obs_cons (ob_call Try.func74 (by kernel_rfl) rfl (fun _ _ hS => gameroomref_within_w hr5 hS )) <| obs_cons (ob_call Try.func80 (by kernel_rfl) rfl (fun hy _ hS => gameroomref_size_w (ite_some hr6 (by rw [show (!r5) = false from hy (!r5, false) (by simp)]; try rfl)) hS )) <| obs_nil
            refine cond_ev (t := 64) (b := (!r5) || ((r6 == 1) && ((decide (i1 < 8)) || (decide ((55 : Int) < i1))))) hF (by kernel_rfl) (fun hb => ?_) (fun hb => ?_)
            · replace hm := if_t hm hb
              refine reg [] [] [2] [pl 2 (.bool false)] hF hS Fol (by kernel_rfl) (by kernel_rfl) (by kernel_rfl) ?_ (fun a w hF hS => ?_)
              · exact obs_nil
              refine wpIn_ret ?_
              refine then_r (block_r (then_r (then_r (block_r (then_r ?_)))))
              rw [← hφ1] at hm
              replace hm := done_b hm
              unfold gameroomref_ChessMay_K1 at hm
              try dsimp only at hm
              have hS := hS.pickN 1 [] (by decide)
              have hm : some false = some r := hm
              obtain rfl := Option.some.inj hm
              exact retV (rs := [.tmp 2]) (vs := [.bool false]) hF rfl (rv_t (by kernel_rfl) <| rv_nil) rfl ⟨rfl, hS⟩
            · replace hm := if_f hm hb
              refine wpIn_skip ?_
              refine then_n ?_
              exact ⟨hF.weak [1, 3, 4, 5, 6] (by kernel_rfl), hS, hm⟩
      · refine reg [] [] [1, 3, 4, 5, 41] [pl 1 (.pointer (some ⟨g1, 0, none⟩)), pl 3 (.int .i64 white1), pl 4 (.int .i64 black1), pl 5 (.int .i64 i1), pl 41 (.bool (decide (i1 < 64)))] hF hS Fol (by kernel_rfl) (by kernel_rfl) (by kernel_rfl) ?_ (fun a w hF hS => ?_)
        · exact obs_nil
        refine cond_ev (t := 41) (b := decide (i1 < 64)) hF (by kernel_rfl) (fun hb => ?_) (fun hb => ?_)
        · replace hm := if_t hm hb
          refine wpIn_skip ?_
          refine then_n ?_
          exact ⟨hF.weak [1, 3, 4, 5] (by kernel_rfl), hS, hm⟩
        · replace hm := if_f hm hb
          refine wpIn_exit ?_
          refine then_e (then_e (block_e (then_n ?_)))
          rw [← hφ1] at hm
          replace hm := done_b hm
          unfold gameroomref_ChessMay_K1 at hm
          try dsimp only at hm
          have hm : ((gameroomref_ChessMay_J2 p1 p2 p3 p4) white1 black1).bind some = some r := hm
          exact ⟨white1, black1, hF.weak [1, 3, 4] (by kernel_rfl), hS, hm⟩
  · obtain ⟨r1, hr1, hm⟩ := call_b hm
    obtain ⟨r2, hr2, hm⟩ := call_b hm
    obtain ⟨r3, hr3, hm⟩ := call_b hm
    obtain ⟨r4, hr4, hm⟩ := call_b hm
    refine reg [⟨false, [], vS (Instr.loadAt 34 (.pointer (some ⟨g1, 0, none⟩))), .slice A1 p1.length c1⟩, ⟨false, [(((p1.length : Int) != 64), false)], vS (Instr.loadAt 3 (.pointer (some ⟨g1, 1, none⟩))), .int .i64 p2⟩, ⟨false, [(((p1.length : Int) != 64), false)], callFunc 74 #[.int .i64 p2, .int .i64 0, .int .i64 1], .bool r1⟩, ⟨false, [(((p1.length : Int) != 64) || (!r1), false)], vS (Instr.loadAt 3 (.pointer (some ⟨g1, 2, none⟩))), .int .i64 p3⟩, ⟨false, [(((p1.length : Int) != 64) || (!r1), false)], callFunc 74 #[.int .i64 p3, .int .i64 0, .int .i64 15], .bool r2⟩, ⟨false, [((((p1.length : Int) != 64) || (!r1)) || (!r2), false)], vS (Instr.loadAt 3 (.pointer (some ⟨g1, 4, none⟩))), .int .i64 p5⟩, ⟨false, [((((p1.length : Int) != 64) || (!r1)) || (!r2), false)], callFunc 74 #[.int .i64 p5, .int .i64 0, .int .i64 999], .bool r3⟩, ⟨false, [(((((p1.length : Int) != 64) || (!r1)) || (!r2)) || (!r3), false)], vS (Instr.loadAt 3 (.pointer (some ⟨g1, 5, none⟩))), .int .i64 p6⟩, ⟨false, [(((((p1.length : Int) != 64) || (!r1)) || (!r2)) || (!r3), false)], callFunc 74 #[.int .i64 p6, .int .i64 1, .int .i64 999], .bool r4⟩] [none, some (.slice A1 p1.length c1), none, none, none, none, some (.int .i64 p2), some (.bool r1), none, none, none, none, some (.int .i64 p3), some (.bool r2), none, none, none, none, some (.int .i64 p5), some (.bool r3), none, none, none, none, some (.int .i64 p6), some (.bool r4), none, none] [1, 39] [pl 1 (.pointer (some ⟨g1, 0, none⟩)), pl 39 (.bool ((((((p1.length : Int) != 64) || (!r1)) || (!r2)) || (!r3)) || (!r4)))] hF hS Fol (by kernel_rfl) (by kernel_rfl) (by kernel_rfl) ?_ (fun a w hF hS => ?_)
    · exact obs_cons (ob_load Agg34 (fun _ _ hS => (hS.at_ 0 rfl).cell rfl)) <| obs_cons (ob_load Agg3 (fun _ _ hS => (hS.at_ 0 rfl).cell rfl)) <| obs_cons (ob_call Try.func74 (by kernel_rfl) rfl (fun hy _ hS => gameroomref_within_w (ite_some hr1 (by rw [show ((p1.length : Int) != 64) = false from hy (((p1.length : Int) != 64), false) (by simp)]; try rfl)) hS )) <| obs_cons (ob_load Agg3 (fun _ _ hS => (hS.at_ 0 rfl).cell rfl)) <| obs_cons (ob_call Try.func74 (by kernel_rfl) rfl (fun hy _ hS => gameroomref_within_w (ite_some hr2 (by rw [show (((p1.length : Int) != 64) || (!r1)) = false from hy (((p1.length : Int) != 64) || (!r1), false) (by simp)]; try rfl)) hS )) <| obs_cons (ob_load Agg3 (fun _ _ hS => (hS.at_ 0 rfl).cell rfl)) <| obs_cons (ob_call Try.func74 (by kernel_rfl) rfl (fun hy _ hS => gameroomref_within_w (ite_some hr3 (by rw [show ((((p1.length : Int) != 64) || (!r1)) || (!r2)) = false from hy ((((p1.length : Int) != 64) || (!r1)) || (!r2), false) (by simp)]; try rfl)) hS )) <| obs_cons (ob_load Agg3 (fun _ _ hS => (hS.at_ 0 rfl).cell rfl)) <| obs_cons (ob_call Try.func74 (by kernel_rfl) rfl (fun hy _ hS => gameroomref_within_w (ite_some hr4 (by rw [show (((((p1.length : Int) != 64) || (!r1)) || (!r2)) || (!r3)) = false from hy (((((p1.length : Int) != 64) || (!r1)) || (!r2)) || (!r3), false) (by simp)]; try rfl)) hS )) <| obs_nil
    refine cond_ev (t := 39) (b := (((((p1.length : Int) != 64) || (!r1)) || (!r2)) || (!r3)) || (!r4)) hF (by kernel_rfl) (fun hb => ?_) (fun hb => ?_)
    · replace hm := if_t hm hb
      refine reg [] [] [2] [pl 2 (.bool false)] hF hS Fol (by kernel_rfl) (by kernel_rfl) (by kernel_rfl) ?_ (fun a w hF hS => ?_)
      · exact obs_nil
      refine wpIn_ret ?_
      refine then_r ?_
      have hS := hS.pickN 1 [] (by decide)
      have hm : some false = some r := hm
      obtain rfl := Option.some.inj hm
      exact retV (rs := [.tmp 2]) (vs := [.bool false]) hF rfl (rv_t (by kernel_rfl) <| rv_nil) rfl ⟨rfl, hS⟩
    · replace hm := if_f hm hb
      refine wpIn_skip ?_
      refine then_n ?_
      exact ⟨hF.weak [1] (by kernel_rfl), hS, hm⟩

noncomputable def gameroomref_MaterialOf_J3  (i1 : Int) (sum3 : Int) (minor3 : Int) (knights3 : Int) (light3 : Int) (dark3 : Int) (dead3 : Bool) : Option (St (Int × Int × Int × Int × Int × Bool × Int) (Int × Int × Int × Int × Int × Bool)) :=
  some (.next (sum3, minor3, knights3, light3, dark3, dead3, (w64 (i1 + 1))))

noncomputable def gameroomref_MaterialOf_J4  (sum1 : Int) (minor1 : Int) (knights1 : Int) (light1 : Int) (dark1 : Int) (dead1 : Bool) (i1 : Int) (r1 : Int) (r2 : Int) (r3 : Int) (z1 : Bool) : Option (St (Int × Int × Int × Int × Int × Bool × Int) (Int × Int × Int × Int × Int × Bool)) :=
  if z1 then ((gameroomref_MaterialOf_J3 i1) (w64 (sum1 + (w64 (r1 * (geti ([0, 1, 3, 3, 5, 9, 0] : List Int) r2))))) minor1 knights1 light1 dark1 false) else (if (r3 == 2) then ((gameroomref_MaterialOf_J3 i1) (w64 (sum1 + (w64 (r1 * (geti ([0, 1, 3, 3, 5, 9, 0] : List Int) r2))))) (w64 (minor1 + 1)) (w64 (knights1 + 1)) light1 dark1 dead1) else (if (r3 == 3) then (if ((Int.tmod (w64 ((Int.tmod i1 8) + (w64 (Int.tdiv i1 8)))) 2) == 0) then ((gameroomref_MaterialOf_J3 i1) (w64 (sum1 + (w64 (r1 * (geti ([0, 1, 3, 3, 5, 9, 0] : List Int) r2))))) (w64 (minor1 + 1)) knights1 light1 (w64 (dark1 + 1)) dead1) else ((gameroomref_MaterialOf_J3 i1) (w64 (sum1 + (w64 (r1 * (geti ([0, 1, 3, 3, 5, 9, 0] : List Int) r2))))) (w64 (minor1 + 1)) knights1 (w64 (light1 + 1)) dark1 dead1)) else ((gameroomref_MaterialOf_J3 i1) (w64 (sum1 + (w64 (r1 * (geti ([0, 1, 3, 3, 5, 9, 0] : List Int) r2))))) minor1 knights1 light1 dark1 dead1)))

noncomputable def gameroomref_MaterialOf_J2  (p1 : List Int) (sum1 : Int) (minor1 : Int) (knights1 : Int) (light1 : Int) (dark1 : Int) (dead1 : Bool) (i1 : Int) : Option (St (Int × Int × Int × Int × Int × Bool × Int) (Int × Int × Int × Int × Int × Bool)) :=
  asrt (0 ≤ i1 ∧ i1 < (p1.length : Int)) <| (gameroomref_signOf_m (geti p1 i1)).bind fun r1 => (gameroomref_size_m (geti p1 i1)).bind fun r2 => asrt (0 ≤ r2 ∧ r2 < 7) <| (gameroomref_size_m (geti p1 i1)).bind fun r3 => if (r3 == 1) then ((gameroomref_MaterialOf_J4 sum1 minor1 knights1 light1 dark1 dead1 i1 r1 r2 r3) (r3 == 1)) else (if (r3 == 4) then ((gameroomref_MaterialOf_J4 sum1 minor1 knights1 light1 dark1 dead1 i1 r1 r2 r3) (r3 == 4)) else ((gameroomref_MaterialOf_J4 sum1 minor1 knights1 light1 dark1 dead1 i1 r1 r2 r3) (r3 == 5)))

noncomputable def gameroomref_MaterialOf_J1  (sum2 : Int) (minor2 : Int) (knights2 : Int) (light2 : Int) (dark2 : Int) (dead2 : Bool) : Option (Int × Bool) :=
  some (sum2, (dead2 && ((decide (minor2 ≤ 1)) || ((knights2 == 0) && ((light2 == 0) || (dark2 == 0))))))

noncomputable def gameroomref_MaterialOf_K1  : (Int × Int × Int × Int × Int × Bool) → Option (Int × Bool) :=
  fun (x : (Int × Int × Int × Int × Int × Bool)) => match x with | (sum2, minor2, knights2, light2, dark2, dead2) => gameroomref_MaterialOf_J1 sum2 minor2 knights2 light2 dark2 dead2

noncomputable def gameroomref_MaterialOf_L1  (p1 : List Int) : (Int × Int × Int × Int × Int × Bool × Int) → Option (St (Int × Int × Int × Int × Int × Bool × Int) (Int × Int × Int × Int × Int × Bool)) :=
  fun (x : (Int × Int × Int × Int × Int × Bool × Int)) => match x with | (sum1, minor1, knights1, light1, dark1, dead1, i1) => if (decide (i1 < 64)) then ((gameroomref_MaterialOf_J2 p1 sum1 minor1 knights1 light1 dark1 dead1 i1)) else (some (.done (sum1, minor1, knights1, light1, dark1, dead1)))

noncomputable def gameroomref_MaterialOf_m  (p1 : List Int) (p2 : Int) (p3 : Int) (p4 : Int) (p5 : Int) (p6 : Int) : Option (Int × Bool) :=
  (loop (gameroomref_MaterialOf_L1 p1) (0, 0, 0, 0, 0, true, 0)).bind gameroomref_MaterialOf_K1

set_option maxRecDepth 100000 in
set_option maxHeartbeats 4000000 in
theorem gameroomref_MaterialOf_w {A1 : Option Addr} {c1 : Nat} {n1 : Nat} {p1 : List Int} {p2 : Int} {p3 : Int} {p4 : Int} {p5 : Int} {p6 : Int} {r : (Int × Bool)} {w0 w : World} {B : Nat} {fs : List HP} (hm : gameroomref_MaterialOf_m p1 p2 p3 p4 p5 p6 = some r) (hS : Sep w0 B w (fs)) (hr_p1 : RdF w0 B fs A1 (vI p1)) (_hc_p1 : p1.length ≤ c1) (_hn_p1 : n1 = p1.length) :
    Calls Try.prog 25 #[.agg #[.slice A1 n1 c1, .int .i64 p2, .int .i64 p3, .int .i64 p4, .int .i64 p5, .int .i64 p6]] w fun e w' => e = .returned (.tuple #[.int .i64 r.1, .bool r.2]) ∧ Sep w0 B w' (fs) := by
  obtain ⟨i3, hi3, hz3, hs3, hb3⟩ := info_parts Info3
  obtain rfl := _hn_p1
  unfold gameroomref_MaterialOf_m at hm
  replace hm := start_b hm
  refine enter (l := [.agg #[.slice A1 p1.length c1, .int .i64 p2, .int .i64 p3, .int .i64 p4, .int .i64 p5, .int .i64 p6]]) (n := 76) Try.func25 rfl rfl (by simp) (fun a hF => ?_)
  refine seqR ?_
  refine at_do (d := 1) (s := vS (Instr.box 36 (.agg #[.slice A1 p1.length c1, .int .i64 p2, .int .i64 p3, .int .i64 p4, .int .i64 p5, .int .i64 p6]))) (v := .pointer (some ⟨w.heap.size, 0, none⟩)) (w' := w.alloc (.cells #[.slice A1 p1.length c1, .int .i64 p2, .int .i64 p3, .int .i64 p4, .int .i64 p5, .int .i64 p6] 36)) hF (by kernel_rfl) (by kernel_rfl) (by kernel_rfl) (fun a hF => ?_)
  have hS : Sep w0 B (w.alloc (.cells #[.slice A1 p1.length c1, .int .i64 p2, .int .i64 p3, .int .i64 p4, .int .i64 p5, .int .i64 p6] 36)) (blk w.heap.size 36 #[.slice A1 p1.length c1, .int .i64 p2, .int .i64 p3, .int .i64 p4, .int .i64 p5, .int .i64 p6] :: (fs)) := hS.box 36 #[.slice A1 p1.length c1, .int .i64 p2, .int .i64 p3, .int .i64 p4, .int .i64 p5, .int .i64 p6]
  generalize w.heap.size = g1 at hF hS
  generalize w.alloc (.cells #[.slice A1 p1.length c1, .int .i64 p2, .int .i64 p3, .int .i64 p4, .int .i64 p5, .int .i64 p6] 36) = w at hS ⊢
  refine at_run 2 [] [] [1] [pl 1 (.pointer (some ⟨g1, 0, none⟩))] hF hS (by kernel_rfl) (by kernel_rfl) ?_ (fun a w hF hS => ?_)
  · exact obs_nil
  refine at_end [1] [pl 1 (.pointer (some ⟨g1, 0, none⟩))] hF rfl (by kernel_rfl) (fun hF => ?_)
  refine then_n ?_
  refine reg [] [] [1, 4, 5, 6, 7, 8] [pl 1 (.pointer (some ⟨g1, 0, none⟩)), pl 4 (.int .i64 0), pl 5 (.int .i64 0), pl 6 (.int .i64 0), pl 7 (.int .i64 0), pl 8 (.int .i64 0)] hF hS Fol (by kernel_rfl) (by kernel_rfl) (by kernel_rfl) ?_ (fun a w hF hS => ?_)
  · exact obs_nil
  refine reg [] [] [1, 4, 5, 6, 7, 8, 9] [pl 1 (.pointer (some ⟨g1, 0, none⟩)), pl 4 (.int .i64 0), pl 5 (.int .i64 0), pl 6 (.int .i64 0), pl 7 (.int .i64 0), pl 8 (.int .i64 0), pl 9 (.bool true)] hF hS Fol (by kernel_rfl) (by kernel_rfl) (by kernel_rfl) ?_ (fun a w hF hS => ?_)
  · exact obs_nil
  refine seq_cut (fun a w => ∃ (sum2 : Int) (minor2 : Int) (knights2 : Int) (light2 : Int) (dark2 : Int) (dead2 : Bool), Fr 76 [pl 4 (.int .i64 sum2), pl 5 (.int .i64 minor2), pl 6 (.int .i64 knights2), pl 7 (.int .i64 light2), pl 8 (.int .i64 dark2), pl 9 (.bool dead2)] a ∧ Sep w0 B w (fs) ∧ (gameroomref_MaterialOf_J1 sum2 minor2 knights2 light2 dark2 dead2).bind some = some r) ?_ ?_
  · rintro a w ⟨sum2, minor2, knights2, light2, dark2, dead2, hF, hS, hm⟩
    unfold gameroomref_MaterialOf_J1 at hm
    refine reg [] [] [2, 3] [pl 2 (.int .i64 sum2), pl 3 (.bool (dead2 && ((decide (minor2 ≤ 1)) || ((knights2 == 0) && ((light2 == 0) || (dark2 == 0))))))] hF hS Fol (by kernel_rfl) (by kernel_rfl) (by kernel_rfl) ?_ (fun a w hF hS => ?_)
    · exact obs_nil
    refine wpIn_ret ?_
    have hm : some (sum2, (dead2 && ((decide (minor2 ≤ 1)) || ((knights2 == 0) && ((light2 == 0) || (dark2 == 0)))))) = some r := hm
    obtain rfl := Option.some.inj hm
    exact retV (rs := [.tmp 2, .tmp 3]) (vs := [.int .i64 sum2, .bool (dead2 && ((decide (minor2 ≤ 1)) || ((knights2 == 0) && ((light2 == 0) || (dark2 == 0)))))]) hF rfl (rv_t (by kernel_rfl) <| rv_t (by kernel_rfl) <| rv_nil) rfl ⟨rfl, hS⟩
  · refine reg [] [] [1, 4, 5, 6, 7, 8, 9, 10] [pl 1 (.pointer (some ⟨g1, 0, none⟩)), pl 4 (.int .i64 0), pl 5 (.int .i64 0), pl 6 (.int .i64 0), pl 7 (.int .i64 0), pl 8 (.int .i64 0), pl 9 (.bool true), pl 10 (.int .i64 0)] hF hS Fol (by kernel_rfl) (by kernel_rfl) (by kernel_rfl) ?_ (fun a w hF hS => ?_)
    · exact obs_nil
    refine wpIn_block ?_
    refine wp_loop_model (S := (Int × Int × Int × Int × Int × Bool × Int)) (R := (Int × Int × Int × Int × Int × Bool)) (gameroomref_MaterialOf_L1 p1) (fun x => (gameroomref_MaterialOf_K1 x).bind some) r (fun (x : (Int × Int × Int × Int × Int × Bool × Int)) a w => Fr 76 [pl 1 (.pointer (some ⟨g1, 0, none⟩)), pl 4 (.int .i64 x.1), pl 5 (.int .i64 x.2.1), pl 6 (.int .i64 x.2.2.1), pl 7 (.int .i64 x.2.2.2.1), pl 8 (.int .i64 x.2.2.2.2.1), pl 9 (.bool x.2.2.2.2.2.1), pl 10 (.int .i64 x.2.2.2.2.2.2)] a ∧ Sep w0 B w (blk g1 36 #[.slice A1 p1.length c1, .int .i64 p2, .int .i64 p3, .int .i64 p4, .int .i64 p5, .int .i64 p6] :: fs)) (assoc_b hm) ⟨hF.weak [1, 4, 5, 6, 7, 8, 9, 10] (by kernel_rfl), hS⟩ ?_
    clear hF hS hm
    rintro nn1 ⟨sum1, minor1, knights1, light1, dark1, dead1, i1⟩ a w ⟨hF, hS⟩ hm
    generalize hφ1 : stK (gameroomref_MaterialOf_L1 p1) nn1 (fun x => (gameroomref_MaterialOf_K1 x).bind some) = φ1 at hm
    unfold gameroomref_MaterialOf_L1 at hm
    dsimp only at hF hS hm
    refine seq_cut (fun a w => Fr 76 [pl 1 (.pointer (some ⟨g1, 0, none⟩)), pl 4 (.int .i64 sum1), pl 5 (.int .i64 minor1), pl 6 (.int .i64 knights1), pl 7 (.int .i64 light1), pl 8 (.int .i64 dark1), pl 9 (.bool dead1), pl 10 (.int .i64 i1)] a ∧ Sep w0 B w (blk g1 36 #[.slice A1 p1.length c1, .int .i64 p2, .int .i64 p3, .int .i64 p4, .int .i64 p5, .int .i64 p6] :: fs) ∧ ((gameroomref_MaterialOf_J2 p1 sum1 minor1 knights1 light1 dark1 dead1 i1)).bind φ1 = some r) ?_ ?_
    · rintro a w ⟨hF, hS, hm⟩
      unfold gameroomref_MaterialOf_J2 at hm
      refine seq_cut (fun a w => ∃ (sum3 : Int) (minor3 : Int) (knights3 : Int) (light3 : Int) (dark3 : Int) (dead3 : Bool), Fr 76 [pl 1 (.pointer (some ⟨g1, 0, none⟩)), pl 4 (.int .i64 sum3), pl 5 (.int .i64 minor3), pl 6 (.int .i64 knights3), pl 7 (.int .i64 light3), pl 8 (.int .i64 dark3), pl 9 (.bool dead3), pl 10 (.int .i64 i1)] a ∧ Sep w0 B w (blk g1 36 #[.slice A1 p1.length c1, .int .i64 p2, .int .i64 p3, .int .i64 p4, .int .i64 p5, .int .i64 p6] :: fs) ∧ ((gameroomref_MaterialOf_J3 i1) sum3 minor3 knights3 light3 dark3 dead3).bind φ1 = some r) ?_ ?_
      · rintro a w ⟨sum3, minor3, knights3, light3, dark3, dead3, hF, hS, hm⟩
        unfold gameroomref_MaterialOf_J3 at hm
        refine reg1 [] [] [1, 4, 5, 6, 7, 8, 9, 10] [pl 1 (.pointer (some ⟨g1, 0, none⟩)), pl 4 (.int .i64 sum3), pl 5 (.int .i64 minor3), pl 6 (.int .i64 knights3), pl 7 (.int .i64 light3), pl 8 (.int .i64 dark3), pl 9 (.bool dead3), pl 10 (.int .i64 (w64 (i1 + 1)))] hF hS Fol (by kernel_rfl) (by kernel_rfl) (by kernel_rfl) ?_ (fun a w hF hS => ?_)
        · exact obs_nil
        refine then_n ?_
        rw [← hφ1] at hm
        exact ⟨(sum3, minor3, knights3, light3, dark3, dead3, (w64 (i1 + 1))), ⟨hF.weak [1, 4, 5, 6, 7, 8, 9, 10] (by kernel_rfl), hS⟩, hm⟩
      · refine wpIn_block ?_
        obtain ⟨hp1, hm⟩ := asrt_b hm
        refine reg [⟨false, [], vS (Instr.loadAt 34 (.pointer (some ⟨g1, 0, none⟩))), .slice A1 p1.length c1⟩, ⟨true, [], vS (Instr.indexAt 34 (.slice A1 p1.length c1) (.int .i64 i1)), .pointer (some (sAddr A1 i1))⟩, ⟨false, [], vS (Instr.loadAt 3 (.pointer (some (sAddr A1 i1)))), .int .i64 (geti p1 i1)⟩] [none, some (.slice A1 p1.length c1), none, some (.pointer (some (sAddr A1 i1))), some (.int .i64 (geti p1 i1)), none] [1, 4, 5, 6, 7, 8, 9, 10, 11] [pl 1 (.pointer (some ⟨g1, 0, none⟩)), pl 4 (.int .i64 sum1), pl 5 (.int .i64 minor1), pl 6 (.int .i64 knights1), pl 7 (.int .i64 light1), pl 8 (.int .i64 dark1), pl 9 (.bool dead1), pl 10 (.int .i64 i1), pl 11 (.int .i64 (geti p1 i1))] hF hS Fol (by kernel_rfl) (by kernel_rfl) (by kernel_rfl) ?_ (fun a w hF hS => ?_)
        · exact obs_cons (ob_load Agg34 (fun _ _ hS => (hS.at_ 0 rfl).cell rfl)) <| obs_cons (ob_ix1 (f := (Value.int .i64)) (m := p1) Und34 hi3 hs3 (hr_p1 _ (hS.dropN 1)) rfl (fun _ => hp1)) <| obs_cons (ob_get1 (n := p1.length) (m := p1) (Value.int .i64) (0 : Int) Agg3 (fun _ hS => ⟨_, (hr_p1 _ (hS.dropN 1))⟩) (fun _ hS => rfl) (fun _ => hp1)) <| obs_nil
        refine seqR ?_
        obtain ⟨r1, hr1, hm⟩ := call_b hm
        obtain ⟨r2, hr2, hm⟩ := call_b hm
        obtain ⟨hp2, hm⟩ := asrt_b hm
        refine at_run 3 [⟨false, [], callFunc 81 #[.int .i64 (geti p1 i1)], .int .i64 r1⟩] [none, none, some (.int .i64 r1)] [1, 5, 6, 7, 8, 9, 10, 11, 21, 23] [pl 1 (.pointer (some ⟨g1, 0, none⟩)), pl 5 (.int .i64 minor1), pl 6 (.int .i64 knights1), pl 7 (.int .i64 light1), pl 8 (.int .i64 dark1), pl 9 (.bool dead1), pl 10 (.int .i64 i1), pl 11 (.int .i64 (geti p1 i1)), pl 21 (.int .i64 sum1), pl 23 (.int .i64 r1)] hF hS (by kernel_rfl) (by kernel_rfl) ?_ (fun a w hF hS => ?_)
        · exact obs_cons (ob_call Try.func81 (by kernel_rfl) rfl (fun _ _ hS => gameroomref_signOf_w hr1 hS )) <| obs_nil
        refine at_do (d := 24) (s := vS (Instr.buildSlice 34 7 #[(0, .int .i64 0), (1, .int .i64 1), (2, .int .i64 3), (3, .int .i64 3), (4, .int .i64 5), (5, .int .i64 9), (6, .int .i64 0)])) (v := .slice (some ⟨w.heap.size, 0, none⟩) 7 7) (w' := w.alloc (.cells #[.int .i64 0, .int .i64 1, .int .i64 3, .int .i64 3, .int .i64 5, .int .i64 9, .int .i64 0] 3)) hF (by kernel_rfl) (by kernel_rfl) (by kernel_rfl) (fun a hF => ?_)
        have hS : Sep w0 B (w.alloc (.cells #[.int .i64 0, .int .i64 1, .int .i64 3, .int .i64 3, .int .i64 5, .int .i64 9, .int .i64 0] 3)) (own 3 (.slice (some (⟨w.heap.size, 0, none⟩ : Addr)) 7 7) (vI ([0, 1, 3, 3, 5, 9, 0] : List Int)) :: (blk g1 36 #[.slice A1 p1.length c1, .int .i64 p2, .int .i64 p3, .int .i64 p4, .int .i64 p5, .int .i64 p6] :: fs)) := hS.lit 3 #[.int .i64 0, .int .i64 1, .int .i64 3, .int .i64 3, .int .i64 5, .int .i64 9, .int .i64 0] 7 rfl (by omega)
        generalize (some (⟨w.heap.size, 0, none⟩ : Addr)) = g2 at hF hS
        generalize w.alloc (.cells #[.int .i64 0, .int .i64 1, .int .i64 3, .int .i64 3, .int .i64 5, .int .i64 9, .int .i64 0] 3) = w at hS ⊢
        refine at_run 7 [⟨false, [], callFunc 80 #[.int .i64 (geti p1 i1)], .int .i64 r2⟩, ⟨true, [], vS (Instr.indexAt 34 (.slice g2 7 7) (.int .i64 r2)), .pointer (some (sAddr g2 r2))⟩, ⟨false, [], vS (Instr.loadAt 3 (.pointer (some (sAddr g2 r2)))), .int .i64 (geti ([0, 1, 3, 3, 5, 9, 0] : List Int) r2)⟩] [none, some (.int .i64 r2), some (.pointer (some (sAddr g2 r2))), some (.int .i64 (geti ([0, 1, 3, 3, 5, 9, 0] : List Int) r2)), none, none, none] [1, 4, 5, 6, 7, 8, 9, 10, 11] [pl 1 (.pointer (some ⟨g1, 0, none⟩)), pl 4 (.int .i64 (w64 (sum1 + (w64 (r1 * (geti ([0, 1, 3, 3, 5, 9, 0] : List Int) r2)))))), pl 5 (.int .i64 minor1), pl 6 (.int .i64 knights1), pl 7 (.int .i64 light1), pl 8 (.int .i64 dark1), pl 9 (.bool dead1), pl 10 (.int .i64 i1), pl 11 (.int .i64 (geti p1 i1))] hF hS (by kernel_rfl) (by kernel_rfl) ?_ (fun a w hF hS => ?_)
        · exact obs_cons (ob_call Try.func80 (by kernel_rfl) rfl (fun _ _ hS => gameroomref_size_w hr2 hS )) <| obs_cons (ob_ix1 (f := (Value.int .i64)) (m := ([0, 1, 3, 3, 5, 9, 0] : List Int)) Und34 hi3 hs3 (hS.at_ 0 rfl).rd ((hS.at_ 0 rfl).len1) (fun _ => hp2)) <| obs_cons (ob_get1 (n := 7) (m := ([0, 1, 3, 3, 5, 9, 0] : List Int)) (Value.int .i64) (0 : Int) Agg3 (fun _ hS => ⟨_, (hS.at_ 0 rfl).rd⟩) (fun _ hS => ((hS.at_ 0 rfl).len1)) (fun _ => hp2)) <| obs_nil
        refine at_end [1, 4, 5, 6, 7, 8, 9, 10, 11] [pl 1 (.pointer (some ⟨g1, 0, none⟩)), pl 4 (.int .i64 (w64 (sum1 + (w64 (r1 * (geti ([0, 1, 3, 3, 5, 9, 0] : List Int) r2)))))), pl 5 (.int .i64 minor1), pl 6 (.int .i64 knights1), pl 7 (.int .i64 light1), pl 8 (.int .i64 dark1), pl 9 (.bool dead1), pl 10 (.int .i64 i1), pl 11 (.int .i64 (geti p1 i1))] hF rfl (by kernel_rfl) (fun hF => ?_)
        refine then_n ?_
        obtain ⟨r3, hr3, hm⟩ := call_b hm
        refine reg [⟨false, [], callFunc 80 #[.int .i64 (geti p1 i1)], .int .i64 r3⟩] [none, some (.int .i64 r3)] [1, 4, 5, 6, 7, 8, 9, 10, 32] [pl 1 (.pointer (some ⟨g1, 0, none⟩)), pl 4 (.int .i64 (w64 (sum1 + (w64 (r1 * (geti ([0, 1, 3, 3, 5, 9, 0] : List Int) r2)))))), pl 5 (.int .i64 minor1), pl 6 (.int .i64 knights1), pl 7 (.int .i64 light1), pl 8 (.int .i64 dark1), pl 9 (.bool dead1), pl 10 (.int .i64 i1), pl 32 (.int .i64 r3)] hF hS Fol (by kernel_rfl) (by kernel_rfl) (by kernel_rfl) ?_ (fun a w hF hS => ?_)
        · exact obs_cons (ob_call Try.func80 (by kernel_rfl) rfl (fun _ _ hS => gameroomref_size_w hr3 hS )) <| obs_nil
        refine wpIn_block ?_
        refine seq_cut (fun a w => ∃ (z1 : Bool), Fr 76 [pl 1 (.pointer (some ⟨g1, 0, none⟩)), pl 4 (.int .i64 (w64 (sum1 + (w64 (r1 * (geti ([0, 1, 3, 3, 5, 9, 0] : List Int) r2)))))), pl 5 (.int .i64 minor1), pl 6 (.int .i64 knights1), pl 7 (.int .i64 light1), pl 8 (.int .i64 dark1), pl 9 (.bool dead1), pl 10 (.int .i64 i1), pl 32 (.int .i64 r3), pl 33 (.bool z1)] a ∧ Sep w0 B w (blk g1 36 #[.slice A1 p1.length c1, .int .i64 p2, .int .i64 p3, .int .i64 p4, .int .i64 p5, .int .i64 p6] :: fs) ∧ ((gameroomref_MaterialOf_J4 sum1 minor1 knights1 light1 dark1 dead1 i1 r1 r2 r3) z1).bind φ1 = some r) ?_ ?_
        · rintro a w ⟨z1, hF, hS, hm⟩
          unfold gameroomref_MaterialOf_J4 at hm
          refine cond_ev (t := 33) (b := z1) hF (by kernel_rfl) (fun hb => ?_) (fun hb => ?_)
          · replace hm := if_t hm hb
            refine reg1 [] [] [1, 4, 5, 6, 7, 8, 9, 10] [pl 1 (.pointer (some ⟨g1, 0, none⟩)), pl 4 (.int .i64 (w64 (sum1 + (w64 (r1 * (geti ([0, 1, 3, 3, 5, 9, 0] : List Int) r2)))))), pl 5 (.int .i64 minor1), pl 6 (.int .i64 knights1), pl 7 (.int .i64 light1), pl 8 (.int .i64 dark1), pl 9 (.bool false), pl 10 (.int .i64 i1)] hF hS Fol (by kernel_rfl) (by kernel_rfl) (by kernel_rfl) ?_ (fun a w hF hS => ?_)
            · exact obs_nil
            refine block_n ?_
            refine block_n ?_
            refine then_n ?_
            exact ⟨(w64 (sum1 + (w64 (r1 * (geti ([0, 1, 3, 3, 5, 9, 0] : List Int) r2))))), minor1, knights1, light1, dark1, false, hF.weak [1, 4, 5, 6, 7, 8, 9, 10] (by kernel_rfl), hS, hm⟩
          · replace hm := if_f hm hb
            refine reg [] [] [1, 4, 5, 6, 7, 8, 9, 10, 32, 37] [pl 1 (.pointer (some ⟨g1, 0, none⟩)), pl 4 (.int .i64 (w64 (sum1 + (w64 (r1 * (geti ([0, 1, 3, 3, 5, 9, 0] : List Int) r2)))))), pl 5 (.int .i64 minor1), pl 6 (.int .i64 knights1), pl 7 (.int .i64 light1), pl 8 (.int .i64 dark1), pl 9 (.bool dead1), pl 10 (.int .i64 i1), pl 32 (.int .i64 r3), pl 37 (.bool (r3 == 2))] hF hS Fol (by kernel_rfl) (by kernel_rfl) (by kernel_rfl) ?_ (fun a w hF hS => ?_)
            · exact obs_nil
            refine cond_ev (t := 37) (b := (r3 == 2)) hF (by kernel_rfl) (fun hb => ?_) (fun hb => ?_)
            · replace hm := if_t hm hb
              refine reg [] [] [1, 4, 5, 6, 7, 8, 9, 10] [pl 1 (.pointer (some ⟨g1, 0, none⟩)), pl 4 (.int .i64 (w64 (sum1 + (w64 (r1 * (geti ([0, 1, 3, 3, 5, 9, 0] : List Int) r2)))))), pl 5 (.int .i64 minor1), pl 6 (.int .i64 (w64 (knights1 + 1))), pl 7 (.int .i64 light1), pl 8 (.int .i64 dark1), pl 9 (.bool dead1), pl 10 (.int .i64 i1)] hF hS Fol (by kernel_rfl) (by kernel_rfl) (by kernel_rfl) ?_ (fun a w hF hS => ?_)
              · exact obs_nil
              refine reg1 [] [] [1, 4, 5, 6, 7, 8, 9, 10] [pl 1 (.pointer (some ⟨g1, 0, none⟩)), pl 4 (.int .i64 (w64 (sum1 + (w64 (r1 * (geti ([0, 1, 3, 3, 5, 9, 0] : List Int) r2)))))), pl 5 (.int .i64 (w64 (minor1 + 1))), pl 6 (.int .i64 (w64 (knights1 + 1))), pl 7 (.int .i64 light1), pl 8 (.int .i64 dark1), pl 9 (.bool dead1), pl 10 (.int .i64 i1)] hF hS Fol (by kernel_rfl) (by kernel_rfl) (by kernel_rfl) ?_ (fun a w hF hS => ?_)
              · exact obs_nil
              refine block_n ?_
              refine block_n ?_
              refine then_n ?_
              exact ⟨(w64 (sum1 + (w64 (r1 * (geti ([0, 1, 3, 3, 5, 9, 0] : List Int) r2))))), (w64 (minor1 + 1)), (w64 (knights1 + 1)), light1, dark1, dead1, hF.weak [1, 4, 5, 6, 7, 8, 9, 10] (by kernel_rfl), hS, hm⟩
            · replace hm := if_f hm hb
              refine reg [] [] [1, 4, 5, 6, 7, 8, 9, 10, 43] [pl 1 (.pointer (some ⟨g1, 0, none⟩)), pl 4 (.int .i64 (w64 (sum1 + (w64 (r1 * (geti ([0, 1, 3, 3, 5, 9, 0] : List Int) r2)))))), pl 5 (.int .i64 minor1), pl 6 (.int .i64 knights1), pl 7 (.int .i64 light1), pl 8 (.int .i64 dark1), pl 9 (.bool dead1), pl 10 (.int .i64 i1), pl 43 (.bool (r3 == 3))] hF hS Fol (by kernel_rfl) (by kernel_rfl) (by kernel_rfl) ?_ (fun a w hF hS => ?_)
              · exact obs_nil
              refine cond_ev (t := 43) (b := (r3 == 3)) hF (by kernel_rfl) (fun hb => ?_) (fun hb => ?_)
              · replace hm := if_t hm hb
                refine reg [] [] [1, 4, 5, 6, 7, 8, 9, 10] [pl 1 (.pointer (some ⟨g1, 0, none⟩)), pl 4 (.int .i64 (w64 (sum1 + (w64 (r1 * (geti ([0, 1, 3, 3, 5, 9, 0] : List Int) r2)))))), pl 5 (.int .i64 (w64 (minor1 + 1))), pl 6 (.int .i64 knights1), pl 7 (.int .i64 light1), pl 8 (.int .i64 dark1), pl 9 (.bool dead1), pl 10 (.int .i64 i1)] hF hS Fol (by kernel_rfl) (by kernel_rfl) (by kernel_rfl) ?_ (fun a w hF hS => ?_)
                · exact obs_nil
                refine reg [] [] [1, 4, 5, 6, 7, 8, 9, 10, 53] [pl 1 (.pointer (some ⟨g1, 0, none⟩)), pl 4 (.int .i64 (w64 (sum1 + (w64 (r1 * (geti ([0, 1, 3, 3, 5, 9, 0] : List Int) r2)))))), pl 5 (.int .i64 (w64 (minor1 + 1))), pl 6 (.int .i64 knights1), pl 7 (.int .i64 light1), pl 8 (.int .i64 dark1), pl 9 (.bool dead1), pl 10 (.int .i64 i1), pl 53 (.bool ((Int.tmod (w64 ((Int.tmod i1 8) + (w64 (Int.tdiv i1 8)))) 2) == 0))] hF hS Fol (by kernel_rfl) (by kernel_rfl) (by kernel_rfl) ?_ (fun a w hF hS => ?_)
                · exact obs_nil
                refine cond_ev (t := 53) (b := ((Int.tmod (w64 ((Int.tmod i1 8) + (w64 (Int.tdiv i1 8)))) 2) == 0)) hF (by kernel_rfl) (fun hb => ?_) (fun hb => ?_)
                · replace hm := if_t hm hb
                  refine reg1 [] [] [1, 4, 5, 6, 7, 8, 9, 10] [pl 1 (.pointer (some ⟨g1, 0, none⟩)), pl 4 (.int .i64 (w64 (sum1 + (w64 (r1 * (geti ([0, 1, 3, 3, 5, 9, 0] : List Int) r2)))))), pl 5 (.int .i64 (w64 (minor1 + 1))), pl 6 (.int .i64 knights1), pl 7 (.int .i64 light1), pl 8 (.int .i64 (w64 (dark1 + 1))), pl 9 (.bool dead1), pl 10 (.int .i64 i1)] hF hS Fol (by kernel_rfl) (by kernel_rfl) (by kernel_rfl) ?_ (fun a w hF hS => ?_)
                  · exact obs_nil
                  refine block_n ?_
                  refine block_n ?_
                  refine then_n ?_
                  exact ⟨(w64 (sum1 + (w64 (r1 * (geti ([0, 1, 3, 3, 5, 9, 0] : List Int) r2))))), (w64 (minor1 + 1)), knights1, light1, (w64 (dark1 + 1)), dead1, hF.weak [1, 4, 5, 6, 7, 8, 9, 10] (by kernel_rfl), hS, hm⟩
                · replace hm := if_f hm hb
                  refine reg1 [] [] [1, 4, 5, 6, 7, 8, 9, 10] [pl 1 (.pointer (some ⟨g1, 0, none⟩)), pl 4 (.int .i64 (w64 (sum1 + (w64 (r1 * (geti ([0, 1, 3, 3, 5, 9, 0] : List Int) r2)))))), pl 5 (.int .i64 (w64 (minor1 + 1))), pl 6 (.int .i64 knights1), pl 7 (.int .i64 (w64 (light1 + 1))), pl 8 (.int .i64 dark1), pl 9 (.bool dead1), pl 10 (.int .i64 i1)] hF hS Fol (by kernel_rfl) (by kernel_rfl) (by kernel_rfl) ?_ (fun a w hF hS => ?_)
                  · exact obs_nil
                  refine block_n ?_
                  refine block_n ?_
                  refine then_n ?_
                  exact ⟨(w64 (sum1 + (w64 (r1 * (geti ([0, 1, 3, 3, 5, 9, 0] : List Int) r2))))), (w64 (minor1 + 1)), knights1, (w64 (light1 + 1)), dark1, dead1, hF.weak [1, 4, 5, 6, 7, 8, 9, 10] (by kernel_rfl), hS, hm⟩
              · replace hm := if_f hm hb
                refine wpIn_skip ?_
                refine block_n ?_
                refine block_n ?_
                refine then_n ?_
                exact ⟨(w64 (sum1 + (w64 (r1 * (geti ([0, 1, 3, 3, 5, 9, 0] : List Int) r2))))), minor1, knights1, light1, dark1, dead1, hF.weak [1, 4, 5, 6, 7, 8, 9, 10] (by kernel_rfl), hS, hm⟩
        · refine reg [] [] [1, 4, 5, 6, 7, 8, 9, 10, 32, 33] [pl 1 (.pointer (some ⟨g1, 0, none⟩)), pl 4 (.int .i64 (w64 (sum1 + (w64 (r1 * (geti ([0, 1, 3, 3, 5, 9, 0] : List Int) r2)))))), pl 5 (.int .i64 minor1), pl 6 (.int .i64 knights1), pl 7 (.int .i64 light1), pl 8 (.int .i64 dark1), pl 9 (.bool dead1), pl 10 (.int .i64 i1), pl 32 (.int .i64 r3), pl 33 (.bool (r3 == 1))] hF hS Fol (by kernel_rfl) (by kernel_rfl) (by kernel_rfl) ?_ (fun a w hF hS => ?_)
          · exact obs_nil
          refine cond_ev (t := 33) (b := (r3 == 1)) hF (by kernel_rfl) (fun hb => ?_) (fun hb => ?_)
          · replace hm := if_t hm hb
            refine wpIn_skip ?_
            refine then_n ?_
            have hS := hS.pickN 2 [1] (by decide)
            exact ⟨(r3 == 1), hF.weak [1, 4, 5, 6, 7, 8, 9, 10, 32, 33] (by kernel_rfl), hS, hm⟩
          · replace hm := if_f hm hb
            refine reg [] [] [1, 4, 5, 6, 7, 8, 9, 10, 32, 33] [pl 1 (.pointer (some ⟨g1, 0, none⟩)), pl 4 (.int .i64 (w64 (sum1 + (w64 (r1 * (geti ([0, 1, 3, 3, 5, 9, 0] : List Int) r2)))))), pl 5 (.int .i64 minor1), pl 6 (.int .i64 knights1), pl 7 (.int .i64 light1), pl 8 (.int .i64 dark1), pl 9 (.bool dead1), pl 10 (.int .i64 i1), pl 32 (.int .i64 r3), pl 33 (.bool (r3 == 4))] hF hS Fol (by kernel_rfl) (by kernel_rfl) (by kernel_rfl) ?_ (fun a w hF hS => ?_)
            · exact obs_nil
            refine cond_ev (t := 33) (b := (r3 == 4)) hF (by kernel_rfl) (fun hb => ?_) (fun hb => ?_)
            · replace hm := if_t hm hb
              refine wpIn_skip ?_
              refine then_n ?_
              have hS := hS.pickN 2 [1] (by decide)
              exact ⟨(r3 == 4), hF.weak [1, 4, 5, 6, 7, 8, 9, 10, 32, 33] (by kernel_rfl), hS, hm⟩
            · replace hm := if_f hm hb
              refine reg1 [] [] [1, 4, 5, 6, 7, 8, 9, 10, 32, 33] [pl 1 (.pointer (some ⟨g1, 0, none⟩)), pl 4 (.int .i64 (w64 (sum1 + (w64 (r1 * (geti ([0, 1, 3, 3, 5, 9, 0] : List Int) r2)))))), pl 5 (.int .i64 minor1), pl 6 (.int .i64 knights1), pl 7 (.int .i64 light1), pl 8 (.int .i64 dark1), pl 9 (.bool dead1), pl 10 (.int .i64 i1), pl 32 (.int .i64 r3), pl 33 (.bool (r3 == 5))] hF hS Fol (by kernel_rfl) (by kernel_rfl) (by kernel_rfl) ?_ (fun a w hF hS => ?_)
              · exact obs_nil
              refine then_n ?_
              have hS := hS.pickN 2 [1] (by decide)
              exact ⟨(r3 == 5), hF.weak [1, 4, 5, 6, 7, 8, 9, 10, 32, 33] (by kernel_rfl), hS, hm⟩
    · refine reg [] [] [1, 4, 5, 6, 7, 8, 9, 10, 13] [pl 1 (.pointer (some ⟨g1, 0, none⟩)), pl 4 (.int .i64 sum1), pl 5 (.int .i64 minor1), pl 6 (.int .i64 knights1), pl 7 (.int .i64 light1), pl 8 (.int .i64 dark1), pl 9 (.bool dead1), pl 10 (.int .i64 i1), pl 13 (.bool (decide (i1 < 64)))] hF hS Fol (by kernel_rfl) (by kernel_rfl) (by kernel_rfl) ?_ (fun a w hF hS => ?_)
      · exact obs_nil
      refine cond_ev (t := 13) (b := decide (i1 < 64)) hF (by kernel_rfl) (fun hb => ?_) (fun hb => ?_)
      · replace hm := if_t hm hb
        refine wpIn_skip ?_
        refine then_n ?_
        exact ⟨hF.weak [1, 4, 5, 6, 7, 8, 9, 10] (by kernel_rfl), hS, hm⟩
      · replace hm := if_f hm hb
        refine wpIn_exit ?_
        refine then_e (then_e (block_e (then_n ?_)))
        have hS := hS.pickN 1 [] (by decide)
        rw [← hφ1] at hm
        replace hm := done_b hm
        unfold gameroomref_MaterialOf_K1 at hm
        try dsimp only at hm
        have hm : (gameroomref_MaterialOf_J1 sum1 minor1 knights1 light1 dark1 dead1).bind some = some r := hm
        exact ⟨sum1, minor1, knights1, light1, dark1, dead1, hF.weak [4, 5, 6, 7, 8, 9] (by kernel_rfl), hS, hm⟩

noncomputable def gameroomlaw_sameInts_J4  (i1 : Int) : Option (St Int (Fl Unit Bool)) :=
  some (.next (w64 (i1 + 1)))

noncomputable def gameroomlaw_sameInts_J3  (a1 : List Int) (b1 : List Int) (i1 : Int) : Option (St Int (Fl Unit Bool)) :=
  asrt (0 ≤ i1 ∧ i1 < (a1.length : Int)) <| asrt (0 ≤ i1 ∧ i1 < (b1.length : Int)) <| if ((geti a1 i1) != (geti b1 i1)) then (some (.done (.ret false))) else ((gameroomlaw_sameInts_J4 i1))

noncomputable def gameroomlaw_sameInts_J2  : Option Bool :=
  some true

noncomputable def gameroomlaw_sameInts_K1  : (Fl Unit Bool) → Option Bool :=
  fun (x : (Fl Unit Bool)) => match x with | .go _ => gameroomlaw_sameInts_J2 | .ret x => some x

noncomputable def gameroomlaw_sameInts_L1  (a1 : List Int) (b1 : List Int) : Int → Option (St Int (Fl Unit Bool)) :=
  fun (x : Int) => match x with | i1 => if (decide (i1 < (a1.length : Int))) then ((gameroomlaw_sameInts_J3 a1 b1 i1)) else (some (.done (.go ())))

noncomputable def gameroomlaw_sameInts_J1  (a1 : List Int) (b1 : List Int) : Option Bool :=
  (loop (gameroomlaw_sameInts_L1 a1 b1) 0).bind gameroomlaw_sameInts_K1

noncomputable def gameroomlaw_sameInts_m  (a1 : List Int) (b1 : List Int) : Option Bool :=
  if ((a1.length : Int) != (b1.length : Int)) then (some false) else ((gameroomlaw_sameInts_J1 a1 b1))

set_option maxRecDepth 100000 in
set_option maxHeartbeats 4000000 in
theorem gameroomlaw_sameInts_w {A1 : Option Addr} {c1 : Nat} {n1 : Nat} {a1 : List Int} {A2 : Option Addr} {c2 : Nat} {n2 : Nat} {b1 : List Int} {r : Bool} {w0 w : World} {B : Nat} {fs : List HP} (hm : gameroomlaw_sameInts_m a1 b1 = some r) (hS : Sep w0 B w (fs)) (hr_a1 : RdF w0 B fs A1 (vI a1)) (_hc_a1 : a1.length ≤ c1) (_hn_a1 : n1 = a1.length) (hr_b1 : RdF w0 B fs A2 (vI b1)) (_hc_b1 : b1.length ≤ c2) (_hn_b1 : n2 = b1.length) :
    Calls Try.prog 27 #[.slice A1 n1 c1, .slice A2 n2 c2] w fun e w' => e = .returned (.bool r) ∧ Sep w0 B w' (fs) := by
  obtain ⟨i3, hi3, hz3, hs3, hb3⟩ := info_parts Info3
  obtain rfl := _hn_a1
  obtain rfl := _hn_b1
  unfold gameroomlaw_sameInts_m at hm
  replace hm := start_b hm
  refine enter (l := [.slice A1 a1.length c1, .slice A2 b1.length c2]) (n := 26) Try.func27 rfl rfl (by simp) (fun a hF => ?_)
  refine reg [] [] [0, 1] [pl 0 (.slice A1 a1.length c1), pl 1 (.slice A2 b1.length c2)] hF hS Fol (by kernel_rfl) (by kernel_rfl) (by kernel_rfl) ?_ (fun a w hF hS => ?_)
  · exact obs_nil
  refine seq_cut (fun a w => Fr 26 [pl 0 (.slice A1 a1.length c1), pl 1 (.slice A2 b1.length c2)] a ∧ Sep w0 B w (fs) ∧ ((gameroomlaw_sameInts_J1 a1 b1)).bind some = some r) ?_ ?_
  · rintro a w ⟨hF, hS, hm⟩
    unfold gameroomlaw_sameInts_J1 at hm
    refine seq_cut (fun a w => Fr 26 [] a ∧ Sep w0 B w (fs) ∧ (gameroomlaw_sameInts_J2).bind some = some r) ?_ ?_
    · rintro a w ⟨hF, hS, hm⟩
      unfold gameroomlaw_sameInts_J2 at hm
      refine reg [] [] [4] [pl 4 (.bool true)] hF hS Fol (by kernel_rfl) (by kernel_rfl) (by kernel_rfl) ?_ (fun a w hF hS => ?_)
      · exact obs_nil
      refine wpIn_ret ?_
      have hm : some true = some r := hm
      obtain rfl := Option.some.inj hm
      exact retV (rs := [.tmp 4]) (vs := [.bool true]) hF rfl (rv_t (by kernel_rfl) <| rv_nil) rfl ⟨rfl, hS⟩
    · refine reg [] [] [0, 1, 5] [pl 0 (.slice A1 a1.length c1), pl 1 (.slice A2 b1.length c2), pl 5 (.int .i64 0)] hF hS Fol (by kernel_rfl) (by kernel_rfl) (by kernel_rfl) ?_ (fun a w hF hS => ?_)
      · exact obs_nil
      refine wpIn_block ?_
      refine wp_loop_model (S := Int) (R := (Fl Unit Bool)) (gameroomlaw_sameInts_L1 a1 b1) (fun x => (gameroomlaw_sameInts_K1 x).bind some) r (fun (x : Int) a w => Fr 26 [pl 0 (.slice A1 a1.length c1), pl 1 (.slice A2 b1.length c2), pl 5 (.int .i64 x)] a ∧ Sep w0 B w (fs)) (assoc_b hm) ⟨hF.weak [0, 1, 5] (by kernel_rfl), hS⟩ ?_
      clear hF hS hm
      rintro nn1 i1 a w ⟨hF, hS⟩ hm
      generalize hφ1 : stK (gameroomlaw_sameInts_L1 a1 b1) nn1 (fun x => (gameroomlaw_sameInts_K1 x).bind some) = φ1 at hm
      unfold gameroomlaw_sameInts_L1 at hm
      dsimp only at hm
      refine seq_cut (fun a w => Fr 26 [pl 0 (.slice A1 a1.length c1), pl 1 (.slice A2 b1.length c2), pl 5 (.int .i64 i1)] a ∧ Sep w0 B w (fs) ∧ ((gameroomlaw_sameInts_J3 a1 b1 i1)).bind φ1 = some r) ?_ ?_
      · rintro a w ⟨hF, hS, hm⟩
        unfold gameroomlaw_sameInts_J3 at hm
        refine seq_cut (fun a w => Fr 26 [pl 0 (.slice A1 a1.length c1), pl 1 (.slice A2 b1.length c2), pl 5 (.int .i64 i1)] a ∧ Sep w0 B w (fs) ∧ ((gameroomlaw_sameInts_J4 i1)).bind φ1 = some r) ?_ ?_
        · rintro a w ⟨hF, hS, hm⟩
          unfold gameroomlaw_sameInts_J4 at hm
          refine reg1 [] [] [0, 1, 5] [pl 0 (.slice A1 a1.length c1), pl 1 (.slice A2 b1.length c2), pl 5 (.int .i64 (w64 (i1 + 1)))] hF hS Fol (by kernel_rfl) (by kernel_rfl) (by kernel_rfl) ?_ (fun a w hF hS => ?_)
          · exact obs_nil
          refine then_n ?_
          rw [← hφ1] at hm
          exact ⟨(w64 (i1 + 1)), ⟨hF.weak [0, 1, 5] (by kernel_rfl), hS⟩, hm⟩
        · refine wpIn_block ?_
          obtain ⟨hp1, hm⟩ := asrt_b hm
          obtain ⟨hp2, hm⟩ := asrt_b hm
          refine reg [⟨true, [], vS (Instr.indexAt 34 (.slice A1 a1.length c1) (.int .i64 i1)), .pointer (some (sAddr A1 i1))⟩, ⟨false, [], vS (Instr.loadAt 3 (.pointer (some (sAddr A1 i1)))), .int .i64 (geti a1 i1)⟩, ⟨true, [], vS (Instr.indexAt 34 (.slice A2 b1.length c2) (.int .i64 i1)), .pointer (some (sAddr A2 i1))⟩, ⟨false, [], vS (Instr.loadAt 3 (.pointer (some (sAddr A2 i1)))), .int .i64 (geti b1 i1)⟩] [none, none, some (.pointer (some (sAddr A1 i1))), some (.int .i64 (geti a1 i1)), none, none, some (.pointer (some (sAddr A2 i1))), some (.int .i64 (geti b1 i1)), none] [0, 1, 5, 25] [pl 0 (.slice A1 a1.length c1), pl 1 (.slice A2 b1.length c2), pl 5 (.int .i64 i1), pl 25 (.bool ((geti a1 i1) != (geti b1 i1)))] hF hS Fol (by kernel_rfl) (by kernel_rfl) (by kernel_rfl) ?_ (fun a w hF hS => ?_)
          · exact obs_cons (ob_ix1 (f := (Value.int .i64)) (m := a1) Und34 hi3 hs3 (hr_a1 _ (hS.dropN 0)) rfl (fun _ => hp1)) <| obs_cons (ob_get1 (n := a1.length) (m := a1) (Value.int .i64) (0 : Int) Agg3 (fun _ hS => ⟨_, (hr_a1 _ (hS.dropN 0))⟩) (fun _ hS => rfl) (fun _ => hp1)) <| obs_cons (ob_ix1 (f := (Value.int .i64)) (m := b1) Und34 hi3 hs3 (hr_b1 _ (hS.dropN 0)) rfl (fun _ => hp2)) <| obs_cons (ob_get1 (n := b1.length) (m := b1) (Value.int .i64) (0 : Int) Agg3 (fun _ hS => ⟨_, (hr_b1 _ (hS.dropN 0))⟩) (fun _ hS => rfl) (fun _ => hp2)) <| obs_nil
          refine cond_ev (t := 25) (b := ((geti a1 i1) != (geti b1 i1))) hF (by kernel_rfl) (fun hb => ?_) (fun hb => ?_)
          · replace hm := if_t hm hb
            refine reg [] [] [4] [pl 4 (.bool false)] hF hS Fol (by kernel_rfl) (by kernel_rfl) (by kernel_rfl) ?_ (fun a w hF hS => ?_)
            · exact obs_nil
            refine wpIn_ret ?_
            refine block_r (then_r (then_r (block_r (then_r ?_))))
            rw [← hφ1] at hm
            replace hm := done_b hm
            unfold gameroomlaw_sameInts_K1 at hm
            try dsimp only at hm
            have hm : some false = some r := hm
            obtain rfl := Option.some.inj hm
            exact retV (rs := [.tmp 4]) (vs := [.bool false]) hF rfl (rv_t (by kernel_rfl) <| rv_nil) rfl ⟨rfl, hS⟩
          · replace hm := if_f hm hb
            refine wpIn_skip ?_
            refine block_n ?_
            refine then_n ?_
            exact ⟨hF.weak [0, 1, 5] (by kernel_rfl), hS, hm⟩
      · refine reg [] [] [0, 1, 5, 14] [pl 0 (.slice A1 a1.length c1), pl 1 (.slice A2 b1.length c2), pl 5 (.int .i64 i1), pl 14 (.bool (decide (i1 < (a1.length : Int))))] hF hS Fol (by kernel_rfl) (by kernel_rfl) (by kernel_rfl) ?_ (fun a w hF hS => ?_)
        · exact obs_nil
        refine cond_ev (t := 14) (b := decide (i1 < (a1.length : Int))) hF (by kernel_rfl) (fun hb => ?_) (fun hb => ?_)
        · replace hm := if_t hm hb
          refine wpIn_skip ?_
          refine then_n ?_
          exact ⟨hF.weak [0, 1, 5] (by kernel_rfl), hS, hm⟩
        · replace hm := if_f hm hb
          refine wpIn_exit ?_
          refine then_e (then_e (block_e (then_n ?_)))
          rw [← hφ1] at hm
          replace hm := done_b hm
          unfold gameroomlaw_sameInts_K1 at hm
          try dsimp only at hm
          have hm : (gameroomlaw_sameInts_J2).bind some = some r := hm
          exact ⟨hF.weak [] (by kernel_rfl), hS, hm⟩
  · refine reg [] [] [0, 1, 10] [pl 0 (.slice A1 a1.length c1), pl 1 (.slice A2 b1.length c2), pl 10 (.bool ((a1.length : Int) != (b1.length : Int)))] hF hS Fol (by kernel_rfl) (by kernel_rfl) (by kernel_rfl) ?_ (fun a w hF hS => ?_)
    · exact obs_nil
    refine cond_ev (t := 10) (b := ((a1.length : Int) != (b1.length : Int))) hF (by kernel_rfl) (fun hb => ?_) (fun hb => ?_)
    · replace hm := if_t hm hb
      refine reg [] [] [4] [pl 4 (.bool false)] hF hS Fol (by kernel_rfl) (by kernel_rfl) (by kernel_rfl) ?_ (fun a w hF hS => ?_)
      · exact obs_nil
      refine wpIn_ret ?_
      refine then_r ?_
      have hm : some false = some r := hm
      obtain rfl := Option.some.inj hm
      exact retV (rs := [.tmp 4]) (vs := [.bool false]) hF rfl (rv_t (by kernel_rfl) <| rv_nil) rfl ⟨rfl, hS⟩
    · replace hm := if_f hm hb
      refine wpIn_skip ?_
      refine then_n ?_
      exact ⟨hF.weak [0, 1] (by kernel_rfl), hS, hm⟩

noncomputable def gameroomlaw_ChessAttacks_J4  (z1 : Bool) : Option Bool :=
  some z1

noncomputable def gameroomlaw_ChessAttacks_J3  (p1 : List Int) (place1 : Int) (by1 : Int) (r2 : (List Int × Int)) : Option Bool :=
  if (r2.2 == 0) then ((gameroomref_AttackersOf_m p1 place1 by1).bind fun r10 => ((if (r2.2 == 0) then gameroomlaw_sameInts_m r2.1 r10 else some false)).bind fun r11 => gameroomlaw_ChessAttacks_J4 ((r2.2 == 0) && r11)) else (((if (r2.2 == 0) then gameroomlaw_sameInts_m r2.1 ([] : List Int) else some false)).bind fun r12 => gameroomlaw_ChessAttacks_J4 ((r2.2 == 0) && r12))

noncomputable def gameroomlaw_ChessAttacks_J2  (p1 : List Int) (place1 : Int) (by1 : Int) (r2 : (List Int × Int)) : Option Bool :=
  if ((((decide (place1 < 0)) || (decide ((63 : Int) < place1))) || (decide (by1 < 0))) || (decide ((1 : Int) < by1))) then (some ((r2.2 == 3) && ((r2.1.length : Int) == 0))) else ((gameroomlaw_ChessAttacks_J3 p1 place1 by1 r2))

noncomputable def gameroomlaw_ChessAttacks_J1  (p1 : List Int) (p2 : Int) (p3 : Int) (p4 : Int) (p5 : Int) (p6 : Int) (place1 : Int) (by1 : Int) (r2 : (List Int × Int)) (r4 : (Bool × Int)) (r6 : (Int × Bool × Int)) : Option Bool :=
  (gameroomref_MaterialOf_m p1 p2 p3 p4 p5 p6).bind fun r8 => ((if (!((r4.2 != 0) || (r6.2.2 != 0))) then gameroomref_InCheck_m p1 p2 else some false)).bind fun r9 => if (((((r4.2 != 0) || (r6.2.2 != 0)) || (r4.1 != r9)) || (r6.1 != r8.1)) || (r6.2.1 != r8.2)) then (some false) else ((gameroomlaw_ChessAttacks_J2 p1 place1 by1 r2))

noncomputable def gameroomlaw_ChessAttacks_m  (p1 : List Int) (p2 : Int) (p3 : Int) (p4 : Int) (p5 : Int) (p6 : Int) (place1 : Int) (by1 : Int) : Option Bool :=
  (gameroomref_ChessOf_m p1 p2 p3 p4 p5 p6).bind fun r1 => (chess_Attackers_m r1.1 r1.2.1 r1.2.2.1 r1.2.2.2.1 r1.2.2.2.2.1 r1.2.2.2.2.2 place1 by1).bind fun r2 => (gameroomref_ChessOf_m p1 p2 p3 p4 p5 p6).bind fun r3 => (chess_Check_m r3.1 r3.2.1 r3.2.2.1 r3.2.2.2.1 r3.2.2.2.2.1 r3.2.2.2.2.2).bind fun r4 => (gameroomref_ChessOf_m p1 p2 p3 p4 p5 p6).bind fun r5 => (chess_Material_m r5.1 r5.2.1 r5.2.2.1 r5.2.2.2.1 r5.2.2.2.2.1 r5.2.2.2.2.2).bind fun r6 => (gameroomref_ChessMay_m p1 p2 p3 p4 p5 p6).bind fun r7 => if (!r7) then (some (((((((r2.2 == 12) && (r4.2 == 12)) && (r6.2.2 == 12)) && ((r2.1.length : Int) == 0)) && (!r4.1)) && (r6.1 == 0)) && (!r6.2.1))) else ((gameroomlaw_ChessAttacks_J1 p1 p2 p3 p4 p5 p6 place1 by1 r2 r4 r6))

set_option maxRecDepth 100000 in
set_option maxHeartbeats 4000000 in
theorem gameroomlaw_ChessAttacks_w {A1 : Option Addr} {c1 : Nat} {n1 : Nat} {p1 : List Int} {p2 : Int} {p3 : Int} {p4 : Int} {p5 : Int} {p6 : Int} {place1 : Int} {by1 : Int} {r : Bool} {w0 w : World} {B : Nat} {fs : List HP} (hm : gameroomlaw_ChessAttacks_m p1 p2 p3 p4 p5 p6 place1 by1 = some r) (hS : Sep w0 B w (fs)) (hr_p1 : RdF w0 B fs A1 (vI p1)) (_hc_p1 : p1.length ≤ c1) (_hn_p1 : n1 = p1.length) :
    Calls Try.prog 4 #[.agg #[.slice A1 n1 c1, .int .i64 p2, .int .i64 p3, .int .i64 p4, .int .i64 p5, .int .i64 p6], .int .i64 place1, .int .i64 by1] w fun e w' => e = .returned (.bool r) ∧ Sep w0 B w' (fs) := by
  obtain ⟨i3, hi3, hz3, hs3, hb3⟩ := info_parts Info3
  obtain rfl := _hn_p1
  unfold gameroomlaw_ChessAttacks_m at hm
  replace hm := start_b hm
  refine enter (l := [.agg #[.slice A1 p1.length c1, .int .i64 p2, .int .i64 p3, .int .i64 p4, .int .i64 p5, .int .i64 p6], .int .i64 place1, .int .i64 by1]) (n := 129) Try.func4 rfl rfl (by simp) (fun a hF => ?_)
  refine seqR ?_
  refine at_do (d := 3) (s := vS (Instr.box 36 (.agg #[.slice A1 p1.length c1, .int .i64 p2, .int .i64 p3, .int .i64 p4, .int .i64 p5, .int .i64 p6]))) (v := .pointer (some ⟨w.heap.size, 0, none⟩)) (w' := w.alloc (.cells #[.slice A1 p1.length c1, .int .i64 p2, .int .i64 p3, .int .i64 p4, .int .i64 p5, .int .i64 p6] 36)) hF (by kernel_rfl) (by kernel_rfl) (by kernel_rfl) (fun a hF => ?_)
  have hS : Sep w0 B (w.alloc (.cells #[.slice A1 p1.length c1, .int .i64 p2, .int .i64 p3, .int .i64 p4, .int .i64 p5, .int .i64 p6] 36)) (blk w.heap.size 36 #[.slice A1 p1.length c1, .int .i64 p2, .int .i64 p3, .int .i64 p4, .int .i64 p5, .int .i64 p6] :: (fs)) := hS.box 36 #[.slice A1 p1.length c1, .int .i64 p2, .int .i64 p3, .int .i64 p4, .int .i64 p5, .int .i64 p6]
  generalize w.heap.size = g1 at hF hS
  generalize w.alloc (.cells #[.slice A1 p1.length c1, .int .i64 p2, .int .i64 p3, .int .i64 p4, .int .i64 p5, .int .i64 p6] 36) = w at hS ⊢
  refine at_run 1 [] [] [1, 2, 3] [pl 1 (.int .i64 place1), pl 2 (.int .i64 by1), pl 3 (.pointer (some ⟨g1, 0, none⟩))] hF hS (by kernel_rfl) (by kernel_rfl) ?_ (fun a w hF hS => ?_)
  · exact obs_nil
  refine at_end [1, 2, 3] [pl 1 (.int .i64 place1), pl 2 (.int .i64 by1), pl 3 (.pointer (some ⟨g1, 0, none⟩))] hF rfl (by kernel_rfl) (fun hF => ?_)
  refine then_n ?_
  refine seqR ?_
  obtain ⟨r1, hr1, hm⟩ := call_b hm
  obtain ⟨r2, hr2, hm⟩ := call_b hm
  refine at_run 1 [⟨false, [], vS (Instr.loadAt 36 (.pointer (some ⟨g1, 0, none⟩))), .agg #[.slice A1 p1.length c1, .int .i64 p2, .int .i64 p3, .int .i64 p4, .int .i64 p5, .int .i64 p6]⟩] [some (.agg #[.slice A1 p1.length c1, .int .i64 p2, .int .i64 p3, .int .i64 p4, .int .i64 p5, .int .i64 p6])] [1, 2, 3, 17] [pl 1 (.int .i64 place1), pl 2 (.int .i64 by1), pl 3 (.pointer (some ⟨g1, 0, none⟩)), pl 17 (.agg #[.slice A1 p1.length c1, .int .i64 p2, .int .i64 p3, .int .i64 p4, .int .i64 p5, .int .i64 p6])] hF hS (by kernel_rfl) (by kernel_rfl) ?_ (fun a w hF hS => ?_)
  · exact obs_cons (ob_loadA (cs := #[.slice A1 p1.length c1, .int .i64 p2, .int .i64 p3, .int .i64 p4, .int .i64 p5, .int .i64 p6]) (by kernel_rfl) (by kernel_rfl) (fun _ _ hS => (hS.at_ 0 rfl).cellsAt 0 (by rfl))) <| obs_nil
  refine at_call (f := 21) (args := #[.agg #[.slice A1 p1.length c1, .int .i64 p2, .int .i64 p3, .int .i64 p4, .int .i64 p5, .int .i64 p6]]) (d := 18) hF (by kernel_rfl) (by kernel_rfl) Try.func21 (by kernel_rfl) rfl (gameroomref_ChessOf_w hr1 hS (fun _ hS => (hr_p1 _ (hS.dropN 1))) _hc_p1 rfl) (fun v a w hR hF => ?_)
  clear hS
  obtain ⟨A2, c2, rfl, hS⟩ := hR
  have hS : Sep w0 B w (own 3 (.slice A2 r1.1.length c2) (vI r1.1) :: blk g1 36 #[.slice A1 p1.length c1, .int .i64 p2, .int .i64 p3, .int .i64 p4, .int .i64 p5, .int .i64 p6] :: fs) := hS
  refine at_run 2 [] [] [1, 2, 3, 18, 19, 20] [pl 1 (.int .i64 place1), pl 2 (.int .i64 by1), pl 3 (.pointer (some ⟨g1, 0, none⟩)), pl 18 (.agg #[.slice A2 r1.1.length c2, .int .i64 r1.2.1, .int .i64 r1.2.2.1, .int .i64 r1.2.2.2.1, .int .i64 r1.2.2.2.2.1, .int .i64 r1.2.2.2.2.2]), pl 19 (.int .i64 place1), pl 20 (.int .i64 by1)] hF hS (by kernel_rfl) (by kernel_rfl) ?_ (fun a w hF hS => ?_)
  · exact obs_nil
  refine at_call (f := 20) (args := #[.agg #[.slice A2 r1.1.length c2, .int .i64 r1.2.1, .int .i64 r1.2.2.1, .int .i64 r1.2.2.2.1, .int .i64 r1.2.2.2.2.1, .int .i64 r1.2.2.2.2.2], .int .i64 place1, .int .i64 by1]) (d := 21) hF (by kernel_rfl) (by kernel_rfl) Try.func20 (by kernel_rfl) rfl (chess_Attackers_w hr2 hS (fun _ hS => (hS.at_ 0 rfl).rd) ((hS.at_ 0 rfl).cap1) rfl) (fun v a w hR hF => ?_)
  clear hS
  obtain ⟨A3, c3, rfl, hS⟩ := hR
  have hS : Sep w0 B w (own 3 (.slice A3 r2.1.length c3) (vI r2.1) :: own 3 (.slice A2 r1.1.length c2) (vI r1.1) :: blk g1 36 #[.slice A1 p1.length c1, .int .i64 p2, .int .i64 p3, .int .i64 p4, .int .i64 p5, .int .i64 p6] :: fs) := hS
  refine at_run 5 [] [] [1, 2, 3, 7, 8] [pl 1 (.int .i64 place1), pl 2 (.int .i64 by1), pl 3 (.pointer (some ⟨g1, 0, none⟩)), pl 7 (.slice A3 r2.1.length c3), pl 8 (.int .i64 r2.2)] hF hS (by kernel_rfl) (by kernel_rfl) ?_ (fun a w hF hS => ?_)
  · exact obs_nil
  refine at_end [1, 2, 3, 7, 8] [pl 1 (.int .i64 place1), pl 2 (.int .i64 by1), pl 3 (.pointer (some ⟨g1, 0, none⟩)), pl 7 (.slice A3 r2.1.length c3), pl 8 (.int .i64 r2.2)] hF rfl (by kernel_rfl) (fun hF => ?_)
  refine then_n ?_
  refine seqR ?_
  obtain ⟨r3, hr3, hm⟩ := call_b hm
  obtain ⟨r4, hr4, hm⟩ := call_b hm
  refine at_run 1 [⟨false, [], vS (Instr.loadAt 36 (.pointer (some ⟨g1, 0, none⟩))), .agg #[.slice A1 p1.length c1, .int .i64 p2, .int .i64 p3, .int .i64 p4, .int .i64 p5, .int .i64 p6]⟩] [some (.agg #[.slice A1 p1.length c1, .int .i64 p2, .int .i64 p3, .int .i64 p4, .int .i64 p5, .int .i64 p6])] [1, 2, 3, 7, 8, 25] [pl 1 (.int .i64 place1), pl 2 (.int .i64 by1), pl 3 (.pointer (some ⟨g1, 0, none⟩)), pl 7 (.slice A3 r2.1.length c3), pl 8 (.int .i64 r2.2), pl 25 (.agg #[.slice A1 p1.length c1, .int .i64 p2, .int .i64 p3, .int .i64 p4, .int .i64 p5, .int .i64 p6])] hF hS (by kernel_rfl) (by kernel_rfl) ?_ (fun a w hF hS => ?_)
  · exact obs_cons (ob_loadA (cs := #[.slice A1 p1.length c1, .int .i64 p2, .int .i64 p3, .int .i64 p4, .int .i64 p5, .int .i64 p6]) (by kernel_rfl) (by kernel_rfl) (fun _ _ hS => (hS.at_ 2 rfl).cellsAt 0 (by rfl))) <| obs_nil
  refine at_call (f := 21) (args := #[.agg #[.slice A1 p1.length c1, .int .i64 p2, .int .i64 p3, .int .i64 p4, .int .i64 p5, .int .i64 p6]]) (d := 26) hF (by kernel_rfl) (by kernel_rfl) Try.func21 (by kernel_rfl) rfl (gameroomref_ChessOf_w hr3 hS (fun _ hS => (hr_p1 _ (hS.dropN 3))) _hc_p1 rfl) (fun v a w hR hF => ?_)
  clear hS
  obtain ⟨A4, c4, rfl, hS⟩ := hR
  have hS : Sep w0 B w (own 3 (.slice A4 r3.1.length c4) (vI r3.1) :: own 3 (.slice A3 r2.1.length c3) (vI r2.1) :: own 3 (.slice A2 r1.1.length c2) (vI r1.1) :: blk g1 36 #[.slice A1 p1.length c1, .int .i64 p2, .int .i64 p3, .int .i64 p4, .int .i64 p5, .int .i64 p6] :: fs) := hS
  refine at_run 6 [⟨false, [], callFunc 22 #[.agg #[.slice A4 r3.1.length c4, .int .i64 r3.2.1, .int .i64 r3.2.2.1, .int .i64 r3.2.2.2.1, .int .i64 r3.2.2.2.2.1, .int .i64 r3.2.2.2.2.2]], .tuple #[.bool r4.1, .int .i64 r4.2]⟩] [some (.tuple #[.bool r4.1, .int .i64 r4.2]), none, none, none, none, none] [1, 2, 3, 7, 8, 9, 10] [pl 1 (.int .i64 place1), pl 2 (.int .i64 by1), pl 3 (.pointer (some ⟨g1, 0, none⟩)), pl 7 (.slice A3 r2.1.length c3), pl 8 (.int .i64 r2.2), pl 9 (.bool r4.1), pl 10 (.int .i64 r4.2)] hF hS (by kernel_rfl) (by kernel_rfl) ?_ (fun a w hF hS => ?_)
  · exact obs_cons (ob_call Try.func22 (by kernel_rfl) rfl (fun _ _ hS => chess_Check_w hr4 hS (fun _ hS => (hS.at_ 0 rfl).rd) ((hS.at_ 0 rfl).cap1) rfl)) <| obs_nil
  refine at_end [1, 2, 3, 7, 8, 9, 10] [pl 1 (.int .i64 place1), pl 2 (.int .i64 by1), pl 3 (.pointer (some ⟨g1, 0, none⟩)), pl 7 (.slice A3 r2.1.length c3), pl 8 (.int .i64 r2.2), pl 9 (.bool r4.1), pl 10 (.int .i64 r4.2)] hF rfl (by kernel_rfl) (fun hF => ?_)
  refine then_n ?_
  refine seqR ?_
  obtain ⟨r5, hr5, hm⟩ := call_b hm
  obtain ⟨r6, hr6, hm⟩ := call_b hm
  refine at_run 1 [⟨false, [], vS (Instr.loadAt 36 (.pointer (some ⟨g1, 0, none⟩))), .agg #[.slice A1 p1.length c1, .int .i64 p2, .int .i64 p3, .int .i64 p4, .int .i64 p5, .int .i64 p6]⟩] [some (.agg #[.slice A1 p1.length c1, .int .i64 p2, .int .i64 p3, .int .i64 p4, .int .i64 p5, .int .i64 p6])] [1, 2, 3, 7, 8, 9, 10, 31] [pl 1 (.int .i64 place1), pl 2 (.int .i64 by1), pl 3 (.pointer (some ⟨g1, 0, none⟩)), pl 7 (.slice A3 r2.1.length c3), pl 8 (.int .i64 r2.2), pl 9 (.bool r4.1), pl 10 (.int .i64 r4.2), pl 31 (.agg #[.slice A1 p1.length c1, .int .i64 p2, .int .i64 p3, .int .i64 p4, .int .i64 p5, .int .i64 p6])] hF hS (by kernel_rfl) (by kernel_rfl) ?_ (fun a w hF hS => ?_)
  · exact obs_cons (ob_loadA (cs := #[.slice A1 p1.length c1, .int .i64 p2, .int .i64 p3, .int .i64 p4, .int .i64 p5, .int .i64 p6]) (by kernel_rfl) (by kernel_rfl) (fun _ _ hS => (hS.at_ 3 rfl).cellsAt 0 (by rfl))) <| obs_nil
  refine at_call (f := 21) (args := #[.agg #[.slice A1 p1.length c1, .int .i64 p2, .int .i64 p3, .int .i64 p4, .int .i64 p5, .int .i64 p6]]) (d := 32) hF (by kernel_rfl) (by kernel_rfl) Try.func21 (by kernel_rfl) rfl (gameroomref_ChessOf_w hr5 hS (fun _ hS => (hr_p1 _ (hS.dropN 4))) _hc_p1 rfl) (fun v a w hR hF => ?_)
  clear hS
  obtain ⟨A5, c5, rfl, hS⟩ := hR
  have hS : Sep w0 B w (own 3 (.slice A5 r5.1.length c5) (vI r5.1) :: own 3 (.slice A4 r3.1.length c4) (vI r3.1) :: own 3 (.slice A3 r2.1.length c3) (vI r2.1) :: own 3 (.slice A2 r1.1.length c2) (vI r1.1) :: blk g1 36 #[.slice A1 p1.length c1, .int .i64 p2, .int .i64 p3, .int .i64 p4, .int .i64 p5, .int .i64 p6] :: fs) := hS
  refine at_run 8 [⟨false, [], callFunc 23 #[.agg #[.slice A5 r5.1.length c5, .int .i64 r5.2.1, .int .i64 r5.2.2.1, .int .i64 r5.2.2.2.1, .int .i64 r5.2.2.2.2.1, .int .i64 r5.2.2.2.2.2]], .tuple #[.int .i64 r6.1, .bool r6.2.1, .int .i64 r6.2.2]⟩] [some (.tuple #[.int .i64 r6.1, .bool r6.2.1, .int .i64 r6.2.2]), none, none, none, none, none, none, none] [1, 2, 3, 7, 8, 9, 10, 11, 12, 13] [pl 1 (.int .i64 place1), pl 2 (.int .i64 by1), pl 3 (.pointer (some ⟨g1, 0, none⟩)), pl 7 (.slice A3 r2.1.length c3), pl 8 (.int .i64 r2.2), pl 9 (.bool r4.1), pl 10 (.int .i64 r4.2), pl 11 (.int .i64 r6.1), pl 12 (.bool r6.2.1), pl 13 (.int .i64 r6.2.2)] hF hS (by kernel_rfl) (by kernel_rfl) ?_ (fun a w hF hS => ?_)
  · exact obs_cons (ob_call Try.func23 (by kernel_rfl) rfl (fun _ _ hS => chess_Material_w hr6 hS (fun _ hS => (hS.at_ 0 rfl).rd) ((hS.at_ 0 rfl).cap1) rfl)) <| obs_nil
  refine at_end [1, 2, 3, 7, 8, 9, 10, 11, 12, 13] [pl 1 (.int .i64 place1), pl 2 (.int .i64 by1), pl 3 (.pointer (some ⟨g1, 0, none⟩)), pl 7 (.slice A3 r2.1.length c3), pl 8 (.int .i64 r2.2), pl 9 (.bool r4.1), pl 10 (.int .i64 r4.2), pl 11 (.int .i64 r6.1), pl 12 (.bool r6.2.1), pl 13 (.int .i64 r6.2.2)] hF rfl (by kernel_rfl) (fun hF => ?_)
  refine then_n ?_
  refine seq_cut (fun a w => Fr 129 [pl 1 (.int .i64 place1), pl 2 (.int .i64 by1), pl 3 (.pointer (some ⟨g1, 0, none⟩)), pl 7 (.slice A3 r2.1.length c3), pl 8 (.int .i64 r2.2), pl 9 (.bool r4.1), pl 10 (.int .i64 r4.2), pl 11 (.int .i64 r6.1), pl 12 (.bool r6.2.1), pl 13 (.int .i64 r6.2.2)] a ∧ Sep w0 B w (blk g1 36 #[.slice A1 p1.length c1, .int .i64 p2, .int .i64 p3, .int .i64 p4, .int .i64 p5, .int .i64 p6] :: own 3 (.slice A3 r2.1.length c3) (vI r2.1) :: fs) ∧ ((gameroomlaw_ChessAttacks_J1 p1 p2 p3 p4 p5 p6 place1 by1 r2 r4 r6)).bind some = some r) ?_ ?_
  · rintro a w ⟨hF, hS, hm⟩
    unfold gameroomlaw_ChessAttacks_J1 at hm
    obtain ⟨r8, hr8, hm⟩ := call_b hm
    refine reg [⟨false, [], vS (Instr.loadAt 36 (.pointer (some ⟨g1, 0, none⟩))), .agg #[.slice A1 p1.length c1, .int .i64 p2, .int .i64 p3, .int .i64 p4, .int .i64 p5, .int .i64 p6]⟩, ⟨false, [], callFunc 25 #[.agg #[.slice A1 p1.length c1, .int .i64 p2, .int .i64 p3, .int .i64 p4, .int .i64 p5, .int .i64 p6]], .tuple #[.int .i64 r8.1, .bool r8.2]⟩] [some (.agg #[.slice A1 p1.length c1, .int .i64 p2, .int .i64 p3, .int .i64 p4, .int .i64 p5, .int .i64 p6]), some (.tuple #[.int .i64 r8.1, .bool r8.2]), none, none, none, none, none] [1, 2, 3, 7, 8, 9, 10, 11, 12, 13, 14, 15] [pl 1 (.int .i64 place1), pl 2 (.int .i64 by1), pl 3 (.pointer (some ⟨g1, 0, none⟩)), pl 7 (.slice A3 r2.1.length c3), pl 8 (.int .i64 r2.2), pl 9 (.bool r4.1), pl 10 (.int .i64 r4.2), pl 11 (.int .i64 r6.1), pl 12 (.bool r6.2.1), pl 13 (.int .i64 r6.2.2), pl 14 (.int .i64 r8.1), pl 15 (.bool r8.2)] hF hS Fol (by kernel_rfl) (by kernel_rfl) (by kernel_rfl) ?_ (fun a w hF hS => ?_)
    · exact obs_cons (ob_loadA (cs := #[.slice A1 p1.length c1, .int .i64 p2, .int .i64 p3, .int .i64 p4, .int .i64 p5, .int .i64 p6]) (by kernel_rfl) (by kernel_rfl) (fun _ _ hS => (hS.at_ 0 rfl).cellsAt 0 (by rfl))) <| obs_cons (ob_call Try.func25 (by kernel_rfl) rfl (fun _ _ hS => gameroomref_MaterialOf_w hr8 hS (fun _ hS => (hr_p1 _ (hS.dropN 2))) _hc_p1 rfl)) <| obs_nil
    refine seq_cut (fun a w => Fr 129 [pl 1 (.int .i64 place1), pl 2 (.int .i64 by1), pl 3 (.pointer (some ⟨g1, 0, none⟩)), pl 7 (.slice A3 r2.1.length c3), pl 8 (.int .i64 r2.2)] a ∧ Sep w0 B w (blk g1 36 #[.slice A1 p1.length c1, .int .i64 p2, .int .i64 p3, .int .i64 p4, .int .i64 p5, .int .i64 p6] :: own 3 (.slice A3 r2.1.length c3) (vI r2.1) :: fs) ∧ ((gameroomlaw_ChessAttacks_J2 p1 place1 by1 r2)).bind some = some r) ?_ ?_
    · rintro a w ⟨hF, hS, hm⟩
      unfold gameroomlaw_ChessAttacks_J2 at hm
      refine seq_cut (fun a w => Fr 129 [pl 1 (.int .i64 place1), pl 2 (.int .i64 by1), pl 3 (.pointer (some ⟨g1, 0, none⟩)), pl 7 (.slice A3 r2.1.length c3), pl 8 (.int .i64 r2.2)] a ∧ Sep w0 B w (blk g1 36 #[.slice A1 p1.length c1, .int .i64 p2, .int .i64 p3, .int .i64 p4, .int .i64 p5, .int .i64 p6] :: own 3 (.slice A3 r2.1.length c3) (vI r2.1) :: fs) ∧ ((gameroomlaw_ChessAttacks_J3 p1 place1 by1 r2)).bind some = some r) ?_ ?_
      · rintro a w ⟨hF, hS, hm⟩
        unfold gameroomlaw_ChessAttacks_J3 at hm
        refine seq_cut (fun a w => ∃ (z1 : Bool), Fr 129 [pl 6 (.bool z1)] a ∧ Sep w0 B w (fs) ∧ (gameroomlaw_ChessAttacks_J4 z1).bind some = some r) ?_ ?_
        · rintro a w ⟨z1, hF, hS, hm⟩
          unfold gameroomlaw_ChessAttacks_J4 at hm
          refine wpIn_ret ?_
          have hm : some z1 = some r := hm
          obtain rfl := Option.some.inj hm
          exact retV (rs := [.tmp 6]) (vs := [.bool z1]) hF rfl (rv_t (by kernel_rfl) <| rv_nil) rfl ⟨rfl, hS⟩
        · refine oneR ?_
          refine at_run 8 [⟨false, [((r2.2 == 0), true)], vS (Instr.loadAt 34 (.pointer (some ⟨g1, 0, none⟩))), .slice A1 p1.length c1⟩] [none, none, none, none, none, some (.slice A1 p1.length c1), none, none] [120, 121, 123, 124, 125] [pl 120 (.bool (r2.2 == 0)), ⟨121, [(120, true)], .slice A3 r2.1.length c3⟩, ⟨123, [(120, true)], .slice A1 p1.length c1⟩, ⟨124, [(120, true)], .int .i64 place1⟩, ⟨125, [(120, true)], .int .i64 by1⟩] hF hS (by kernel_rfl) (by kernel_rfl) ?_ (fun a w hF hS => ?_)
          · exact obs_cons (ob_load Agg34 (fun _ _ hS => (hS.at_ 0 rfl).cell rfl)) <| obs_nil
          rcases Bool.eq_false_or_eq_true (r2.2 == 0) with hg1 | hg1
          · replace hm := if_t hm hg1
            obtain ⟨r10, hr10, hm⟩ := call_b hm
            obtain ⟨r11, hr11, hm⟩ := call_b hm
            refine at_gcall (hs := [((r2.2 == 0), true)]) (fun y hy => by simp only [List.mem_cons, List.not_mem_nil, or_false] at hy; subst hy; first | exact hg1) (f := 28) (args := #[.slice A1 p1.length c1, .int .i64 place1, .int .i64 by1]) (d := 126) hF (by kernel_rfl) (by kernel_rfl) Try.func28 (by kernel_rfl) rfl (gameroomref_AttackersOf_w hr10 hS (fun _ hS => (hr_p1 _ (hS.dropN 2))) _hc_p1 rfl) (fun v a w hR hF => ?_)
            clear hS
            obtain ⟨A6, c6, rfl, hS⟩ := hR
            have hS : Sep w0 B w (own 3 (.slice A6 r10.length c6) (vI r10) :: blk g1 36 #[.slice A1 p1.length c1, .int .i64 p2, .int .i64 p3, .int .i64 p4, .int .i64 p5, .int .i64 p6] :: own 3 (.slice A3 r2.1.length c3) (vI r2.1) :: fs) := hS
            refine at_run 3 [⟨false, [((r2.2 == 0), true)], callFunc 27 #[.slice A3 r2.1.length c3, .slice A6 r10.length c6], .bool r11⟩] [some (.bool r11), none, none] [6] [pl 6 (.bool ((r2.2 == 0) && r11))] hF hS (by kernel_rfl) (by kernel_rfl) ?_ (fun a w hF hS => ?_)
            · exact obs_cons (ob_call Try.func27 (by kernel_rfl) rfl (fun hy _ hS => gameroomlaw_sameInts_w (ite_some hr11 (by rw [show (r2.2 == 0) = true from hy ((r2.2 == 0), true) (by simp)]; try rfl)) hS (fun _ hS => (hS.at_ 2 rfl).rd) ((hS.at_ 2 rfl).cap1) rfl (fun _ hS => (hS.at_ 0 rfl).rd) ((hS.at_ 0 rfl).cap1) rfl)) <| obs_nil
            refine at_end [6] [pl 6 (.bool ((r2.2 == 0) && r11))] hF rfl (by kernel_rfl) (fun hF => ?_)
            refine then_n ?_
            have hS := hS.pickN 3 [] (by decide)
            exact ⟨((r2.2 == 0) && r11), hF.weak [6] (by kernel_rfl), hS, hm⟩
          · replace hm := if_f hm hg1
            obtain ⟨r12, hr12, hm⟩ := call_b hm
            refine at_gskip (d := 126) (v := .slice none 0 0) (hs := [((r2.2 == 0), true)]) (ctx := [(120, true)]) hF (by kernel_rfl) (by kernel_rfl) (fun h => absurd (h ((r2.2 == 0), true) (by simp)) (by simp [hg1])) (fun a hF => ?_)
            refine at_run 3 [⟨false, [((r2.2 == 0), true)], callFunc 27 #[.slice A3 r2.1.length c3, .slice none 0 0], .bool r12⟩] [some (.bool r12), none, none] [6] [pl 6 (.bool ((r2.2 == 0) && r12))] hF hS (by kernel_rfl) (by kernel_rfl) ?_ (fun a w hF hS => ?_)
            · exact obs_cons (Ob.vac (fun h => absurd (h ((r2.2 == 0), true) (by simp)) (by simp [hg1]))) <| obs_nil
            refine at_end [6] [pl 6 (.bool ((r2.2 == 0) && r12))] hF rfl (by kernel_rfl) (fun hF => ?_)
            refine then_n ?_
            have hS := hS.pickN 2 [] (by decide)
            exact ⟨((r2.2 == 0) && r12), hF.weak [6] (by kernel_rfl), hS, hm⟩
      · refine reg [] [] [1, 2, 3, 7, 8, 110] [pl 1 (.int .i64 place1), pl 2 (.int .i64 by1), pl 3 (.pointer (some ⟨g1, 0, none⟩)), pl 7 (.slice A3 r2.1.length c3), pl 8 (.int .i64 r2.2), pl 110 (.bool ((((decide (place1 < 0)) || (decide ((63 : Int) < place1))) || (decide (by1 < 0))) || (decide ((1 : Int) < by1))))] hF hS Fol (by kernel_rfl) (by kernel_rfl) (by kernel_rfl) ?_ (fun a w hF hS => ?_)
        · exact obs_nil
        refine cond_ev (t := 110) (b := (((decide (place1 < 0)) || (decide ((63 : Int) < place1))) || (decide (by1 < 0))) || (decide ((1 : Int) < by1))) hF (by kernel_rfl) (fun hb => ?_) (fun hb => ?_)
        · replace hm := if_t hm hb
          refine reg [] [] [6] [pl 6 (.bool ((r2.2 == 3) && ((r2.1.length : Int) == 0)))] hF hS Fol (by kernel_rfl) (by kernel_rfl) (by kernel_rfl) ?_ (fun a w hF hS => ?_)
          · exact obs_nil
          refine wpIn_ret ?_
          refine then_r ?_
          have hS := hS.pickN 2 [] (by decide)
          have hm : some ((r2.2 == 3) && ((r2.1.length : Int) == 0)) = some r := hm
          obtain rfl := Option.some.inj hm
          exact retV (rs := [.tmp 6]) (vs := [.bool ((r2.2 == 3) && ((r2.1.length : Int) == 0))]) hF rfl (rv_t (by kernel_rfl) <| rv_nil) rfl ⟨rfl, hS⟩
        · replace hm := if_f hm hb
          refine wpIn_skip ?_
          refine then_n ?_
          exact ⟨hF.weak [1, 2, 3, 7, 8] (by kernel_rfl), hS, hm⟩
    · obtain ⟨r9, hr9, hm⟩ := call_b hm
      refine reg [⟨false, [((r4.2 != 0) || (r6.2.2 != 0), false)], vS (Instr.loadAt 34 (.pointer (some ⟨g1, 0, none⟩))), .slice A1 p1.length c1⟩, ⟨false, [((r4.2 != 0) || (r6.2.2 != 0), false)], vS (Instr.loadAt 3 (.pointer (some ⟨g1, 1, none⟩))), .int .i64 p2⟩, ⟨false, [((r4.2 != 0) || (r6.2.2 != 0), false)], callFunc 26 #[.slice A1 p1.length c1, .int .i64 p2], .bool r9⟩] [none, none, none, none, none, none, none, none, none, some (.slice A1 p1.length c1), none, some (.int .i64 p2), some (.bool r9), none, none, none, none, none, none, none, none, none, none, none, none] [1, 2, 3, 7, 8, 96] [pl 1 (.int .i64 place1), pl 2 (.int .i64 by1), pl 3 (.pointer (some ⟨g1, 0, none⟩)), pl 7 (.slice A3 r2.1.length c3), pl 8 (.int .i64 r2.2), pl 96 (.bool (((((r4.2 != 0) || (r6.2.2 != 0)) || (r4.1 != r9)) || (r6.1 != r8.1)) || (r6.2.1 != r8.2)))] hF hS Fol (by kernel_rfl) (by kernel_rfl) (by kernel_rfl) ?_ (fun a w hF hS => ?_)
      · exact obs_cons (ob_load Agg34 (fun _ _ hS => (hS.at_ 0 rfl).cell rfl)) <| obs_cons (ob_load Agg3 (fun _ _ hS => (hS.at_ 0 rfl).cell rfl)) <| obs_cons (ob_call Try.func26 (by kernel_rfl) rfl (fun hy _ hS => gameroomref_InCheck_w (ite_some hr9 (by rw [show ((r4.2 != 0) || (r6.2.2 != 0)) = false from hy ((r4.2 != 0) || (r6.2.2 != 0), false) (by simp)]; try rfl)) hS (fun _ hS => (hr_p1 _ (hS.dropN 2))) _hc_p1 rfl)) <| obs_nil
      refine cond_ev (t := 96) (b := ((((r4.2 != 0) || (r6.2.2 != 0)) || (r4.1 != r9)) || (r6.1 != r8.1)) || (r6.2.1 != r8.2)) hF (by kernel_rfl) (fun hb => ?_) (fun hb => ?_)
      · replace hm := if_t hm hb
        refine reg [] [] [6] [pl 6 (.bool false)] hF hS Fol (by kernel_rfl) (by kernel_rfl) (by kernel_rfl) ?_ (fun a w hF hS => ?_)
        · exact obs_nil
        refine wpIn_ret ?_
        refine then_r ?_
        have hS := hS.pickN 2 [] (by decide)
        have hm : some false = some r := hm
        obtain rfl := Option.some.inj hm
        exact retV (rs := [.tmp 6]) (vs := [.bool false]) hF rfl (rv_t (by kernel_rfl) <| rv_nil) rfl ⟨rfl, hS⟩
      · replace hm := if_f hm hb
        refine wpIn_skip ?_
        refine then_n ?_
        exact ⟨hF.weak [1, 2, 3, 7, 8] (by kernel_rfl), hS, hm⟩
  · obtain ⟨r7, hr7, hm⟩ := call_b hm
    refine reg [⟨false, [], vS (Instr.loadAt 36 (.pointer (some ⟨g1, 0, none⟩))), .agg #[.slice A1 p1.length c1, .int .i64 p2, .int .i64 p3, .int .i64 p4, .int .i64 p5, .int .i64 p6]⟩, ⟨false, [], callFunc 24 #[.agg #[.slice A1 p1.length c1, .int .i64 p2, .int .i64 p3, .int .i64 p4, .int .i64 p5, .int .i64 p6]], .bool r7⟩] [some (.agg #[.slice A1 p1.length c1, .int .i64 p2, .int .i64 p3, .int .i64 p4, .int .i64 p5, .int .i64 p6]), some (.bool r7), none] [1, 2, 3, 7, 8, 9, 10, 11, 12, 13, 39] [pl 1 (.int .i64 place1), pl 2 (.int .i64 by1), pl 3 (.pointer (some ⟨g1, 0, none⟩)), pl 7 (.slice A3 r2.1.length c3), pl 8 (.int .i64 r2.2), pl 9 (.bool r4.1), pl 10 (.int .i64 r4.2), pl 11 (.int .i64 r6.1), pl 12 (.bool r6.2.1), pl 13 (.int .i64 r6.2.2), pl 39 (.bool (!r7))] hF hS Fol (by kernel_rfl) (by kernel_rfl) (by kernel_rfl) ?_ (fun a w hF hS => ?_)
    · exact obs_cons (ob_loadA (cs := #[.slice A1 p1.length c1, .int .i64 p2, .int .i64 p3, .int .i64 p4, .int .i64 p5, .int .i64 p6]) (by kernel_rfl) (by kernel_rfl) (fun _ _ hS => (hS.at_ 4 rfl).cellsAt 0 (by rfl))) <| obs_cons (ob_call Try.func24 (by kernel_rfl) rfl (fun _ _ hS => gameroomref_ChessMay_w hr7 hS (fun _ hS => (hr_p1 _ (hS.dropN 5))) _hc_p1 rfl)) <| obs_nil
    refine cond_ev (t := 39) (b := !r7) hF (by kernel_rfl) (fun hb => ?_) (fun hb => ?_)
    · replace hm := if_t hm hb
      refine reg [] [] [6] [pl 6 (.bool (((((((r2.2 == 12) && (r4.2 == 12)) && (r6.2.2 == 12)) && ((r2.1.length : Int) == 0)) && (!r4.1)) && (r6.1 == 0)) && (!r6.2.1)))] hF hS Fol (by kernel_rfl) (by kernel_rfl) (by kernel_rfl) ?_ (fun a w hF hS => ?_)
      · exact obs_nil
      refine wpIn_ret ?_
      refine then_r ?_
      have hS := hS.pickN 5 [] (by decide)
      have hm : some (((((((r2.2 == 12) && (r4.2 == 12)) && (r6.2.2 == 12)) && ((r2.1.length : Int) == 0)) && (!r4.1)) && (r6.1 == 0)) && (!r6.2.1)) = some r := hm
      obtain rfl := Option.some.inj hm
      exact retV (rs := [.tmp 6]) (vs := [.bool (((((((r2.2 == 12) && (r4.2 == 12)) && (r6.2.2 == 12)) && ((r2.1.length : Int) == 0)) && (!r4.1)) && (r6.1 == 0)) && (!r6.2.1))]) hF rfl (rv_t (by kernel_rfl) <| rv_nil) rfl ⟨rfl, hS⟩
    · replace hm := if_f hm hb
      refine wpIn_skip ?_
      refine then_n ?_
      have hS := hS.pickN 5 [4, 2] (by decide)
      exact ⟨hF.weak [1, 2, 3, 7, 8, 9, 10, 11, 12, 13] (by kernel_rfl), hS, hm⟩

end Go.Proofs.Ytgafnmnacolgbaa
