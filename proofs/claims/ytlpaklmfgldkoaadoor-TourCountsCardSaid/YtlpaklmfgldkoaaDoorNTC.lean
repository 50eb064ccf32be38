/-
  Models and walks, printed by our own program (wip/gen).
-/
import Derived.Test.YtlpaklmfgldkoaaDoorFB
import Derived.Test.YtlpaklmfgldkoaaDoorLibD
import Derived.Test.YtlpaklmfgldkoaaDoorLibBg
import Derived.Test.YtlpaklmfgldkoaaDoorLibGl
import Derived.Test.YtlpaklmfgldkoaaDoorNTCa
namespace Go.Proofs.YtlpaklmfgldkoaaDoor
open Go Go.GL Go.RowKit

noncomputable def tour_Greedy_m  (w1 : Int) (h1 : Int) (from1 : Int) : Option (List Int × Int) :=
  (tour_at_m w1 h1 ([from1] : List Int)).bind fun r1 => if (r1.2 != 0) then (some (([] : List Int), r1.2)) else ((tour_Greedy_J1 from1 r1))

set_option maxRecDepth 100000 in
set_option maxHeartbeats 4000000 in
theorem tour_Greedy_w {w1 : Int} {h1 : Int} {from1 : Int} {r : (List Int × Int)} {w0 w : World} {B : Nat} {fs : List HP} [GLV 0 glob0 w0 B] (hm : tour_Greedy_m w1 h1 from1 = some r) (hS : Sep w0 B w (fs)) :
    Calls Tryd.prog 17 #[.int .i64 w1, .int .i64 h1, .int .i64 from1] w fun e w' => ∃ v, e = .returned v ∧ ∃ (A6 : Option Addr) (c6 : Nat), v = .tuple #[.slice A6 r.1.length c6, .int .i64 r.2] ∧ Sep w0 B w' (own 3 (.slice A6 r.1.length c6) (vI r.1) :: fs) := by
  obtain ⟨i3, hi3, hz3, hs3, hb3⟩ := info_parts Info3
  obtain ⟨i4, hi4, hz4, hs4, hb4⟩ := info_parts Info4
  obtain ⟨i50, hi50, hz50, hs50, hb50⟩ := info_parts Info50
  obtain ⟨i54, hi54, hz54, hs54, hb54⟩ := info_parts Info54
  obtain ⟨i63, hi63, hz63, hs63, hb63⟩ := info_parts Info63
  unfold tour_Greedy_m at hm
  replace hm := start_b hm
  refine enter (l := [.int .i64 w1, .int .i64 h1, .int .i64 from1]) (n := 48) Tryd.func17 rfl rfl (by simp) (fun a hF => ?_)
  refine reg [] [] [0, 1, 2] [pl 0 (.int .i64 w1), pl 1 (.int .i64 h1), pl 2 (.int .i64 from1)] hF hS Fol (by kernel_rfl) (by kernel_rfl) (by kernel_rfl) ?_ (fun a w hF hS => ?_)
  · exact obs_nil
  refine seqR ?_
  obtain ⟨r1, hr1, hm⟩ := call_b hm
  refine at_run 3 [] [] [2, 16, 17, 18] [pl 2 (.int .i64 from1), pl 16 (.int .i64 w1), pl 17 (.int .i64 h1), pl 18 (.int .i64 from1)] hF hS (by kernel_rfl) (by kernel_rfl) ?_ (fun a w hF hS => ?_)
  · exact obs_nil
  refine at_do (d := 19) (s := vS (Instr.buildSlice 22 1 #[(0, .int .i64 from1)])) (v := .slice (some ⟨w.heap.size, 0, none⟩) 1 1) (w' := w.alloc (.cells #[.int .i64 from1] 3)) hF (by kernel_rfl) (by kernel_rfl) (by kernel_rfl) (fun a hF => ?_)
  have hS : Sep w0 B (w.alloc (.cells #[.int .i64 from1] 3)) (own 3 (.slice (some (⟨w.heap.size, 0, none⟩ : Addr)) 1 1) (vI ([from1] : List Int)) :: (fs)) := hS.lit 3 #[.int .i64 from1] 1 rfl (by omega)
  generalize (some (⟨w.heap.size, 0, none⟩ : Addr)) = g1 at hF hS
  generalize w.alloc (.cells #[.int .i64 from1] 3) = w at hS ⊢
  refine at_call (f := 27) (args := #[.int .i64 w1, .int .i64 h1, .slice g1 1 1]) (d := 20) hF (by kernel_rfl) (by kernel_rfl) Tryd.func27 (by kernel_rfl) rfl (tour_at_w hr1 hS (fun _ hS => (hS.at_ 0 rfl).rd) ((hS.at_ 0 rfl).cap1) ((hS.at_ 0 rfl).len1)) (fun v a w hR hF => ?_)
  clear hS
  obtain ⟨A1, c1, hd1, rfl, hS⟩ := hR
  have hS : Sep w0 B w (rows 22 3 (.slice A1 r1.1.length c1) hd1 r1.1 :: own 3 (.slice g1 1 1) (vI ([from1] : List Int)) :: fs) := hS
  refine at_run 3 [] [] [2, 21, 22] [pl 2 (.int .i64 from1), pl 21 (.slice A1 r1.1.length c1), pl 22 (.int .i64 r1.2)] hF hS (by kernel_rfl) (by kernel_rfl) ?_ (fun a w hF hS => ?_)
  · exact obs_nil
  refine at_do (d := 8) (s := vS (Instr.alloc 50 true (.tuple #[]))) (v := .pointer (some ⟨w.heap.size, 0, none⟩)) (w' := w.alloc (.cells #[.slice none 0 0] 50)) hF (by kernel_rfl) (by kernel_rfl) (by kernel_rfl) (fun a hF => ?_)
  have hS : Sep w0 B (w.alloc (.cells #[.slice none 0 0] 50)) (blk w.heap.size 50 #[.slice none 0 0] :: (rows 22 3 (.slice A1 r1.1.length c1) hd1 r1.1 :: own 3 (.slice g1 1 1) (vI ([from1] : List Int)) :: fs)) := hS.box 50 #[.slice none 0 0]
  generalize w.heap.size = g2 at hF hS
  generalize w.alloc (.cells #[.slice none 0 0] 50) = w at hS ⊢
  obtain ⟨w, hrun, hS⟩ := run_put (P := Tryd.prog) (t := 50) (u := .slice A1 r1.1.length c1) (i := 0) (hS.at_ 0 rfl) hi50 hs50 rfl (Nat.lt_of_lt_of_eq (Nat.lt_of_succ_le (Nat.le_of_ble_eq_true (by kernel_rfl))) rfl)
  refine at_skip hF (by kernel_rfl) hrun ?_
  have hS : Sep w0 B w (blk g2 50 #[.slice A1 r1.1.length c1] :: rows 22 3 (.slice A1 r1.1.length c1) hd1 r1.1 :: own 3 (.slice g1 1 1) (vI ([from1] : List Int)) :: fs) := hS
  refine at_run 1 [] [] [2, 8, 9] [pl 2 (.int .i64 from1), pl 8 (.pointer (some ⟨g2, 0, none⟩)), pl 9 (.int .i64 r1.2)] hF hS (by kernel_rfl) (by kernel_rfl) ?_ (fun a w hF hS => ?_)
  · exact obs_nil
  refine at_end [2, 8, 9] [pl 2 (.int .i64 from1), pl 8 (.pointer (some ⟨g2, 0, none⟩)), pl 9 (.int .i64 r1.2)] hF rfl (by kernel_rfl) (fun hF => ?_)
  refine then_n ?_
  refine seq_cut (fun a w => Fr 48 [pl 2 (.int .i64 from1), pl 8 (.pointer (some ⟨g2, 0, none⟩))] a ∧ Sep w0 B w (blk g2 50 #[.slice A1 r1.1.length c1] :: rows 22 3 (.slice A1 r1.1.length c1) hd1 r1.1 :: fs) ∧ ((tour_Greedy_J1 from1 r1)).bind some = some r) ?_ ?_
  · rintro a w ⟨hF, hS, hm⟩
    unfold tour_Greedy_J1 at hm
    refine seqR ?_
    obtain ⟨hp1, hm⟩ := asrt_b hm
    refine at_run 2 [⟨false, [], vS (Instr.loadAt 50 (.pointer (some ⟨g2, 0, none⟩))), .slice A1 r1.1.length c1⟩] [some (.slice A1 r1.1.length c1), none] [2, 8, 27] [pl 2 (.int .i64 from1), pl 8 (.pointer (some ⟨g2, 0, none⟩)), pl 27 (.int .i64 (r1.1.length : Int))] hF hS (by kernel_rfl) (by kernel_rfl) ?_ (fun a w hF hS => ?_)
    · exact obs_cons (ob_load Agg50 (fun _ _ hS => (hS.at_ 0 rfl).cell rfl)) <| obs_nil
    obtain ⟨A2, c2, w, hrun, hS⟩ := run_mk1 (P := Tryd.prog) (t := 54) Value.bool false hS .i64 .i64 Und54 hi4 hz4 hs4 (by omega) rfl hp1
    have hS : Sep w0 B w (own 4 (.slice A2 (Int.toNat (r1.1.length : Int)) c2) (vB (List.replicate (Int.toNat (r1.1.length : Int)) false)) :: blk g2 50 #[.slice A1 r1.1.length c1] :: rows 22 3 (.slice A1 r1.1.length c1) hd1 r1.1 :: fs) := hS
    refine at_do (d := 28) hF (by kernel_rfl) (by kernel_rfl) hrun (fun a hF => ?_)
    refine at_do (d := 10) (s := vS (Instr.alloc 54 true (.tuple #[]))) (v := .pointer (some ⟨w.heap.size, 0, none⟩)) (w' := w.alloc (.cells #[.slice none 0 0] 54)) hF (by kernel_rfl) (by kernel_rfl) (by kernel_rfl) (fun a hF => ?_)
    have hS : Sep w0 B (w.alloc (.cells #[.slice none 0 0] 54)) (blk w.heap.size 54 #[.slice none 0 0] :: (own 4 (.slice A2 (Int.toNat (r1.1.length : Int)) c2) (vB (List.replicate (Int.toNat (r1.1.length : Int)) false)) :: blk g2 50 #[.slice A1 r1.1.length c1] :: rows 22 3 (.slice A1 r1.1.length c1) hd1 r1.1 :: fs)) := hS.box 54 #[.slice none 0 0]
    generalize w.heap.size = g3 at hF hS
    generalize w.alloc (.cells #[.slice none 0 0] 54) = w at hS ⊢
    obtain ⟨w, hrun, hS⟩ := run_put (P := Tryd.prog) (t := 54) (u := .slice A2 (Int.toNat (r1.1.length : Int)) c2) (i := 0) (hS.at_ 0 rfl) hi54 hs54 rfl (Nat.lt_of_lt_of_eq (Nat.lt_of_succ_le (Nat.le_of_ble_eq_true (by kernel_rfl))) rfl)
    refine at_skip hF (by kernel_rfl) hrun ?_
    have hS : Sep w0 B w (blk g3 54 #[.slice A2 (Int.toNat (r1.1.length : Int)) c2] :: own 4 (.slice A2 (Int.toNat (r1.1.length : Int)) c2) (vB (List.replicate (Int.toNat (r1.1.length : Int)) false)) :: blk g2 50 #[.slice A1 r1.1.length c1] :: rows 22 3 (.slice A1 r1.1.length c1) hd1 r1.1 :: fs) := hS
    refine at_end [2, 8, 10] [pl 2 (.int .i64 from1), pl 8 (.pointer (some ⟨g2, 0, none⟩)), pl 10 (.pointer (some ⟨g3, 0, none⟩))] hF rfl (by kernel_rfl) (fun hF => ?_)
    refine then_n ?_
    refine reg [] [] [2, 8, 10, 11] [pl 2 (.int .i64 from1), pl 8 (.pointer (some ⟨g2, 0, none⟩)), pl 10 (.pointer (some ⟨g3, 0, none⟩)), pl 11 (.slice none 0 0)] hF hS Fol (by kernel_rfl) (by kernel_rfl) (by kernel_rfl) ?_ (fun a w hF hS => ?_)
    · exact obs_nil
    refine seqR ?_
    refine at_run 1 [] [] [2, 10, 11, 29] [pl 2 (.int .i64 from1), pl 10 (.pointer (some ⟨g3, 0, none⟩)), pl 11 (.slice none 0 0), pl 29 (.func (.func 36) #[] #[.pointer (some ⟨g2, 0, none⟩), .pointer (some ⟨g3, 0, none⟩)])] hF hS (by kernel_rfl) (by kernel_rfl) ?_ (fun a w hF hS => ?_)
    · exact obs_nil
    refine at_do (d := 12) (s := vS (Instr.alloc 63 true (.tuple #[]))) (v := .pointer (some ⟨w.heap.size, 0, none⟩)) (w' := w.alloc (.cells #[.nilFunc] 63)) hF (by kernel_rfl) (by kernel_rfl) (by kernel_rfl) (fun a hF => ?_)
    have hS : Sep w0 B (w.alloc (.cells #[.nilFunc] 63)) (blk w.heap.size 63 #[.nilFunc] :: (blk g3 54 #[.slice A2 (Int.toNat (r1.1.length : Int)) c2] :: own 4 (.slice A2 (Int.toNat (r1.1.length : Int)) c2) (vB (List.replicate (Int.toNat (r1.1.length : Int)) false)) :: blk g2 50 #[.slice A1 r1.1.length c1] :: rows 22 3 (.slice A1 r1.1.length c1) hd1 r1.1 :: fs)) := hS.box 63 #[.nilFunc]
    generalize w.heap.size = g4 at hF hS
    generalize w.alloc (.cells #[.nilFunc] 63) = w at hS ⊢
    obtain ⟨w, hrun, hS⟩ := run_put (P := Tryd.prog) (t := 63) (u := .func (.func 36) #[] #[.pointer (some ⟨g2, 0, none⟩), .pointer (some ⟨g3, 0, none⟩)]) (i := 0) (hS.at_ 0 rfl) hi63 hs63 rfl (Nat.lt_of_lt_of_eq (Nat.lt_of_succ_le (Nat.le_of_ble_eq_true (by kernel_rfl))) rfl)
    refine at_skip hF (by kernel_rfl) hrun ?_
    have hS : Sep w0 B w (blk g4 63 #[.func (.func 36) #[] #[.pointer (some ⟨g2, 0, none⟩), .pointer (some ⟨g3, 0, none⟩)]] :: blk g3 54 #[.slice A2 (Int.toNat (r1.1.length : Int)) c2] :: own 4 (.slice A2 (Int.toNat (r1.1.length : Int)) c2) (vB (List.replicate (Int.toNat (r1.1.length : Int)) false)) :: blk g2 50 #[.slice A1 r1.1.length c1] :: rows 22 3 (.slice A1 r1.1.length c1) hd1 r1.1 :: fs) := hS
    refine at_end [2, 10, 11, 12] [pl 2 (.int .i64 from1), pl 10 (.pointer (some ⟨g3, 0, none⟩)), pl 11 (.slice none 0 0), pl 12 (.pointer (some ⟨g4, 0, none⟩))] hF rfl (by kernel_rfl) (fun hF => ?_)
    refine then_n ?_
    refine reg [] [] [10, 11, 12, 13] [pl 10 (.pointer (some ⟨g3, 0, none⟩)), pl 11 (.slice none 0 0), pl 12 (.pointer (some ⟨g4, 0, none⟩)), pl 13 (.int .i64 from1)] hF hS Fol (by kernel_rfl) (by kernel_rfl) (by kernel_rfl) ?_ (fun a w hF hS => ?_)
    · exact obs_nil
    refine wpIn_block ?_
    have hS : Sep w0 B w (own 3 (.slice none 0 0) (vI ([] : List Int)) :: blk g4 63 #[.func (.func 36) #[] #[.pointer (some ⟨g2, 0, none⟩), .pointer (some ⟨g3, 0, none⟩)]] :: blk g3 54 #[.slice A2 (Int.toNat (r1.1.length : Int)) c2] :: own 4 (.slice A2 (Int.toNat (r1.1.length : Int)) c2) (vB (List.replicate (Int.toNat (r1.1.length : Int)) false)) :: blk g2 50 #[.slice A1 r1.1.length c1] :: rows 22 3 (.slice A1 r1.1.length c1) hd1 r1.1 :: fs) := hS.nil 3
    have hl2 := (hS.at_ 0 rfl).len1
    have hS := (hS.at_ 0 rfl).reN hl2
    have hS : Sep w0 B w (own 3 (.slice none (([] : List Int).length) 0) (vI ([] : List Int)) :: blk g4 63 #[.func (.func 36) #[] #[.pointer (some ⟨g2, 0, none⟩), .pointer (some ⟨g3, 0, none⟩)]] :: blk g3 54 #[.slice A2 (Int.toNat (r1.1.length : Int)) c2] :: own 4 (.slice A2 (Int.toNat (r1.1.length : Int)) c2) (vB (List.replicate (Int.toNat (r1.1.length : Int)) false)) :: blk g2 50 #[.slice A1 r1.1.length c1] :: rows 22 3 (.slice A1 r1.1.length c1) hd1 r1.1 :: fs) := hS
    have hF := hF.cast (t := 11) (v := .slice none 0 0) (v' := .slice none (([] : List Int).length) 0) rfl rfl (congrArg (fun k => Value.slice none k 0) hl2)
    have hS := hS.pickN 6 [2, 3, 0, 1, 4, 5] (by decide)
    refine wp_loop_model (S := (List Bool × List Int × Int)) (R := (List Int × Int)) (tour_Greedy_L1 r1) (fun x => (tour_Greedy_K1 x).bind some) r (fun (x : (List Bool × List Int × Int)) a w => ∃ (A3 : Option Addr) (c3 : Nat), Fr 48 [pl 10 (.pointer (some ⟨g3, 0, none⟩)), pl 11 (.slice A3 x.2.1.length c3), pl 12 (.pointer (some ⟨g4, 0, none⟩)), pl 13 (.int .i64 x.2.2)] a ∧ Sep w0 B w (blk g3 54 #[.slice A2 (Int.toNat (r1.1.length : Int)) c2] :: own 4 (.slice A2 (Int.toNat (r1.1.length : Int)) c2) (vB x.1) :: own 3 (.slice A3 x.2.1.length c3) (vI x.2.1) :: blk g4 63 #[.func (.func 36) #[] #[.pointer (some ⟨g2, 0, none⟩), .pointer (some ⟨g3, 0, none⟩)]] :: blk g2 50 #[.slice A1 r1.1.length c1] :: rows 22 3 (.slice A1 r1.1.length c1) hd1 r1.1 :: fs)) (assoc_b hm) ⟨none, 0, hF.weak [10, 11, 12, 13] (by kernel_rfl), hS⟩ ?_
    clear hF hS hm
    rintro nn1 ⟨seen1, l1, p1⟩ a w ⟨A3, c3, hF, hS⟩ hm
    generalize hφ1 : stK (tour_Greedy_L1 r1) nn1 (fun x => (tour_Greedy_K1 x).bind some) = φ1 at hm
    unfold tour_Greedy_L1 at hm
    dsimp only at hF hS hm
    refine wpIn_block ?_
    refine seqR ?_
    obtain ⟨hp2, hm⟩ := asrt_b hm
    refine at_run 3 [⟨false, [], vS (Instr.loadAt 54 (.pointer (some ⟨g3, 0, none⟩))), .slice A2 (Int.toNat (r1.1.length : Int)) c2⟩, ⟨true, [], vS (Instr.indexAt 54 (.slice A2 (Int.toNat (r1.1.length : Int)) c2) (.int .i64 p1)), .pointer (some (sAddr A2 p1))⟩] [some (.slice A2 (Int.toNat (r1.1.length : Int)) c2), none, some (.pointer (some (sAddr A2 p1)))] [10, 11, 12, 13, 33] [pl 10 (.pointer (some ⟨g3, 0, none⟩)), pl 11 (.slice A3 l1.length c3), pl 12 (.pointer (some ⟨g4, 0, none⟩)), pl 13 (.int .i64 p1), pl 33 (.pointer (some (sAddr A2 p1)))] hF hS (by kernel_rfl) (by kernel_rfl) ?_ (fun a w hF hS => ?_)
    · exact obs_cons (ob_load Agg54 (fun _ _ hS => (hS.at_ 0 rfl).cell rfl)) <| obs_cons (ob_ix1 (f := Value.bool) (m := seen1) Und54 hi4 hs4 (hS.at_ 1 rfl).rd ((hS.at_ 1 rfl).len1) (fun _ => hp2)) <| obs_nil
    obtain ⟨w, hrun, hS⟩ := run_set1 (P := Tryd.prog) (t := 4) (x := true) Value.bool (hS.at_ 1 rfl) hi4 hs4 rfl rfl hp2
    refine at_skip hF (by kernel_rfl) hrun ?_
    have hS : Sep w0 B w (blk g3 54 #[.slice A2 (Int.toNat (r1.1.length : Int)) c2] :: own 4 (.slice A2 (Int.toNat (r1.1.length : Int)) c2) (vB (seen1.set (Int.toNat p1) true)) :: own 3 (.slice A3 l1.length c3) (vI l1) :: blk g4 63 #[.func (.func 36) #[] #[.pointer (some ⟨g2, 0, none⟩), .pointer (some ⟨g3, 0, none⟩)]] :: blk g2 50 #[.slice A1 r1.1.length c1] :: rows 22 3 (.slice A1 r1.1.length c1) hd1 r1.1 :: fs) := hS
    refine at_end [10, 11, 12, 13] [pl 10 (.pointer (some ⟨g3, 0, none⟩)), pl 11 (.slice A3 l1.length c3), pl 12 (.pointer (some ⟨g4, 0, none⟩)), pl 13 (.int .i64 p1)] hF rfl (by kernel_rfl) (fun hF => ?_)
    refine then_n ?_
    refine seqR ?_
    obtain ⟨hp3, hm⟩ := asrt_b hm
    refine at_run 2 [] [] [10, 12, 13, 34, 35] [pl 10 (.pointer (some ⟨g3, 0, none⟩)), pl 12 (.pointer (some ⟨g4, 0, none⟩)), pl 13 (.int .i64 p1), pl 34 (.slice A3 l1.length c3), pl 35 (.int .i64 p1)] hF hS (by kernel_rfl) (by kernel_rfl) ?_ (fun a w hF hS => ?_)
    · exact obs_nil
    refine at_do (d := 36) (s := vS (Instr.buildSlice 22 1 #[(0, .int .i64 p1)])) (v := .slice (some ⟨w.heap.size, 0, none⟩) 1 1) (w' := w.alloc (.cells #[.int .i64 p1] 3)) hF (by kernel_rfl) (by kernel_rfl) (by kernel_rfl) (fun a hF => ?_)
    have hS : Sep w0 B (w.alloc (.cells #[.int .i64 p1] 3)) (own 3 (.slice (some (⟨w.heap.size, 0, none⟩ : Addr)) 1 1) (vI ([p1] : List Int)) :: (blk g3 54 #[.slice A2 (Int.toNat (r1.1.length : Int)) c2] :: own 4 (.slice A2 (Int.toNat (r1.1.length : Int)) c2) (vB (seen1.set (Int.toNat p1) true)) :: own 3 (.slice A3 l1.length c3) (vI l1) :: blk g4 63 #[.func (.func 36) #[] #[.pointer (some ⟨g2, 0, none⟩), .pointer (some ⟨g3, 0, none⟩)]] :: blk g2 50 #[.slice A1 r1.1.length c1] :: rows 22 3 (.slice A1 r1.1.length c1) hd1 r1.1 :: fs)) := hS.lit 3 #[.int .i64 p1] 1 rfl (by omega)
    generalize (some (⟨w.heap.size, 0, none⟩ : Addr)) = g5 at hF hS
    generalize w.alloc (.cells #[.int .i64 p1] 3) = w at hS ⊢
    obtain ⟨A4, c4, w, hrun, hS⟩ := run_app1 (P := Tryd.prog) (t := 22) (m := l1) (ys := ([p1] : List Int)) (A2 := g5) (m2 := 1) (c2 := 1) (Value.int .i64) (0 : Int) (hS.at_ 3 rfl) (hS.at_ 0 rfl).rd ((hS.at_ 0 rfl).len1) 22 Und22 hi3 hz3 hs3 (by omega) rfl (fun _ => rfl) hp3
    have hS : Sep w0 B w (own 3 (.slice g5 1 1) (vI ([p1] : List Int)) :: blk g3 54 #[.slice A2 (Int.toNat (r1.1.length : Int)) c2] :: own 4 (.slice A2 (Int.toNat (r1.1.length : Int)) c2) (vB (seen1.set (Int.toNat p1) true)) :: own 3 (.slice A4 ((l1 ++ ([p1] : List Int)).length) c4) (vI (l1 ++ ([p1] : List Int))) :: blk g4 63 #[.func (.func 36) #[] #[.pointer (some ⟨g2, 0, none⟩), .pointer (some ⟨g3, 0, none⟩)]] :: blk g2 50 #[.slice A1 r1.1.length c1] :: rows 22 3 (.slice A1 r1.1.length c1) hd1 r1.1 :: fs) := hS
    refine at_do (d := 37) hF (by kernel_rfl) (by kernel_rfl) hrun (fun a hF => ?_)
    refine at_run 1 [] [] [10, 11, 12, 13] [pl 10 (.pointer (some ⟨g3, 0, none⟩)), pl 11 (.slice A4 ((l1 ++ ([p1] : List Int)).length) c4), pl 12 (.pointer (some ⟨g4, 0, none⟩)), pl 13 (.int .i64 p1)] hF hS (by kernel_rfl) (by kernel_rfl) ?_ (fun a w hF hS => ?_)
    · exact obs_nil
    refine at_end [10, 11, 12, 13] [pl 10 (.pointer (some ⟨g3, 0, none⟩)), pl 11 (.slice A4 ((l1 ++ ([p1] : List Int)).length) c4), pl 12 (.pointer (some ⟨g4, 0, none⟩)), pl 13 (.int .i64 p1)] hF rfl (by kernel_rfl) (fun hF => ?_)
    refine then_n ?_
    refine seqR ?_
    obtain ⟨r2, hr2, hm⟩ := call_b hm
    refine at_run 2 [⟨false, [], vS (Instr.loadAt 63 (.pointer (some ⟨g4, 0, none⟩))), .func (.func 36) #[] #[.pointer (some ⟨g2, 0, none⟩), .pointer (some ⟨g3, 0, none⟩)]⟩] [some (.func (.func 36) #[] #[.pointer (some ⟨g2, 0, none⟩), .pointer (some ⟨g3, 0, none⟩)]), none] [10, 11, 12, 38, 39] [pl 10 (.pointer (some ⟨g3, 0, none⟩)), pl 11 (.slice A4 ((l1 ++ ([p1] : List Int)).length) c4), pl 12 (.pointer (some ⟨g4, 0, none⟩)), pl 38 (.func (.func 36) #[] #[.pointer (some ⟨g2, 0, none⟩), .pointer (some ⟨g3, 0, none⟩)]), pl 39 (.int .i64 p1)] hF hS (by kernel_rfl) (by kernel_rfl) ?_ (fun a w hF hS => ?_)
    · exact obs_cons (ob_load Agg63 (fun _ _ hS => (hS.at_ 4 rfl).cell rfl)) <| obs_nil
    have hS : Sep w0 B w (blk g2 50 #[.slice A1 r1.1.length c1] :: rows 22 3 (.slice A1 r1.1.length c1) hd1 r1.1 :: blk g3 54 #[.slice A2 (Int.toNat (r1.1.length : Int)) c2] :: own 4 (.slice A2 (Int.toNat (r1.1.length : Int)) c2) (vB (seen1.set (Int.toNat p1) true)) :: own 3 (.slice g5 1 1) (vI ([p1] : List Int)) :: own 3 (.slice A4 ((l1 ++ ([p1] : List Int)).length) c4) (vI (l1 ++ ([p1] : List Int))) :: blk g4 63 #[.func (.func 36) #[] #[.pointer (some ⟨g2, 0, none⟩), .pointer (some ⟨g3, 0, none⟩)]] :: fs) := hS.pickN 7 [5, 6, 1, 2, 0, 3, 4] (by decide)
    refine at_call (f := 36) (args := #[.int .i64 p1, .pointer (some ⟨g2, 0, none⟩), .pointer (some ⟨g3, 0, none⟩)]) (d := 40) hF (by kernel_rfl) (by kernel_rfl) Tryd.func36 (by kernel_rfl) rfl (tour_Greedy_1_w hr2 hS ) (fun v a w hR hF => ?_)
    clear hS
    obtain ⟨A5, c5, rfl, hS⟩ := hR
    have hS : Sep w0 B w (blk g2 50 #[.slice A1 r1.1.length c1] :: rows 22 3 (.slice A1 r1.1.length c1) hd1 r1.1 :: blk g3 54 #[.slice A2 (Int.toNat (r1.1.length : Int)) c2] :: own 4 (.slice A2 (Int.toNat (r1.1.length : Int)) c2) (vB (seen1.set (Int.toNat p1) true)) :: own 3 (.slice A5 r2.length c5) (vI r2) :: own 3 (.slice g5 1 1) (vI ([p1] : List Int)) :: own 3 (.slice A4 ((l1 ++ ([p1] : List Int)).length) c4) (vI (l1 ++ ([p1] : List Int))) :: blk g4 63 #[.func (.func 36) #[] #[.pointer (some ⟨g2, 0, none⟩), .pointer (some ⟨g3, 0, none⟩)]] :: fs) := hS
    refine at_run 1 [] [] [10, 11, 12, 14] [pl 10 (.pointer (some ⟨g3, 0, none⟩)), pl 11 (.slice A4 ((l1 ++ ([p1] : List Int)).length) c4), pl 12 (.pointer (some ⟨g4, 0, none⟩)), pl 14 (.slice A5 r2.length c5)] hF hS (by kernel_rfl) (by kernel_rfl) ?_ (fun a w hF hS => ?_)
    · exact obs_nil
    refine at_end [10, 11, 12, 14] [pl 10 (.pointer (some ⟨g3, 0, none⟩)), pl 11 (.slice A4 ((l1 ++ ([p1] : List Int)).length) c4), pl 12 (.pointer (some ⟨g4, 0, none⟩)), pl 14 (.slice A5 r2.length c5)] hF rfl (by kernel_rfl) (fun hF => ?_)
    refine then_n ?_
    refine seq_cut (fun a w => Fr 48 [pl 10 (.pointer (some ⟨g3, 0, none⟩)), pl 11 (.slice A4 ((l1 ++ ([p1] : List Int)).length) c4), pl 12 (.pointer (some ⟨g4, 0, none⟩)), pl 14 (.slice A5 r2.length c5)] a ∧ Sep w0 B w (blk g3 54 #[.slice A2 (Int.toNat (r1.1.length : Int)) c2] :: own 4 (.slice A2 (Int.toNat (r1.1.length : Int)) c2) (vB (seen1.set (Int.toNat p1) true)) :: own 3 (.slice A4 ((l1 ++ ([p1] : List Int)).length) c4) (vI (l1 ++ ([p1] : List Int))) :: blk g4 63 #[.func (.func 36) #[] #[.pointer (some ⟨g2, 0, none⟩), .pointer (some ⟨g3, 0, none⟩)]] :: blk g2 50 #[.slice A1 r1.1.length c1] :: rows 22 3 (.slice A1 r1.1.length c1) hd1 r1.1 :: own 3 (.slice A5 r2.length c5) (vI r2) :: fs) ∧ ((tour_Greedy_J2 r1 seen1 l1 p1 r2)).bind φ1 = some r) ?_ ?_
    · rintro a w ⟨hF, hS, hm⟩
      unfold tour_Greedy_J2 at hm
      obtain ⟨r3, hr3, hm⟩ := call_b hm
      refine reg1 [⟨false, [], callFunc 40 #[.slice A5 r2.length c5, .func (.func 41) #[] #[.pointer (some ⟨g4, 0, none⟩)]], .int .i64 r3⟩] [none, none, some (.int .i64 r3), none] [10, 11, 12, 13] [pl 10 (.pointer (some ⟨g3, 0, none⟩)), pl 11 (.slice A4 ((l1 ++ ([p1] : List Int)).length) c4), pl 12 (.pointer (some ⟨g4, 0, none⟩)), pl 13 (.int .i64 r3)] hF hS Fol (by kernel_rfl) (by kernel_rfl) (by kernel_rfl) ?_ (fun a w hF hS => ?_)
      · exact obs_cons (ob_call Tryd.func40 (by kernel_rfl) rfl (fun _ _ hS => quiet_pick hS 7 [3, 4, 5, 0, 1, 2, 6] (by decide) [3, 4, 5, 0, 1, 2, 6] (by decide) (qs := (blk g4 63 #[.func (.func 36) #[] #[.pointer (some ⟨g2, 0, none⟩), .pointer (some ⟨g3, 0, none⟩)]] :: blk g2 50 #[.slice A1 r1.1.length c1] :: rows 22 3 (.slice A1 r1.1.length c1) hd1 r1.1 :: blk g3 54 #[.slice A2 (Int.toNat (r1.1.length : Int)) c2] :: own 4 (.slice A2 (Int.toNat (r1.1.length : Int)) c2) (vB (seen1.set (Int.toNat p1) true)) :: own 3 (.slice A4 ((l1 ++ ([p1] : List Int)).length) c4) (vI (l1 ++ ([p1] : List Int))) :: own 3 (.slice A5 r2.length c5) (vI r2) :: fs)) rfl (fun hS => slices_MinFunc_w hr3 hS (fun _ hS => (hS.at_ 1 rfl).rd) (((hS.dropN 5).at_ 1 rfl).cap1) rfl) 7 rfl)) <| obs_nil
      refine block_n ?_
      refine then_n ?_
      have hS := hS.pickN 7 [0, 1, 2, 3, 4, 5] (by decide)
      rw [← hφ1] at hm
      exact ⟨((seen1.set (Int.toNat p1) true), (l1 ++ ([p1] : List Int)), r3), ⟨A4, c4, hF.weak [10, 11, 12, 13] (by kernel_rfl), hS⟩, hm⟩
    · refine reg [] [] [10, 11, 12, 14, 43] [pl 10 (.pointer (some ⟨g3, 0, none⟩)), pl 11 (.slice A4 ((l1 ++ ([p1] : List Int)).length) c4), pl 12 (.pointer (some ⟨g4, 0, none⟩)), pl 14 (.slice A5 r2.length c5), pl 43 (.bool ((r2.length : Int) == 0))] hF hS Fol (by kernel_rfl) (by kernel_rfl) (by kernel_rfl) ?_ (fun a w hF hS => ?_)
      · exact obs_nil
      refine cond_ev (t := 43) (b := ((r2.length : Int) == 0)) hF (by kernel_rfl) (fun hb => ?_) (fun hb => ?_)
      · replace hm := if_t hm hb
        refine reg [] [] [6, 7] [pl 6 (.slice A4 ((l1 ++ ([p1] : List Int)).length) c4), pl 7 (.int .i64 0)] hF hS Fol (by kernel_rfl) (by kernel_rfl) (by kernel_rfl) ?_ (fun a w hF hS => ?_)
        · exact obs_nil
        refine wpIn_ret ?_
        refine then_r (block_r (then_r (block_r ?_)))
        rw [← hφ1] at hm
        replace hm := done_b hm
        unfold tour_Greedy_K1 at hm
        try dsimp only at hm
        have hS := hS.pickN 8 [6] (by decide)
        have hm : some ((l1 ++ ([p1] : List Int)), 0) = some r := hm
        obtain rfl := Option.some.inj hm
        exact retV (rs := [.tmp 6, .tmp 7]) (vs := [.slice A4 ((l1 ++ ([p1] : List Int)).length) c4, .int .i64 0]) hF rfl (rv_t (by kernel_rfl) <| rv_t (by kernel_rfl) <| rv_nil) rfl ⟨_, rfl, A4, c4, rfl, hS⟩
      · replace hm := if_f hm hb
        refine wpIn_skip ?_
        refine then_n ?_
        have hS := hS.pickN 8 [2, 3, 6, 7, 0, 1, 4] (by decide)
        exact ⟨hF.weak [10, 11, 12, 14] (by kernel_rfl), hS, hm⟩
  · refine reg [] [] [2, 8, 9, 24] [pl 2 (.int .i64 from1), pl 8 (.pointer (some ⟨g2, 0, none⟩)), pl 9 (.int .i64 r1.2), pl 24 (.bool (r1.2 != 0))] hF hS Fol (by kernel_rfl) (by kernel_rfl) (by kernel_rfl) ?_ (fun a w hF hS => ?_)
    · exact obs_nil
    refine cond_ev (t := 24) (b := (r1.2 != 0)) hF (by kernel_rfl) (fun hb => ?_) (fun hb => ?_)
    · replace hm := if_t hm hb
      refine reg [] [] [6, 7] [pl 6 (.slice none 0 0), pl 7 (.int .i64 r1.2)] hF hS Fol (by kernel_rfl) (by kernel_rfl) (by kernel_rfl) ?_ (fun a w hF hS => ?_)
      · exact obs_nil
      refine wpIn_ret ?_
      refine then_r ?_
      have hS : Sep w0 B w (own 3 (.slice none 0 0) (vI ([] : List Int)) :: blk g2 50 #[.slice A1 r1.1.length c1] :: rows 22 3 (.slice A1 r1.1.length c1) hd1 r1.1 :: own 3 (.slice g1 1 1) (vI ([from1] : List Int)) :: fs) := hS.nil 3
      have hl1 := (hS.at_ 0 rfl).len1
      have hS := (hS.at_ 0 rfl).reN hl1
      have hS : Sep w0 B w (own 3 (.slice none (([] : List Int).length) 0) (vI ([] : List Int)) :: blk g2 50 #[.slice A1 r1.1.length c1] :: rows 22 3 (.slice A1 r1.1.length c1) hd1 r1.1 :: own 3 (.slice g1 1 1) (vI ([from1] : List Int)) :: fs) := hS
      have hS := hS.pickN 4 [0] (by decide)
      have hm : some (([] : List Int), r1.2) = some r := hm
      obtain rfl := Option.some.inj hm
      exact retV (rs := [.tmp 6, .tmp 7]) (vs := [.slice none (([] : List Int).length) 0, .int .i64 r1.2]) hF rfl (rv_t (by kernel_rfl) <| rv_t (by kernel_rfl) <| rv_nil) rfl ⟨_, rfl, none, 0, rfl, hS⟩
    · replace hm := if_f hm hb
      refine wpIn_skip ?_
      refine then_n ?_
      have hS := hS.pickN 3 [0, 1] (by decide)
      exact ⟨hF.weak [2, 8] (by kernel_rfl), hS, hm⟩

noncomputable def gameroomlaw_board_m  (w1 : Int) (h1 : Int) : Option Bool :=
  some ((((decide ((1 : Int) ≤ w1)) && (decide (w1 ≤ 8))) && (decide ((1 : Int) ≤ h1))) && (decide (h1 ≤ 8)))

set_option maxRecDepth 100000 in
set_option maxHeartbeats 4000000 in
theorem gameroomlaw_board_w {w1 : Int} {h1 : Int} {r : Bool} {w0 w : World} {B : Nat} {fs : List HP} (hm : gameroomlaw_board_m w1 h1 = some r) (hS : Sep w0 B w (fs)) :
    Calls Tryd.prog 10 #[.int .i64 w1, .int .i64 h1] w fun e w' => e = .returned (.bool r) ∧ Sep w0 B w' (fs) := by
  unfold gameroomlaw_board_m at hm
  replace hm := start_b hm
  refine enter (l := [.int .i64 w1, .int .i64 h1]) (n := 19) Tryd.func10 rfl rfl (by simp) (fun a hF => ?_)
  refine reg [] [] [0, 1] [pl 0 (.int .i64 w1), pl 1 (.int .i64 h1)] hF hS Fol (by kernel_rfl) (by kernel_rfl) (by kernel_rfl) ?_ (fun a w hF hS => ?_)
  · exact obs_nil
  refine reg [] [] [4] [pl 4 (.bool ((((decide ((1 : Int) ≤ w1)) && (decide (w1 ≤ 8))) && (decide ((1 : Int) ≤ h1))) && (decide (h1 ≤ 8))))] hF hS Fol (by kernel_rfl) (by kernel_rfl) (by kernel_rfl) ?_ (fun a w hF hS => ?_)
  · exact obs_nil
  refine wpIn_ret ?_
  have hm : some ((((decide ((1 : Int) ≤ w1)) && (decide (w1 ≤ 8))) && (decide ((1 : Int) ≤ h1))) && (decide (h1 ≤ 8))) = some r := hm
  obtain rfl := Option.some.inj hm
  exact retV (rs := [.tmp 4]) (vs := [.bool ((((decide ((1 : Int) ≤ w1)) && (decide (w1 ≤ 8))) && (decide ((1 : Int) ≤ h1))) && (decide (h1 ≤ 8)))]) hF rfl (rv_t (by kernel_rfl) <| rv_nil) rfl ⟨rfl, hS⟩

noncomputable def gameroomref_size_J1  (n1 : Int) : Option Int :=
  some n1

noncomputable def gameroomref_size_m  (n1 : Int) : Option Int :=
  if (decide (n1 < 0)) then (some (w64 (0 - n1))) else ((gameroomref_size_J1 n1))

set_option maxRecDepth 100000 in
set_option maxHeartbeats 4000000 in
theorem gameroomref_size_w {n1 : Int} {r : Int} {w0 w : World} {B : Nat} {fs : List HP} (hm : gameroomref_size_m n1 = some r) (hS : Sep w0 B w (fs)) :
    Calls Tryd.prog 48 #[.int .i64 n1] w fun e w' => e = .returned (.int .i64 r) ∧ Sep w0 B w' (fs) := by
  unfold gameroomref_size_m at hm
  replace hm := start_b hm
  refine enter (l := [.int .i64 n1]) (n := 8) Tryd.func48 rfl rfl (by simp) (fun a hF => ?_)
  refine reg [] [] [0] [pl 0 (.int .i64 n1)] hF hS Fol (by kernel_rfl) (by kernel_rfl) (by kernel_rfl) ?_ (fun a w hF hS => ?_)
  · exact obs_nil
  refine seq_cut (fun a w => Fr 8 [pl 0 (.int .i64 n1)] a ∧ Sep w0 B w (fs) ∧ ((gameroomref_size_J1 n1)).bind some = some r) ?_ ?_
  · rintro a w ⟨hF, hS, hm⟩
    unfold gameroomref_size_J1 at hm
    refine reg [] [] [2] [pl 2 (.int .i64 n1)] hF hS Fol (by kernel_rfl) (by kernel_rfl) (by kernel_rfl) ?_ (fun a w hF hS => ?_)
    · exact obs_nil
    refine wpIn_ret ?_
    have hm : some n1 = some r := hm
    obtain rfl := Option.some.inj hm
    exact retV (rs := [.tmp 2]) (vs := [.int .i64 n1]) hF rfl (rv_t (by kernel_rfl) <| rv_nil) rfl ⟨rfl, hS⟩
  · refine reg [] [] [0, 4] [pl 0 (.int .i64 n1), pl 4 (.bool (decide (n1 < 0)))] hF hS Fol (by kernel_rfl) (by kernel_rfl) (by kernel_rfl) ?_ (fun a w hF hS => ?_)
    · exact obs_nil
    refine cond_ev (t := 4) (b := decide (n1 < 0)) hF (by kernel_rfl) (fun hb => ?_) (fun hb => ?_)
    · replace hm := if_t hm hb
      refine reg [] [] [2] [pl 2 (.int .i64 (w64 (0 - n1)))] hF hS Fol (by kernel_rfl) (by kernel_rfl) (by kernel_rfl) ?_ (fun a w hF hS => ?_)
      · exact obs_nil
      refine wpIn_ret ?_
      refine then_r ?_
      have hm : some (w64 (0 - n1)) = some r := hm
      obtain rfl := Option.some.inj hm
      exact retV (rs := [.tmp 2]) (vs := [.int .i64 (w64 (0 - n1))]) hF rfl (rv_t (by kernel_rfl) <| rv_nil) rfl ⟨rfl, hS⟩
    · replace hm := if_f hm hb
      refine wpIn_skip ?_
      refine then_n ?_
      exact ⟨hF.weak [0] (by kernel_rfl), hS, hm⟩

noncomputable def gameroomref_KnightStep_m  (w1 : Int) (a1 : Int) (b1 : Int) : Option Bool :=
  asrt (w1 ≠ (0 : Int)) <| asrt (w1 ≠ (0 : Int)) <| asrt (w1 ≠ (0 : Int)) <| asrt (w1 ≠ (0 : Int)) <| (gameroomref_size_m (w64 ((w64 ((Int.tmod a1 w1) - (Int.tmod b1 w1))) * (w64 ((w64 (Int.tdiv a1 w1)) - (w64 (Int.tdiv b1 w1))))))).bind fun r1 => some (r1 == 2)

set_option maxRecDepth 100000 in
set_option maxHeartbeats 4000000 in
theorem gameroomref_KnightStep_w {w1 : Int} {a1 : Int} {b1 : Int} {r : Bool} {w0 w : World} {B : Nat} {fs : List HP} (hm : gameroomref_KnightStep_m w1 a1 b1 = some r) (hS : Sep w0 B w (fs)) :
    Calls Tryd.prog 34 #[.int .i64 w1, .int .i64 a1, .int .i64 b1] w fun e w' => e = .returned (.bool r) ∧ Sep w0 B w' (fs) := by
  unfold gameroomref_KnightStep_m at hm
  replace hm := start_b hm
  refine enter (l := [.int .i64 w1, .int .i64 a1, .int .i64 b1]) (n := 24) Tryd.func34 rfl rfl (by simp) (fun a hF => ?_)
  refine reg [] [] [0, 1, 2] [pl 0 (.int .i64 w1), pl 1 (.int .i64 a1), pl 2 (.int .i64 b1)] hF hS Fol (by kernel_rfl) (by kernel_rfl) (by kernel_rfl) ?_ (fun a w hF hS => ?_)
  · exact obs_nil
  obtain ⟨hp1, hm⟩ := asrt_b hm
  obtain ⟨hp2, hm⟩ := asrt_b hm
  obtain ⟨hp3, hm⟩ := asrt_b hm
  obtain ⟨hp4, hm⟩ := asrt_b hm
  obtain ⟨r1, hr1, hm⟩ := call_b hm
  refine reg [⟨true, [], vS (Op.intDiv .rem .i64 a1 w1), .int .i64 (Int.tmod a1 w1)⟩, ⟨true, [], vS (Op.intDiv .rem .i64 b1 w1), .int .i64 (Int.tmod b1 w1)⟩, ⟨true, [], vS (Op.intDiv .quo .i64 a1 w1), .int .i64 (w64 (Int.tdiv a1 w1))⟩, ⟨true, [], vS (Op.intDiv .quo .i64 b1 w1), .int .i64 (w64 (Int.tdiv b1 w1))⟩, ⟨false, [], callFunc 48 #[.int .i64 (w64 ((w64 ((Int.tmod a1 w1) - (Int.tmod b1 w1))) * (w64 ((w64 (Int.tdiv a1 w1)) - (w64 (Int.tdiv b1 w1))))))], .int .i64 r1⟩] [none, none, some (.int .i64 (Int.tmod a1 w1)), none, none, some (.int .i64 (Int.tmod b1 w1)), none, none, none, some (.int .i64 (w64 (Int.tdiv a1 w1))), none, none, some (.int .i64 (w64 (Int.tdiv b1 w1))), none, none, some (.int .i64 r1), none, none] [6] [pl 6 (.bool (r1 == 2))] hF hS Fol (by kernel_rfl) (by kernel_rfl) (by kernel_rfl) ?_ (fun a w hF hS => ?_)
  · exact obs_cons (ob_rem rfl (fun _ => hp1)) <| obs_cons (ob_rem rfl (fun _ => hp2)) <| obs_cons (ob_quo rfl (fun _ => hp3)) <| obs_cons (ob_quo rfl (fun _ => hp4)) <| obs_cons (ob_call Tryd.func48 (by kernel_rfl) rfl (fun _ _ hS => gameroomref_size_w hr1 hS )) <| obs_nil
  refine wpIn_ret ?_
  have hm : some (r1 == 2) = some r := hm
  obtain rfl := Option.some.inj hm
  exact retV (rs := [.tmp 6]) (vs := [.bool (r1 == 2)]) hF rfl (rv_t (by kernel_rfl) <| rv_nil) rfl ⟨rfl, hS⟩

noncomputable def gameroomref_at_J3  (i1 : Int) : Option (St Int (Fl Unit Int)) :=
  some (.next (w64 (i1 + 1)))

noncomputable def gameroomref_at_J2  (l1 : List Int) (n2 : Int) (i1 : Int) : Option (St Int (Fl Unit Int)) :=
  asrt (0 ≤ i1 ∧ i1 < (l1.length : Int)) <| if ((geti l1 i1) == n2) then (some (.done (.ret i1))) else ((gameroomref_at_J3 i1))

noncomputable def gameroomref_at_J1  : Option Int :=
  some (-1)

noncomputable def gameroomref_at_K1  : (Fl Unit Int) → Option Int :=
  fun (x : (Fl Unit Int)) => match x with | .go _ => gameroomref_at_J1 | .ret x => some x

noncomputable def gameroomref_at_L1  (l1 : List Int) (n2 : Int) : Int → Option (St Int (Fl Unit Int)) :=
  fun (x : Int) => match x with | i1 => if (decide (i1 < (l1.length : Int))) then ((gameroomref_at_J2 l1 n2 i1)) else (some (.done (.go ())))

noncomputable def gameroomref_at_m  (l1 : List Int) (n2 : Int) : Option Int :=
  (loop (gameroomref_at_L1 l1 n2) 0).bind gameroomref_at_K1

set_option maxRecDepth 100000 in
set_option maxHeartbeats 4000000 in
theorem gameroomref_at_w {A1 : Option Addr} {c1 : Nat} {n1 : Nat} {l1 : List Int} {n2 : Int} {r : Int} {w0 w : World} {B : Nat} {fs : List HP} (hm : gameroomref_at_m l1 n2 = some r) (hS : Sep w0 B w (fs)) (hr_l1 : RdF w0 B fs A1 (vI l1)) (_hc_l1 : l1.length ≤ c1) (_hn_l1 : n1 = l1.length) :
    Calls Tryd.prog 33 #[.slice A1 n1 c1, .int .i64 n2] w fun e w' => e = .returned (.int .i64 r) ∧ Sep w0 B w' (fs) := by
  obtain ⟨i3, hi3, hz3, hs3, hb3⟩ := info_parts Info3
  obtain rfl := _hn_l1
  unfold gameroomref_at_m at hm
  replace hm := start_b hm
  refine enter (l := [.slice A1 l1.length c1, .int .i64 n2]) (n := 19) Tryd.func33 rfl rfl (by simp) (fun a hF => ?_)
  refine reg [] [] [0, 1] [pl 0 (.slice A1 l1.length c1), pl 1 (.int .i64 n2)] hF hS Fol (by kernel_rfl) (by kernel_rfl) (by kernel_rfl) ?_ (fun a w hF hS => ?_)
  · exact obs_nil
  refine seq_cut (fun a w => Fr 19 [] a ∧ Sep w0 B w (fs) ∧ (gameroomref_at_J1).bind some = some r) ?_ ?_
  · rintro a w ⟨hF, hS, hm⟩
    unfold gameroomref_at_J1 at hm
    refine reg [] [] [4] [pl 4 (.int .i64 (-1))] hF hS Fol (by kernel_rfl) (by kernel_rfl) (by kernel_rfl) ?_ (fun a w hF hS => ?_)
    · exact obs_nil
    refine wpIn_ret ?_
    have hm : some (-1) = some r := hm
    obtain rfl := Option.some.inj hm
    exact retV (rs := [.tmp 4]) (vs := [.int .i64 (-1)]) hF rfl (rv_t (by kernel_rfl) <| rv_nil) rfl ⟨rfl, hS⟩
  · refine reg [] [] [0, 1, 5] [pl 0 (.slice A1 l1.length c1), pl 1 (.int .i64 n2), pl 5 (.int .i64 0)] hF hS Fol (by kernel_rfl) (by kernel_rfl) (by kernel_rfl) ?_ (fun a w hF hS => ?_)
    · exact obs_nil
    refine wpIn_block ?_
    refine wp_loop_model (S := Int) (R := (Fl Unit Int)) (gameroomref_at_L1 l1 n2) (fun x => (gameroomref_at_K1 x).bind some) r (fun (x : Int) a w => Fr 19 [pl 0 (.slice A1 l1.length c1), pl 1 (.int .i64 n2), pl 5 (.int .i64 x)] a ∧ Sep w0 B w (fs)) (assoc_b hm) ⟨hF.weak [0, 1, 5] (by kernel_rfl), hS⟩ ?_
    clear hF hS hm
    rintro nn1 i1 a w ⟨hF, hS⟩ hm
    generalize hφ1 : stK (gameroomref_at_L1 l1 n2) nn1 (fun x => (gameroomref_at_K1 x).bind some) = φ1 at hm
    unfold gameroomref_at_L1 at hm
    dsimp only at hm
    refine seq_cut (fun a w => Fr 19 [pl 0 (.slice A1 l1.length c1), pl 1 (.int .i64 n2), pl 5 (.int .i64 i1)] a ∧ Sep w0 B w (fs) ∧ ((gameroomref_at_J2 l1 n2 i1)).bind φ1 = some r) ?_ ?_
    · rintro a w ⟨hF, hS, hm⟩
      unfold gameroomref_at_J2 at hm
      refine seq_cut (fun a w => Fr 19 [pl 0 (.slice A1 l1.length c1), pl 1 (.int .i64 n2), pl 5 (.int .i64 i1)] a ∧ Sep w0 B w (fs) ∧ ((gameroomref_at_J3 i1)).bind φ1 = some r) ?_ ?_
      · rintro a w ⟨hF, hS, hm⟩
        unfold gameroomref_at_J3 at hm
        refine reg1 [] [] [0, 1, 5] [pl 0 (.slice A1 l1.length c1), pl 1 (.int .i64 n2), pl 5 (.int .i64 (w64 (i1 + 1)))] hF hS Fol (by kernel_rfl) (by kernel_rfl) (by kernel_rfl) ?_ (fun a w hF hS => ?_)
        · exact obs_nil
        refine then_n ?_
        rw [← hφ1] at hm
        exact ⟨(w64 (i1 + 1)), ⟨hF.weak [0, 1, 5] (by kernel_rfl), hS⟩, hm⟩
      · refine wpIn_block ?_
        obtain ⟨hp1, hm⟩ := asrt_b hm
        refine reg [⟨true, [], vS (Instr.indexAt 22 (.slice A1 l1.length c1) (.int .i64 i1)), .pointer (some (sAddr A1 i1))⟩, ⟨false, [], vS (Instr.loadAt 3 (.pointer (some (sAddr A1 i1)))), .int .i64 (geti l1 i1)⟩] [none, none, some (.pointer (some (sAddr A1 i1))), some (.int .i64 (geti l1 i1)), none, none] [0, 1, 5, 17] [pl 0 (.slice A1 l1.length c1), pl 1 (.int .i64 n2), pl 5 (.int .i64 i1), pl 17 (.bool ((geti l1 i1) == n2))] hF hS Fol (by kernel_rfl) (by kernel_rfl) (by kernel_rfl) ?_ (fun a w hF hS => ?_)
        · exact obs_cons (ob_ix1 (f := (Value.int .i64)) (m := l1) Und22 hi3 hs3 (hr_l1 _ (hS.dropN 0)) rfl (fun _ => hp1)) <| obs_cons (ob_get1 (n := l1.length) (m := l1) (Value.int .i64) (0 : Int) Agg3 (fun _ hS => ⟨_, (hr_l1 _ (hS.dropN 0))⟩) (fun _ hS => rfl) (fun _ => hp1)) <| obs_nil
        refine cond_ev (t := 17) (b := ((geti l1 i1) == n2)) hF (by kernel_rfl) (fun hb => ?_) (fun hb => ?_)
        · replace hm := if_t hm hb
          refine reg [] [] [4] [pl 4 (.int .i64 i1)] hF hS Fol (by kernel_rfl) (by kernel_rfl) (by kernel_rfl) ?_ (fun a w hF hS => ?_)
          · exact obs_nil
          refine wpIn_ret ?_
          refine block_r (then_r (then_r (block_r (then_r ?_))))
          rw [← hφ1] at hm
          replace hm := done_b hm
          unfold gameroomref_at_K1 at hm
          try dsimp only at hm
          have hm : some i1 = some r := hm
          obtain rfl := Option.some.inj hm
          exact retV (rs := [.tmp 4]) (vs := [.int .i64 i1]) hF rfl (rv_t (by kernel_rfl) <| rv_nil) rfl ⟨rfl, hS⟩
        · replace hm := if_f hm hb
          refine wpIn_skip ?_
          refine block_n ?_
          refine then_n ?_
          exact ⟨hF.weak [0, 1, 5] (by kernel_rfl), hS, hm⟩
    · refine reg [] [] [0, 1, 5, 9] [pl 0 (.slice A1 l1.length c1), pl 1 (.int .i64 n2), pl 5 (.int .i64 i1), pl 9 (.bool (decide (i1 < (l1.length : Int))))] hF hS Fol (by kernel_rfl) (by kernel_rfl) (by kernel_rfl) ?_ (fun a w hF hS => ?_)
      · exact obs_nil
      refine cond_ev (t := 9) (b := decide (i1 < (l1.length : Int))) hF (by kernel_rfl) (fun hb => ?_) (fun hb => ?_)
      · replace hm := if_t hm hb
        refine wpIn_skip ?_
        refine then_n ?_
        exact ⟨hF.weak [0, 1, 5] (by kernel_rfl), hS, hm⟩
      · replace hm := if_f hm hb
        refine wpIn_exit ?_
        refine then_e (then_e (block_e (then_n ?_)))
        rw [← hφ1] at hm
        replace hm := done_b hm
        unfold gameroomref_at_K1 at hm
        try dsimp only at hm
        have hm : (gameroomref_at_J1).bind some = some r := hm
        exact ⟨hF.weak [] (by kernel_rfl), hS, hm⟩

noncomputable def gameroomref_KnightGreedy_J7  (k1 : Int) (n3 : Int) : Option (St (Int × Int) Int) :=
  some (.next (n3, (w64 (k1 + 1))))

noncomputable def gameroomref_KnightGreedy_J6  (w1 : Int) (l1 : List Int) (i1 : Int) (n1 : Int) (k1 : Int) : Option (St (Int × Int) Int) :=
  (gameroomref_KnightStep_m w1 i1 k1).bind fun r3 => ((if r3 then gameroomref_at_m l1 k1 else some 0)).bind fun r4 => if (r3 && (decide (r4 < 0))) then ((gameroomref_KnightGreedy_J7 k1) (w64 (n1 + 1))) else ((gameroomref_KnightGreedy_J7 k1) n1)

noncomputable def gameroomref_KnightGreedy_J3  (i1 : Int) (best3 : Int) (least2 : Int) : Option (St (Int × Int × Int) Int) :=
  some (.next (best3, least2, (w64 (i1 + 1))))

noncomputable def gameroomref_KnightGreedy_J5  (best1 : Int) (least1 : Int) (i1 : Int) (n2 : Int) : Option (St (Int × Int × Int) Int) :=
  if (decide (n2 < least1)) then ((gameroomref_KnightGreedy_J3 i1) i1 n2) else ((gameroomref_KnightGreedy_J3 i1) best1 least1)

noncomputable def gameroomref_KnightGreedy_K3  (best1 : Int) (least1 : Int) (i1 : Int) : Int → Option (St (Int × Int × Int) Int) :=
  fun (x : Int) => match x with | n2 => (gameroomref_KnightGreedy_J5 best1 least1 i1) n2

noncomputable def gameroomref_KnightGreedy_L3  (w1 : Int) (h1 : Int) (l1 : List Int) (i1 : Int) : (Int × Int) → Option (St (Int × Int) Int) :=
  fun (x : (Int × Int)) => match x with | (n1, k1) => if (decide (k1 < (w64 (w1 * h1)))) then ((gameroomref_KnightGreedy_J6 w1 l1 i1 n1 k1)) else (some (.done n1))

noncomputable def gameroomref_KnightGreedy_J4  (w1 : Int) (h1 : Int) (l1 : List Int) (best1 : Int) (least1 : Int) (i1 : Int) : Option (St (Int × Int × Int) Int) :=
  (loop (gameroomref_KnightGreedy_L3 w1 h1 l1 i1) (0, 0)).bind (gameroomref_KnightGreedy_K3 best1 least1 i1)

noncomputable def gameroomref_KnightGreedy_J2  (w1 : Int) (h1 : Int) (l1 : List Int) (best1 : Int) (least1 : Int) (i1 : Int) : Option (St (Int × Int × Int) Int) :=
  asrt (0 ≤ (w64 ((l1.length : Int) - 1)) ∧ (w64 ((l1.length : Int) - 1)) < (l1.length : Int)) <| (gameroomref_KnightStep_m w1 (geti l1 (w64 ((l1.length : Int) - 1))) i1).bind fun r1 => ((if (!(!r1)) then gameroomref_at_m l1 i1 else some 0)).bind fun r2 => if ((!r1) || (decide ((0 : Int) ≤ r2))) then ((gameroomref_KnightGreedy_J3 i1) best1 least1) else ((gameroomref_KnightGreedy_J4 w1 h1 l1 best1 least1 i1))

noncomputable def gameroomref_KnightGreedy_J8  (l1 : List Int) (best2 : Int) : Option (St (List Int) (List Int)) :=
  asrt ((l1.length : Int) + 1 ≤ bigN) <| some (.next (l1 ++ ([best2] : List Int)))

noncomputable def gameroomref_KnightGreedy_J1  (l1 : List Int) (best2 : Int) : Option (St (List Int) (List Int)) :=
  if (decide (best2 < 0)) then (some (.done l1)) else ((gameroomref_KnightGreedy_J8 l1 best2))

noncomputable def gameroomref_KnightGreedy_K2  (l1 : List Int) : Int → Option (St (List Int) (List Int)) :=
  fun (x : Int) => match x with | best2 => (gameroomref_KnightGreedy_J1 l1) best2

noncomputable def gameroomref_KnightGreedy_L2  (w1 : Int) (h1 : Int) (l1 : List Int) : (Int × Int × Int) → Option (St (Int × Int × Int) Int) :=
  fun (x : (Int × Int × Int)) => match x with | (best1, least1, i1) => if (decide (i1 < (w64 (w1 * h1)))) then ((gameroomref_KnightGreedy_J2 w1 h1 l1 best1 least1 i1)) else (some (.done best1))

noncomputable def gameroomref_KnightGreedy_K1  : (List Int) → Option (List Int) :=
  fun (x : (List Int)) => match x with | x => some x

noncomputable def gameroomref_KnightGreedy_L1  (w1 : Int) (h1 : Int) : (List Int) → Option (St (List Int) (List Int)) :=
  fun (x : (List Int)) => match x with | l1 => (loop (gameroomref_KnightGreedy_L2 w1 h1 l1) ((-1), 100, 0)).bind (gameroomref_KnightGreedy_K2 l1)

noncomputable def gameroomref_KnightGreedy_m  (w1 : Int) (h1 : Int) (from1 : Int) : Option (List Int) :=
  (loop (gameroomref_KnightGreedy_L1 w1 h1) ([from1] : List Int)).bind gameroomref_KnightGreedy_K1

set_option maxRecDepth 100000 in
set_option maxHeartbeats 4000000 in
theorem gameroomref_KnightGreedy_w {w1 : Int} {h1 : Int} {from1 : Int} {r : (List Int)} {w0 w : World} {B : Nat} {fs : List HP} (hm : gameroomref_KnightGreedy_m w1 h1 from1 = some r) (hS : Sep w0 B w (fs)) :
    Calls Tryd.prog 19 #[.int .i64 w1, .int .i64 h1, .int .i64 from1] w fun e w' => ∃ v, e = .returned v ∧ ∃ (A3 : Option Addr) (c3 : Nat), v = .slice A3 r.length c3 ∧ Sep w0 B w' (own 3 (.slice A3 r.length c3) (vI r) :: fs) := by
  obtain ⟨i3, hi3, hz3, hs3, hb3⟩ := info_parts Info3
  unfold gameroomref_KnightGreedy_m at hm
  replace hm := start_b hm
  refine enter (l := [.int .i64 w1, .int .i64 h1, .int .i64 from1]) (n := 69) Tryd.func19 rfl rfl (by simp) (fun a hF => ?_)
  refine reg [] [] [0, 1, 2] [pl 0 (.int .i64 w1), pl 1 (.int .i64 h1), pl 2 (.int .i64 from1)] hF hS Fol (by kernel_rfl) (by kernel_rfl) (by kernel_rfl) ?_ (fun a w hF hS => ?_)
  · exact obs_nil
  refine seqR ?_
  refine at_run 1 [] [] [0, 1, 13] [pl 0 (.int .i64 w1), pl 1 (.int .i64 h1), pl 13 (.int .i64 from1)] hF hS (by kernel_rfl) (by kernel_rfl) ?_ (fun a w hF hS => ?_)
  · exact obs_nil
  refine at_do (d := 14) (s := vS (Instr.buildSlice 22 1 #[(0, .int .i64 from1)])) (v := .slice (some ⟨w.heap.size, 0, none⟩) 1 1) (w' := w.alloc (.cells #[.int .i64 from1] 3)) hF (by kernel_rfl) (by kernel_rfl) (by kernel_rfl) (fun a hF => ?_)
  have hS : Sep w0 B (w.alloc (.cells #[.int .i64 from1] 3)) (own 3 (.slice (some (⟨w.heap.size, 0, none⟩ : Addr)) 1 1) (vI ([from1] : List Int)) :: (fs)) := hS.lit 3 #[.int .i64 from1] 1 rfl (by omega)
  generalize (some (⟨w.heap.size, 0, none⟩ : Addr)) = g1 at hF hS
  generalize w.alloc (.cells #[.int .i64 from1] 3) = w at hS ⊢
  refine at_run 1 [] [] [0, 1, 7] [pl 0 (.int .i64 w1), pl 1 (.int .i64 h1), pl 7 (.slice g1 1 1)] hF hS (by kernel_rfl) (by kernel_rfl) ?_ (fun a w hF hS => ?_)
  · exact obs_nil
  refine at_end [0, 1, 7] [pl 0 (.int .i64 w1), pl 1 (.int .i64 h1), pl 7 (.slice g1 1 1)] hF rfl (by kernel_rfl) (fun hF => ?_)
  refine then_n ?_
  refine wpIn_block ?_
  have hl1 := (hS.at_ 0 rfl).len1
  have hS := (hS.at_ 0 rfl).reN hl1
  have hS : Sep w0 B w (own 3 (.slice g1 (([from1] : List Int).length) 1) (vI ([from1] : List Int)) :: fs) := hS
  have hF := hF.cast (t := 7) (v := .slice g1 1 1) (v' := .slice g1 (([from1] : List Int).length) 1) rfl rfl (congrArg (fun k => Value.slice g1 k 1) hl1)
  refine wp_loop_model (S := (List Int)) (R := (List Int)) (gameroomref_KnightGreedy_L1 w1 h1) (fun x => (gameroomref_KnightGreedy_K1 x).bind some) r (fun (x : (List Int)) a w => ∃ (A1 : Option Addr) (c1 : Nat), Fr 69 [pl 0 (.int .i64 w1), pl 1 (.int .i64 h1), pl 7 (.slice A1 x.length c1)] a ∧ Sep w0 B w (own 3 (.slice A1 x.length c1) (vI x) :: fs)) (assoc_b hm) ⟨g1, 1, hF.weak [0, 1, 7] (by kernel_rfl), hS⟩ ?_
  clear hF hS hm
  rintro nn1 l1 a w ⟨A1, c1, hF, hS⟩ hm
  generalize hφ1 : stK (gameroomref_KnightGreedy_L1 w1 h1) nn1 (fun x => (gameroomref_KnightGreedy_K1 x).bind some) = φ1 at hm
  unfold gameroomref_KnightGreedy_L1 at hm
  dsimp only at hm
  refine wpIn_block ?_
  refine reg [] [] [0, 1, 7, 8, 9] [pl 0 (.int .i64 w1), pl 1 (.int .i64 h1), pl 7 (.slice A1 l1.length c1), pl 8 (.int .i64 (-1)), pl 9 (.int .i64 100)] hF hS Fol (by kernel_rfl) (by kernel_rfl) (by kernel_rfl) ?_ (fun a w hF hS => ?_)
  · exact obs_nil
  refine seq_cut (fun a w => ∃ (best2 : Int), Fr 69 [pl 0 (.int .i64 w1), pl 1 (.int .i64 h1), pl 7 (.slice A1 l1.length c1), pl 8 (.int .i64 best2)] a ∧ Sep w0 B w (own 3 (.slice A1 l1.length c1) (vI l1) :: fs) ∧ ((gameroomref_KnightGreedy_J1 l1) best2).bind φ1 = some r) ?_ ?_
  · rintro a w ⟨best2, hF, hS, hm⟩
    unfold gameroomref_KnightGreedy_J1 at hm
    refine seq_cut (fun a w => Fr 69 [pl 0 (.int .i64 w1), pl 1 (.int .i64 h1), pl 7 (.slice A1 l1.length c1), pl 8 (.int .i64 best2)] a ∧ Sep w0 B w (own 3 (.slice A1 l1.length c1) (vI l1) :: fs) ∧ ((gameroomref_KnightGreedy_J8 l1 best2)).bind φ1 = some r) ?_ ?_
    · rintro a w ⟨hF, hS, hm⟩
      unfold gameroomref_KnightGreedy_J8 at hm
      refine oneR ?_
      obtain ⟨hp2, hm⟩ := asrt_b hm
      refine at_run 2 [] [] [0, 1, 65, 66] [pl 0 (.int .i64 w1), pl 1 (.int .i64 h1), pl 65 (.slice A1 l1.length c1), pl 66 (.int .i64 best2)] hF hS (by kernel_rfl) (by kernel_rfl) ?_ (fun a w hF hS => ?_)
      · exact obs_nil
      refine at_do (d := 67) (s := vS (Instr.buildSlice 22 1 #[(0, .int .i64 best2)])) (v := .slice (some ⟨w.heap.size, 0, none⟩) 1 1) (w' := w.alloc (.cells #[.int .i64 best2] 3)) hF (by kernel_rfl) (by kernel_rfl) (by kernel_rfl) (fun a hF => ?_)
      have hS : Sep w0 B (w.alloc (.cells #[.int .i64 best2] 3)) (own 3 (.slice (some (⟨w.heap.size, 0, none⟩ : Addr)) 1 1) (vI ([best2] : List Int)) :: (own 3 (.slice A1 l1.length c1) (vI l1) :: fs)) := hS.lit 3 #[.int .i64 best2] 1 rfl (by omega)
      generalize (some (⟨w.heap.size, 0, none⟩ : Addr)) = g2 at hF hS
      generalize w.alloc (.cells #[.int .i64 best2] 3) = w at hS ⊢
      obtain ⟨A2, c2, w, hrun, hS⟩ := run_app1 (P := Tryd.prog) (t := 22) (m := l1) (ys := ([best2] : List Int)) (A2 := g2) (m2 := 1) (c2 := 1) (Value.int .i64) (0 : Int) (hS.at_ 1 rfl) (hS.at_ 0 rfl).rd ((hS.at_ 0 rfl).len1) 22 Und22 hi3 hz3 hs3 (by omega) rfl (fun _ => rfl) hp2
      have hS : Sep w0 B w (own 3 (.slice g2 1 1) (vI ([best2] : List Int)) :: own 3 (.slice A2 ((l1 ++ ([best2] : List Int)).length) c2) (vI (l1 ++ ([best2] : List Int))) :: fs) := hS
      refine at_do (d := 68) hF (by kernel_rfl) (by kernel_rfl) hrun (fun a hF => ?_)
      refine at_run 1 [] [] [0, 1, 7] [pl 0 (.int .i64 w1), pl 1 (.int .i64 h1), pl 7 (.slice A2 ((l1 ++ ([best2] : List Int)).length) c2)] hF hS (by kernel_rfl) (by kernel_rfl) ?_ (fun a w hF hS => ?_)
      · exact obs_nil
      refine at_end [0, 1, 7] [pl 0 (.int .i64 w1), pl 1 (.int .i64 h1), pl 7 (.slice A2 ((l1 ++ ([best2] : List Int)).length) c2)] hF rfl (by kernel_rfl) (fun hF => ?_)
      refine block_n ?_
      refine then_n ?_
      have hS := hS.pickN 2 [1] (by decide)
      rw [← hφ1] at hm
      exact ⟨(l1 ++ ([best2] : List Int)), ⟨A2, c2, hF.weak [0, 1, 7] (by kernel_rfl), hS⟩, hm⟩
    · refine reg [] [] [0, 1, 7, 8, 63] [pl 0 (.int .i64 w1), pl 1 (.int .i64 h1), pl 7 (.slice A1 l1.length c1), pl 8 (.int .i64 best2), pl 63 (.bool (decide (best2 < 0)))] hF hS Fol (by kernel_rfl) (by kernel_rfl) (by kernel_rfl) ?_ (fun a w hF hS => ?_)
      · exact obs_nil
      refine cond_ev (t := 63) (b := decide (best2 < 0)) hF (by kernel_rfl) (fun hb => ?_) (fun hb => ?_)
      · replace hm := if_t hm hb
        refine reg [] [] [6] [pl 6 (.slice A1 l1.length c1)] hF hS Fol (by kernel_rfl) (by kernel_rfl) (by kernel_rfl) ?_ (fun a w hF hS => ?_)
        · exact obs_nil
        refine wpIn_ret ?_
        refine then_r (block_r (then_r (block_r ?_)))
        rw [← hφ1] at hm
        replace hm := done_b hm
        unfold gameroomref_KnightGreedy_K1 at hm
        try dsimp only at hm
        have hm : some l1 = some r := hm
        obtain rfl := Option.some.inj hm
        exact retV (rs := [.tmp 6]) (vs := [.slice A1 l1.length c1]) hF rfl (rv_t (by kernel_rfl) <| rv_nil) rfl ⟨_, rfl, A1, c1, rfl, hS⟩
      · replace hm := if_f hm hb
        refine wpIn_skip ?_
        refine then_n ?_
        exact ⟨hF.weak [0, 1, 7, 8] (by kernel_rfl), hS, hm⟩
  · refine reg [] [] [0, 1, 7, 8, 9, 10] [pl 0 (.int .i64 w1), pl 1 (.int .i64 h1), pl 7 (.slice A1 l1.length c1), pl 8 (.int .i64 (-1)), pl 9 (.int .i64 100), pl 10 (.int .i64 0)] hF hS Fol (by kernel_rfl) (by kernel_rfl) (by kernel_rfl) ?_ (fun a w hF hS => ?_)
    · exact obs_nil
    refine wpIn_block ?_
    refine wp_loop_model (S := (Int × Int × Int)) (R := Int) (gameroomref_KnightGreedy_L2 w1 h1 l1) (fun x => ((gameroomref_KnightGreedy_K2 l1) x).bind φ1) r (fun (x : (Int × Int × Int)) a w => Fr 69 [pl 0 (.int .i64 w1), pl 1 (.int .i64 h1), pl 7 (.slice A1 l1.length c1), pl 8 (.int .i64 x.1), pl 9 (.int .i64 x.2.1), pl 10 (.int .i64 x.2.2)] a ∧ Sep w0 B w (own 3 (.slice A1 l1.length c1) (vI l1) :: fs)) (assoc_b hm) ⟨hF.weak [0, 1, 7, 8, 9, 10] (by kernel_rfl), hS⟩ ?_
    clear hF hS hm
    rintro nn2 ⟨best1, least1, i1⟩ a w ⟨hF, hS⟩ hm
    generalize hφ2 : stK (gameroomref_KnightGreedy_L2 w1 h1 l1) nn2 (fun x => ((gameroomref_KnightGreedy_K2 l1) x).bind φ1) = φ2 at hm
    unfold gameroomref_KnightGreedy_L2 at hm
    dsimp only at hF hS hm
    refine seq_cut (fun a w => Fr 69 [pl 0 (.int .i64 w1), pl 1 (.int .i64 h1), pl 7 (.slice A1 l1.length c1), pl 8 (.int .i64 best1), pl 9 (.int .i64 least1), pl 10 (.int .i64 i1)] a ∧ Sep w0 B w (own 3 (.slice A1 l1.length c1) (vI l1) :: fs) ∧ ((gameroomref_KnightGreedy_J2 w1 h1 l1 best1 least1 i1)).bind φ2 = some r) ?_ ?_
    · rintro a w ⟨hF, hS, hm⟩
      unfold gameroomref_KnightGreedy_J2 at hm
      refine seq_cut (fun a w => ∃ (best3 : Int) (least2 : Int), Fr 69 [pl 0 (.int .i64 w1), pl 1 (.int .i64 h1), pl 7 (.slice A1 l1.length c1), pl 8 (.int .i64 best3), pl 9 (.int .i64 least2), pl 10 (.int .i64 i1)] a ∧ Sep w0 B w (own 3 (.slice A1 l1.length c1) (vI l1) :: fs) ∧ ((gameroomref_KnightGreedy_J3 i1) best3 least2).bind φ2 = some r) ?_ ?_
      · rintro a w ⟨best3, least2, hF, hS, hm⟩
        unfold gameroomref_KnightGreedy_J3 at hm
        refine reg1 [] [] [0, 1, 7, 8, 9, 10] [pl 0 (.int .i64 w1), pl 1 (.int .i64 h1), pl 7 (.slice A1 l1.length c1), pl 8 (.int .i64 best3), pl 9 (.int .i64 least2), pl 10 (.int .i64 (w64 (i1 + 1)))] hF hS Fol (by kernel_rfl) (by kernel_rfl) (by kernel_rfl) ?_ (fun a w hF hS => ?_)
        · exact obs_nil
        refine then_n ?_
        rw [← hφ2] at hm
        exact ⟨(best3, least2, (w64 (i1 + 1))), ⟨hF.weak [0, 1, 7, 8, 9, 10] (by kernel_rfl), hS⟩, hm⟩
      · refine wpIn_block ?_
        refine seq_cut (fun a w => Fr 69 [pl 0 (.int .i64 w1), pl 1 (.int .i64 h1), pl 7 (.slice A1 l1.length c1), pl 8 (.int .i64 best1), pl 9 (.int .i64 least1), pl 10 (.int .i64 i1)] a ∧ Sep w0 B w (own 3 (.slice A1 l1.length c1) (vI l1) :: fs) ∧ ((gameroomref_KnightGreedy_J4 w1 h1 l1 best1 least1 i1)).bind φ2 = some r) ?_ ?_
        · rintro a w ⟨hF, hS, hm⟩
          unfold gameroomref_KnightGreedy_J4 at hm
          refine reg [] [] [0, 1, 7, 8, 9, 10, 11] [pl 0 (.int .i64 w1), pl 1 (.int .i64 h1), pl 7 (.slice A1 l1.length c1), pl 8 (.int .i64 best1), pl 9 (.int .i64 least1), pl 10 (.int .i64 i1), pl 11 (.int .i64 0)] hF hS Fol (by kernel_rfl) (by kernel_rfl) (by kernel_rfl) ?_ (fun a w hF hS => ?_)
          · exact obs_nil
          refine seq_cut (fun a w => ∃ (n2 : Int), Fr 69 [pl 0 (.int .i64 w1), pl 1 (.int .i64 h1), pl 7 (.slice A1 l1.length c1), pl 8 (.int .i64 best1), pl 9 (.int .i64 least1), pl 10 (.int .i64 i1), pl 11 (.int .i64 n2)] a ∧ Sep w0 B w (own 3 (.slice A1 l1.length c1) (vI l1) :: fs) ∧ ((gameroomref_KnightGreedy_J5 best1 least1 i1) n2).bind φ2 = some r) ?_ ?_
          · rintro a w ⟨n2, hF, hS, hm⟩
            unfold gameroomref_KnightGreedy_J5 at hm
            refine reg [] [] [0, 1, 7, 8, 9, 10, 11, 59] [pl 0 (.int .i64 w1), pl 1 (.int .i64 h1), pl 7 (.slice A1 l1.length c1), pl 8 (.int .i64 best1), pl 9 (.int .i64 least1), pl 10 (.int .i64 i1), pl 11 (.int .i64 n2), pl 59 (.bool (decide (n2 < least1)))] hF hS Fol (by kernel_rfl) (by kernel_rfl) (by kernel_rfl) ?_ (fun a w hF hS => ?_)
            · exact obs_nil
            refine cond_ev (t := 59) (b := decide (n2 < least1)) hF (by kernel_rfl) (fun hb => ?_) (fun hb => ?_)
            · replace hm := if_t hm hb
              refine reg1 [] [] [0, 1, 7, 8, 9, 10] [pl 0 (.int .i64 w1), pl 1 (.int .i64 h1), pl 7 (.slice A1 l1.length c1), pl 8 (.int .i64 i1), pl 9 (.int .i64 n2), pl 10 (.int .i64 i1)] hF hS Fol (by kernel_rfl) (by kernel_rfl) (by kernel_rfl) ?_ (fun a w hF hS => ?_)
              · exact obs_nil
              refine block_n ?_
              refine then_n ?_
              exact ⟨i1, n2, hF.weak [0, 1, 7, 8, 9, 10] (by kernel_rfl), hS, hm⟩
            · replace hm := if_f hm hb
              refine wpIn_skip ?_
              refine block_n ?_
              refine then_n ?_
              exact ⟨best1, least1, hF.weak [0, 1, 7, 8, 9, 10] (by kernel_rfl), hS, hm⟩
          · refine reg [] [] [0, 1, 7, 8, 9, 10, 11, 12] [pl 0 (.int .i64 w1), pl 1 (.int .i64 h1), pl 7 (.slice A1 l1.length c1), pl 8 (.int .i64 best1), pl 9 (.int .i64 least1), pl 10 (.int .i64 i1), pl 11 (.int .i64 0), pl 12 (.int .i64 0)] hF hS Fol (by kernel_rfl) (by kernel_rfl) (by kernel_rfl) ?_ (fun a w hF hS => ?_)
            · exact obs_nil
            refine wpIn_block ?_
            refine wp_loop_model (S := (Int × Int)) (R := Int) (gameroomref_KnightGreedy_L3 w1 h1 l1 i1) (fun x => ((gameroomref_KnightGreedy_K3 best1 least1 i1) x).bind φ2) r (fun (x : (Int × Int)) a w => Fr 69 [pl 0 (.int .i64 w1), pl 1 (.int .i64 h1), pl 7 (.slice A1 l1.length c1), pl 8 (.int .i64 best1), pl 9 (.int .i64 least1), pl 10 (.int .i64 i1), pl 11 (.int .i64 x.1), pl 12 (.int .i64 x.2)] a ∧ Sep w0 B w (own 3 (.slice A1 l1.length c1) (vI l1) :: fs)) (assoc_b hm) ⟨hF.weak [0, 1, 7, 8, 9, 10, 11, 12] (by kernel_rfl), hS⟩ ?_
            clear hF hS hm
            rintro nn3 ⟨n1, k1⟩ a w ⟨hF, hS⟩ hm
            generalize hφ3 : stK (gameroomref_KnightGreedy_L3 w1 h1 l1 i1) nn3 (fun x => ((gameroomref_KnightGreedy_K3 best1 least1 i1) x).bind φ2) = φ3 at hm
            unfold gameroomref_KnightGreedy_L3 at hm
            dsimp only at hF hS hm
            refine seq_cut (fun a w => Fr 69 [pl 0 (.int .i64 w1), pl 1 (.int .i64 h1), pl 7 (.slice A1 l1.length c1), pl 8 (.int .i64 best1), pl 9 (.int .i64 least1), pl 10 (.int .i64 i1), pl 11 (.int .i64 n1), pl 12 (.int .i64 k1)] a ∧ Sep w0 B w (own 3 (.slice A1 l1.length c1) (vI l1) :: fs) ∧ ((gameroomref_KnightGreedy_J6 w1 l1 i1 n1 k1)).bind φ3 = some r) ?_ ?_
            · rintro a w ⟨hF, hS, hm⟩
              unfold gameroomref_KnightGreedy_J6 at hm
              refine seq_cut (fun a w => ∃ (n3 : Int), Fr 69 [pl 0 (.int .i64 w1), pl 1 (.int .i64 h1), pl 7 (.slice A1 l1.length c1), pl 8 (.int .i64 best1), pl 9 (.int .i64 least1), pl 10 (.int .i64 i1), pl 11 (.int .i64 n3), pl 12 (.int .i64 k1)] a ∧ Sep w0 B w (own 3 (.slice A1 l1.length c1) (vI l1) :: fs) ∧ ((gameroomref_KnightGreedy_J7 k1) n3).bind φ3 = some r) ?_ ?_
              · rintro a w ⟨n3, hF, hS, hm⟩
                unfold gameroomref_KnightGreedy_J7 at hm
                refine reg1 [] [] [0, 1, 7, 8, 9, 10, 11, 12] [pl 0 (.int .i64 w1), pl 1 (.int .i64 h1), pl 7 (.slice A1 l1.length c1), pl 8 (.int .i64 best1), pl 9 (.int .i64 least1), pl 10 (.int .i64 i1), pl 11 (.int .i64 n3), pl 12 (.int .i64 (w64 (k1 + 1)))] hF hS Fol (by kernel_rfl) (by kernel_rfl) (by kernel_rfl) ?_ (fun a w hF hS => ?_)
                · exact obs_nil
                refine then_n ?_
                rw [← hφ3] at hm
                exact ⟨(n3, (w64 (k1 + 1))), ⟨hF.weak [0, 1, 7, 8, 9, 10, 11, 12] (by kernel_rfl), hS⟩, hm⟩
              · refine wpIn_block ?_
                obtain ⟨r3, hr3, hm⟩ := call_b hm
                obtain ⟨r4, hr4, hm⟩ := call_b hm
                refine reg [⟨false, [], callFunc 34 #[.int .i64 w1, .int .i64 i1, .int .i64 k1], .bool r3⟩, ⟨false, [(r3, true)], callFunc 33 #[.slice A1 l1.length c1, .int .i64 k1], .int .i64 r4⟩] [none, none, none, some (.bool r3), none, none, none, some (.int .i64 r4), none, none] [0, 1, 7, 8, 9, 10, 11, 12, 54] [pl 0 (.int .i64 w1), pl 1 (.int .i64 h1), pl 7 (.slice A1 l1.length c1), pl 8 (.int .i64 best1), pl 9 (.int .i64 least1), pl 10 (.int .i64 i1), pl 11 (.int .i64 n1), pl 12 (.int .i64 k1), pl 54 (.bool (r3 && (decide (r4 < 0))))] hF hS Fol (by kernel_rfl) (by kernel_rfl) (by kernel_rfl) ?_ (fun a w hF hS => ?_)
                · exact obs_cons (ob_call Tryd.func34 (by kernel_rfl) rfl (fun _ _ hS => gameroomref_KnightStep_w hr3 hS )) <| obs_cons (ob_call Tryd.func33 (by kernel_rfl) rfl (fun hy _ hS => gameroomref_at_w (ite_some hr4 (by rw [show r3 = true from hy (r3, true) (by simp)]; try rfl)) hS (fun _ hS => (hS.at_ 0 rfl).rd) ((hS.at_ 0 rfl).cap1) rfl)) <| obs_nil
                refine cond_ev (t := 54) (b := r3 && (decide (r4 < 0))) hF (by kernel_rfl) (fun hb => ?_) (fun hb => ?_)
                · replace hm := if_t hm hb
                  refine reg1 [] [] [0, 1, 7, 8, 9, 10, 11, 12] [pl 0 (.int .i64 w1), pl 1 (.int .i64 h1), pl 7 (.slice A1 l1.length c1), pl 8 (.int .i64 best1), pl 9 (.int .i64 least1), pl 10 (.int .i64 i1), pl 11 (.int .i64 (w64 (n1 + 1))), pl 12 (.int .i64 k1)] hF hS Fol (by kernel_rfl) (by kernel_rfl) (by kernel_rfl) ?_ (fun a w hF hS => ?_)
                  · exact obs_nil
                  refine block_n ?_
                  refine then_n ?_
                  exact ⟨(w64 (n1 + 1)), hF.weak [0, 1, 7, 8, 9, 10, 11, 12] (by kernel_rfl), hS, hm⟩
                · replace hm := if_f hm hb
                  refine wpIn_skip ?_
                  refine block_n ?_
                  refine then_n ?_
                  exact ⟨n1, hF.weak [0, 1, 7, 8, 9, 10, 11, 12] (by kernel_rfl), hS, hm⟩
            · refine reg [] [] [0, 1, 7, 8, 9, 10, 11, 12, 42] [pl 0 (.int .i64 w1), pl 1 (.int .i64 h1), pl 7 (.slice A1 l1.length c1), pl 8 (.int .i64 best1), pl 9 (.int .i64 least1), pl 10 (.int .i64 i1), pl 11 (.int .i64 n1), pl 12 (.int .i64 k1), pl 42 (.bool (decide (k1 < (w64 (w1 * h1)))))] hF hS Fol (by kernel_rfl) (by kernel_rfl) (by kernel_rfl) ?_ (fun a w hF hS => ?_)
              · exact obs_nil
              refine cond_ev (t := 42) (b := decide (k1 < (w64 (w1 * h1)))) hF (by kernel_rfl) (fun hb => ?_) (fun hb => ?_)
              · replace hm := if_t hm hb
                refine wpIn_skip ?_
                refine then_n ?_
                exact ⟨hF.weak [0, 1, 7, 8, 9, 10, 11, 12] (by kernel_rfl), hS, hm⟩
              · replace hm := if_f hm hb
                refine wpIn_exit ?_
                refine then_e (then_e (block_e (then_n ?_)))
                rw [← hφ3] at hm
                replace hm := done_b hm
                unfold gameroomref_KnightGreedy_K3 at hm
                try dsimp only at hm
                have hm : ((gameroomref_KnightGreedy_J5 best1 least1 i1) n1).bind φ2 = some r := hm
                exact ⟨n1, hF.weak [0, 1, 7, 8, 9, 10, 11] (by kernel_rfl), hS, hm⟩
        · obtain ⟨hp1, hm⟩ := asrt_b hm
          obtain ⟨r1, hr1, hm⟩ := call_b hm
          obtain ⟨r2, hr2, hm⟩ := call_b hm
          refine reg [⟨true, [], vS (Instr.indexAt 22 (.slice A1 l1.length c1) (.int .i64 (w64 ((l1.length : Int) - 1)))), .pointer (some (sAddr A1 (w64 ((l1.length : Int) - 1))))⟩, ⟨false, [], vS (Instr.loadAt 3 (.pointer (some (sAddr A1 (w64 ((l1.length : Int) - 1)))))), .int .i64 (geti l1 (w64 ((l1.length : Int) - 1)))⟩, ⟨false, [], callFunc 34 #[.int .i64 w1, .int .i64 (geti l1 (w64 ((l1.length : Int) - 1))), .int .i64 i1], .bool r1⟩, ⟨false, [(!r1, false)], callFunc 33 #[.slice A1 l1.length c1, .int .i64 i1], .int .i64 r2⟩] [none, none, none, none, none, some (.pointer (some (sAddr A1 (w64 ((l1.length : Int) - 1))))), some (.int .i64 (geti l1 (w64 ((l1.length : Int) - 1)))), none, some (.bool r1), none, none, none, none, some (.int .i64 r2), none, none] [0, 1, 7, 8, 9, 10, 37] [pl 0 (.int .i64 w1), pl 1 (.int .i64 h1), pl 7 (.slice A1 l1.length c1), pl 8 (.int .i64 best1), pl 9 (.int .i64 least1), pl 10 (.int .i64 i1), pl 37 (.bool ((!r1) || (decide ((0 : Int) ≤ r2))))] hF hS Fol (by kernel_rfl) (by kernel_rfl) (by kernel_rfl) ?_ (fun a w hF hS => ?_)
          · exact obs_cons (ob_ix1 (f := (Value.int .i64)) (m := l1) Und22 hi3 hs3 (hS.at_ 0 rfl).rd rfl (fun _ => hp1)) <| obs_cons (ob_get1 (n := l1.length) (m := l1) (Value.int .i64) (0 : Int) Agg3 (fun _ hS => ⟨_, (hS.at_ 0 rfl).rd⟩) (fun _ hS => rfl) (fun _ => hp1)) <| obs_cons (ob_call Tryd.func34 (by kernel_rfl) rfl (fun _ _ hS => gameroomref_KnightStep_w hr1 hS )) <| obs_cons (ob_call Tryd.func33 (by kernel_rfl) rfl (fun hy _ hS => gameroomref_at_w (ite_some hr2 (by rw [show (!r1) = false from hy (!r1, false) (by simp)]; try rfl)) hS (fun _ hS => (hS.at_ 0 rfl).rd) ((hS.at_ 0 rfl).cap1) rfl)) <| obs_nil
          refine cond_ev (t := 37) (b := (!r1) || (decide ((0 : Int) ≤ r2))) hF (by kernel_rfl) (fun hb => ?_) (fun hb => ?_)
          · replace hm := if_t hm hb
            refine wpIn_exit ?_
            refine then_e (block_e (then_n ?_))
            exact ⟨best1, least1, hF.weak [0, 1, 7, 8, 9, 10] (by kernel_rfl), hS, hm⟩
          · replace hm := if_f hm hb
            refine wpIn_skip ?_
            refine then_n ?_
            exact ⟨hF.weak [0, 1, 7, 8, 9, 10] (by kernel_rfl), hS, hm⟩
    · refine reg [] [] [0, 1, 7, 8, 9, 10, 19] [pl 0 (.int .i64 w1), pl 1 (.int .i64 h1), pl 7 (.slice A1 l1.length c1), pl 8 (.int .i64 best1), pl 9 (.int .i64 least1), pl 10 (.int .i64 i1), pl 19 (.bool (decide (i1 < (w64 (w1 * h1)))))] hF hS Fol (by kernel_rfl) (by kernel_rfl) (by kernel_rfl) ?_ (fun a w hF hS => ?_)
      · exact obs_nil
      refine cond_ev (t := 19) (b := decide (i1 < (w64 (w1 * h1)))) hF (by kernel_rfl) (fun hb => ?_) (fun hb => ?_)
      · replace hm := if_t hm hb
        refine wpIn_skip ?_
        refine then_n ?_
        exact ⟨hF.weak [0, 1, 7, 8, 9, 10] (by kernel_rfl), hS, hm⟩
      · replace hm := if_f hm hb
        refine wpIn_exit ?_
        refine then_e (then_e (block_e (then_n ?_)))
        rw [← hφ2] at hm
        replace hm := done_b hm
        unfold gameroomref_KnightGreedy_K2 at hm
        try dsimp only at hm
        have hm : ((gameroomref_KnightGreedy_J1 l1) best1).bind φ1 = some r := hm
        exact ⟨best1, hF.weak [0, 1, 7, 8] (by kernel_rfl), hS, hm⟩

noncomputable def gameroomlaw_sameInts_J4  (i1 : Int) : Option (St Int (Fl Unit Bool)) :=
  some (.next (w64 (i1 + 1)))

noncomputable def gameroomlaw_sameInts_J3  (a1 : List Int) (b1 : List Int) (i1 : Int) : Option (St Int (Fl Unit Bool)) :=
  asrt (0 ≤ i1 ∧ i1 < (a1.length : Int)) <| asrt (0 ≤ i1 ∧ i1 < (b1.length : Int)) <| if ((geti a1 i1) != (geti b1 i1)) then (some (.done (.ret false))) else ((gameroomlaw_sameInts_J4 i1))

noncomputable def gameroomlaw_sameInts_J2  : Option Bool :=
  some true

noncomputable def gameroomlaw_sameInts_K1  : (Fl Unit Bool) → Option Bool :=
  fun (x : (Fl Unit Bool)) => match x with | .go _ => gameroomlaw_sameInts_J2 | .ret x => some x

noncomputable def gameroomlaw_sameInts_L1  (a1 : List Int) (b1 : List Int) : Int → Option (St Int (Fl Unit Bool)) :=
  fun (x : Int) => match x with | i1 => if (decide (i1 < (a1.length : Int))) then ((gameroomlaw_sameInts_J3 a1 b1 i1)) else (some (.done (.go ())))

noncomputable def gameroomlaw_sameInts_J1  (a1 : List Int) (b1 : List Int) : Option Bool :=
  (loop (gameroomlaw_sameInts_L1 a1 b1) 0).bind gameroomlaw_sameInts_K1

noncomputable def gameroomlaw_sameInts_m  (a1 : List Int) (b1 : List Int) : Option Bool :=
  if ((a1.length : Int) != (b1.length : Int)) then (some false) else ((gameroomlaw_sameInts_J1 a1 b1))

set_option maxRecDepth 100000 in
set_option maxHeartbeats 4000000 in
theorem gameroomlaw_sameInts_w {A1 : Option Addr} {c1 : Nat} {n1 : Nat} {a1 : List Int} {A2 : Option Addr} {c2 : Nat} {n2 : Nat} {b1 : List Int} {r : Bool} {w0 w : World} {B : Nat} {fs : List HP} (hm : gameroomlaw_sameInts_m a1 b1 = some r) (hS : Sep w0 B w (fs)) (hr_a1 : RdF w0 B fs A1 (vI a1)) (_hc_a1 : a1.length ≤ c1) (_hn_a1 : n1 = a1.length) (hr_b1 : RdF w0 B fs A2 (vI b1)) (_hc_b1 : b1.length ≤ c2) (_hn_b1 : n2 = b1.length) :
    Calls Tryd.prog 12 #[.slice A1 n1 c1, .slice A2 n2 c2] w fun e w' => e = .returned (.bool r) ∧ Sep w0 B w' (fs) := by
  obtain ⟨i3, hi3, hz3, hs3, hb3⟩ := info_parts Info3
  obtain rfl := _hn_a1
  obtain rfl := _hn_b1
  unfold gameroomlaw_sameInts_m at hm
  replace hm := start_b hm
  refine enter (l := [.slice A1 a1.length c1, .slice A2 b1.length c2]) (n := 26) Tryd.func12 rfl rfl (by simp) (fun a hF => ?_)
  refine reg [] [] [0, 1] [pl 0 (.slice A1 a1.length c1), pl 1 (.slice A2 b1.length c2)] hF hS Fol (by kernel_rfl) (by kernel_rfl) (by kernel_rfl) ?_ (fun a w hF hS => ?_)
  · exact obs_nil
  refine seq_cut (fun a w => Fr 26 [pl 0 (.slice A1 a1.length c1), pl 1 (.slice A2 b1.length c2)] a ∧ Sep w0 B w (fs) ∧ ((gameroomlaw_sameInts_J1 a1 b1)).bind some = some r) ?_ ?_
  · rintro a w ⟨hF, hS, hm⟩
    unfold gameroomlaw_sameInts_J1 at hm
    refine seq_cut (fun a w => Fr 26 [] a ∧ Sep w0 B w (fs) ∧ (gameroomlaw_sameInts_J2).bind some = some r) ?_ ?_
    · rintro a w ⟨hF, hS, hm⟩
      unfold gameroomlaw_sameInts_J2 at hm
      refine reg [] [] [4] [pl 4 (.bool true)] hF hS Fol (by kernel_rfl) (by kernel_rfl) (by kernel_rfl) ?_ (fun a w hF hS => ?_)
      · exact obs_nil
      refine wpIn_ret ?_
      have hm : some true = some r := hm
      obtain rfl := Option.some.inj hm
      exact retV (rs := [.tmp 4]) (vs := [.bool true]) hF rfl (rv_t (by kernel_rfl) <| rv_nil) rfl ⟨rfl, hS⟩
    · refine reg [] [] [0, 1, 5] [pl 0 (.slice A1 a1.length c1), pl 1 (.slice A2 b1.length c2), pl 5 (.int .i64 0)] hF hS Fol (by kernel_rfl) (by kernel_rfl) (by kernel_rfl) ?_ (fun a w hF hS => ?_)
      · exact obs_nil
      refine wpIn_block ?_
      refine wp_loop_model (S := Int) (R := (Fl Unit Bool)) (gameroomlaw_sameInts_L1 a1 b1) (fun x => (gameroomlaw_sameInts_K1 x).bind some) r (fun (x : Int) a w => Fr 26 [pl 0 (.slice A1 a1.length c1), pl 1 (.slice A2 b1.length c2), pl 5 (.int .i64 x)] a ∧ Sep w0 B w (fs)) (assoc_b hm) ⟨hF.weak [0, 1, 5] (by kernel_rfl), hS⟩ ?_
      clear hF hS hm
      rintro nn1 i1 a w ⟨hF, hS⟩ hm
      generalize hφ1 : stK (gameroomlaw_sameInts_L1 a1 b1) nn1 (fun x => (gameroomlaw_sameInts_K1 x).bind some) = φ1 at hm
      unfold gameroomlaw_sameInts_L1 at hm
      dsimp only at hm
      refine seq_cut (fun a w => Fr 26 [pl 0 (.slice A1 a1.length c1), pl 1 (.slice A2 b1.length c2), pl 5 (.int .i64 i1)] a ∧ Sep w0 B w (fs) ∧ ((gameroomlaw_sameInts_J3 a1 b1 i1)).bind φ1 = some r) ?_ ?_
      · rintro a w ⟨hF, hS, hm⟩
        unfold gameroomlaw_sameInts_J3 at hm
        refine seq_cut (fun a w => Fr 26 [pl 0 (.slice A1 a1.length c1), pl 1 (.slice A2 b1.length c2), pl 5 (.int .i64 i1)] a ∧ Sep w0 B w (fs) ∧ ((gameroomlaw_sameInts_J4 i1)).bind φ1 = some r) ?_ ?_
        · rintro a w ⟨hF, hS, hm⟩
          unfold gameroomlaw_sameInts_J4 at hm
          refine reg1 [] [] [0, 1, 5] [pl 0 (.slice A1 a1.length c1), pl 1 (.slice A2 b1.length c2), pl 5 (.int .i64 (w64 (i1 + 1)))] hF hS Fol (by kernel_rfl) (by kernel_rfl) (by kernel_rfl) ?_ (fun a w hF hS => ?_)
          · exact obs_nil
          refine then_n ?_
          rw [← hφ1] at hm
          exact ⟨(w64 (i1 + 1)), ⟨hF.weak [0, 1, 5] (by kernel_rfl), hS⟩, hm⟩
        · refine wpIn_block ?_
          obtain ⟨hp1, hm⟩ := asrt_b hm
          obtain ⟨hp2, hm⟩ := asrt_b hm
          refine reg [⟨true, [], vS (Instr.indexAt 22 (.slice A1 a1.length c1) (.int .i64 i1)), .pointer (some (sAddr A1 i1))⟩, ⟨false, [], vS (Instr.loadAt 3 (.pointer (some (sAddr A1 i1)))), .int .i64 (geti a1 i1)⟩, ⟨true, [], vS (Instr.indexAt 22 (.slice A2 b1.length c2) (.int .i64 i1)), .pointer (some (sAddr A2 i1))⟩, ⟨false, [], vS (Instr.loadAt 3 (.pointer (some (sAddr A2 i1)))), .int .i64 (geti b1 i1)⟩] [none, none, some (.pointer (some (sAddr A1 i1))), some (.int .i64 (geti a1 i1)), none, none, some (.pointer (some (sAddr A2 i1))), some (.int .i64 (geti b1 i1)), none] [0, 1, 5, 25] [pl 0 (.slice A1 a1.length c1), pl 1 (.slice A2 b1.length c2), pl 5 (.int .i64 i1), pl 25 (.bool ((geti a1 i1) != (geti b1 i1)))] hF hS Fol (by kernel_rfl) (by kernel_rfl) (by kernel_rfl) ?_ (fun a w hF hS => ?_)
          · exact obs_cons (ob_ix1 (f := (Value.int .i64)) (m := a1) Und22 hi3 hs3 (hr_a1 _ (hS.dropN 0)) rfl (fun _ => hp1)) <| obs_cons (ob_get1 (n := a1.length) (m := a1) (Value.int .i64) (0 : Int) Agg3 (fun _ hS => ⟨_, (hr_a1 _ (hS.dropN 0))⟩) (fun _ hS => rfl) (fun _ => hp1)) <| obs_cons (ob_ix1 (f := (Value.int .i64)) (m := b1) Und22 hi3 hs3 (hr_b1 _ (hS.dropN 0)) rfl (fun _ => hp2)) <| obs_cons (ob_get1 (n := b1.length) (m := b1) (Value.int .i64) (0 : Int) Agg3 (fun _ hS => ⟨_, (hr_b1 _ (hS.dropN 0))⟩) (fun _ hS => rfl) (fun _ => hp2)) <| obs_nil
          refine cond_ev (t := 25) (b := ((geti a1 i1) != (geti b1 i1))) hF (by kernel_rfl) (fun hb => ?_) (fun hb => ?_)
          · replace hm := if_t hm hb
            refine reg [] [] [4] [pl 4 (.bool false)] hF hS Fol (by kernel_rfl) (by kernel_rfl) (by kernel_rfl) ?_ (fun a w hF hS => ?_)
            · exact obs_nil
            refine wpIn_ret ?_
            refine block_r (then_r (then_r (block_r (then_r ?_))))
            rw [← hφ1] at hm
            replace hm := done_b hm
            unfold gameroomlaw_sameInts_K1 at hm
            try dsimp only at hm
            have hm : some false = some r := hm
            obtain rfl := Option.some.inj hm
            exact retV (rs := [.tmp 4]) (vs := [.bool false]) hF rfl (rv_t (by kernel_rfl) <| rv_nil) rfl ⟨rfl, hS⟩
          · replace hm := if_f hm hb
            refine wpIn_skip ?_
            refine block_n ?_
            refine then_n ?_
            exact ⟨hF.weak [0, 1, 5] (by kernel_rfl), hS, hm⟩
      · refine reg [] [] [0, 1, 5, 14] [pl 0 (.slice A1 a1.length c1), pl 1 (.slice A2 b1.length c2), pl 5 (.int .i64 i1), pl 14 (.bool (decide (i1 < (a1.length : Int))))] hF hS Fol (by kernel_rfl) (by kernel_rfl) (by kernel_rfl) ?_ (fun a w hF hS => ?_)
        · exact obs_nil
        refine cond_ev (t := 14) (b := decide (i1 < (a1.length : Int))) hF (by kernel_rfl) (fun hb => ?_) (fun hb => ?_)
        · replace hm := if_t hm hb
          refine wpIn_skip ?_
          refine then_n ?_
          exact ⟨hF.weak [0, 1, 5] (by kernel_rfl), hS, hm⟩
        · replace hm := if_f hm hb
          refine wpIn_exit ?_
          refine then_e (then_e (block_e (then_n ?_)))
          rw [← hφ1] at hm
          replace hm := done_b hm
          unfold gameroomlaw_sameInts_K1 at hm
          try dsimp only at hm
          have hm : (gameroomlaw_sameInts_J2).bind some = some r := hm
          exact ⟨hF.weak [] (by kernel_rfl), hS, hm⟩
  · refine reg [] [] [0, 1, 10] [pl 0 (.slice A1 a1.length c1), pl 1 (.slice A2 b1.length c2), pl 10 (.bool ((a1.length : Int) != (b1.length : Int)))] hF hS Fol (by kernel_rfl) (by kernel_rfl) (by kernel_rfl) ?_ (fun a w hF hS => ?_)
    · exact obs_nil
    refine cond_ev (t := 10) (b := ((a1.length : Int) != (b1.length : Int))) hF (by kernel_rfl) (fun hb => ?_) (fun hb => ?_)
    · replace hm := if_t hm hb
      refine reg [] [] [4] [pl 4 (.bool false)] hF hS Fol (by kernel_rfl) (by kernel_rfl) (by kernel_rfl) ?_ (fun a w hF hS => ?_)
      · exact obs_nil
      refine wpIn_ret ?_
      refine then_r ?_
      have hm : some false = some r := hm
      obtain rfl := Option.some.inj hm
      exact retV (rs := [.tmp 4]) (vs := [.bool false]) hF rfl (rv_t (by kernel_rfl) <| rv_nil) rfl ⟨rfl, hS⟩
    · replace hm := if_f hm hb
      refine wpIn_skip ?_
      refine then_n ?_
      exact ⟨hF.weak [0, 1] (by kernel_rfl), hS, hm⟩

noncomputable def gameroomref_Ints_m  (l1 : List Int) : Option (List Int) :=
  asrt ((0 : Int) + (l1.length : Int) ≤ bigN) <| some ([] ++ l1)

set_option maxRecDepth 100000 in
set_option maxHeartbeats 4000000 in
theorem gameroomref_Ints_w {A1 : Option Addr} {c1 : Nat} {n1 : Nat} {l1 : List Int} {r : (List Int)} {w0 w : World} {B : Nat} {fs : List HP} (hm : gameroomref_Ints_m l1 = some r) (hS : Sep w0 B w (fs)) (hr_l1 : RdF w0 B fs A1 (vI l1)) (_hc_l1 : l1.length ≤ c1) (_hn_l1 : n1 = l1.length) :
    Calls Tryd.prog 42 #[.slice A1 n1 c1] w fun e w' => ∃ v, e = .returned v ∧ ∃ (A3 : Option Addr) (c3 : Nat), v = .slice A3 r.length c3 ∧ Sep w0 B w' (own 3 (.slice A3 r.length c3) (vI r) :: fs) := by
  obtain ⟨i3, hi3, hz3, hs3, hb3⟩ := info_parts Info3
  obtain rfl := _hn_l1
  unfold gameroomref_Ints_m at hm
  replace hm := start_b hm
  refine enter (l := [.slice A1 l1.length c1]) (n := 5) Tryd.func42 rfl rfl (by simp) (fun a hF => ?_)
  refine reg [] [] [0] [pl 0 (.slice A1 l1.length c1)] hF hS Fol (by kernel_rfl) (by kernel_rfl) (by kernel_rfl) ?_ (fun a w hF hS => ?_)
  · exact obs_nil
  refine seqR ?_
  obtain ⟨hp1, hm⟩ := asrt_b hm
  refine at_run 1 [] [] [3] [pl 3 (.slice A1 l1.length c1)] hF hS (by kernel_rfl) (by kernel_rfl) ?_ (fun a w hF hS => ?_)
  · exact obs_nil
  have hS : Sep w0 B w (own 3 (.slice none 0 0) (vI ([] : List Int)) :: fs) := hS.nil 3
  obtain ⟨A2, c2, w, hrun, hS⟩ := run_app1 (P := Tryd.prog) (t := 22) (m := ([] : List Int)) (ys := l1) (A2 := A1) (m2 := l1.length) (c2 := c1) (Value.int .i64) (0 : Int) (hS.at_ 0 rfl) (hr_l1 _ (hS.dropN 1)) rfl 22 Und22 hi3 hz3 hs3 (by omega) rfl (fun _ => rfl) hp1
  have hS : Sep w0 B w (own 3 (.slice A2 (([] ++ l1).length) c2) (vI ([] ++ l1)) :: fs) := hS
  refine at_do (d := 4) hF (by kernel_rfl) (by kernel_rfl) hrun (fun a hF => ?_)
  refine at_run 1 [] [] [2] [pl 2 (.slice A2 (([] ++ l1).length) c2)] hF hS (by kernel_rfl) (by kernel_rfl) ?_ (fun a w hF hS => ?_)
  · exact obs_nil
  refine at_end [2] [pl 2 (.slice A2 (([] ++ l1).length) c2)] hF rfl (by kernel_rfl) (fun hF => ?_)
  refine then_n ?_
  refine wpIn_ret ?_
  have hm : some ([] ++ l1) = some r := hm
  obtain rfl := Option.some.inj hm
  exact retV (rs := [.tmp 2]) (vs := [.slice A2 (([] ++ l1).length) c2]) hF rfl (rv_t (by kernel_rfl) <| rv_nil) rfl ⟨_, rfl, A2, c2, rfl, hS⟩

noncomputable def gameroomref_KnightTours_J2  : Option (Int × Int) :=
  some (1, 0)

noncomputable def gameroomref_KnightTours_J5  (i1 : Int) (many3 : Int) (closed3 : Int) : Option (St (Int × Int × Int) (Int × Int)) :=
  some (.next (many3, closed3, (w64 (i1 + 1))))

noncomputable def gameroomref_KnightTours_J4  (rec_gameroomref_KnightTours : Int → Int → List Int → Option (Int × Int)) (w1 : Int) (h1 : Int) (way1 : List Int) (many1 : Int) (closed1 : Int) (i1 : Int) : Option (St (Int × Int × Int) (Int × Int)) :=
  (gameroomref_KnightStep_m w1 (geti way1 (w64 ((way1.length : Int) - 1))) i1).bind fun r2 => ((if r2 then gameroomref_at_m way1 i1 else some 0)).bind fun r3 => if (r2 && (decide (r3 < 0))) then ((gameroomref_Ints_m way1).bind fun r4 => asrt ((r4.length : Int) + 1 ≤ bigN) <| (rec_gameroomref_KnightTours w1 h1 (r4 ++ ([i1] : List Int))).bind fun r5 => (gameroomref_KnightTours_J5 i1) (w64 (many1 + r5.1)) (w64 (closed1 + r5.2))) else ((gameroomref_KnightTours_J5 i1) many1 closed1)

noncomputable def gameroomref_KnightTours_J3  (many2 : Int) (closed2 : Int) : Option (Int × Int) :=
  some (many2, closed2)

noncomputable def gameroomref_KnightTours_K1  : (Int × Int) → Option (Int × Int) :=
  fun (x : (Int × Int)) => match x with | (many2, closed2) => gameroomref_KnightTours_J3 many2 closed2

noncomputable def gameroomref_KnightTours_L1  (rec_gameroomref_KnightTours : Int → Int → List Int → Option (Int × Int)) (w1 : Int) (h1 : Int) (way1 : List Int) : (Int × Int × Int) → Option (St (Int × Int × Int) (Int × Int)) :=
  fun (x : (Int × Int × Int)) => match x with | (many1, closed1, i1) => if (decide (i1 < (w64 (w1 * h1)))) then ((gameroomref_KnightTours_J4 rec_gameroomref_KnightTours w1 h1 way1 many1 closed1 i1)) else (some (.done (many1, closed1)))

noncomputable def gameroomref_KnightTours_J1  (rec_gameroomref_KnightTours : Int → Int → List Int → Option (Int × Int)) (w1 : Int) (h1 : Int) (way1 : List Int) : Option (Int × Int) :=
  (loop (gameroomref_KnightTours_L1 rec_gameroomref_KnightTours w1 h1 way1) (0, 0, 0)).bind gameroomref_KnightTours_K1

noncomputable def gameroomref_KnightTours_B (rec_gameroomref_KnightTours : Int → Int → List Int → Option (Int × Int)) (w1 : Int) (h1 : Int) (way1 : List Int) : Option (Int × Int) :=
  asrt (0 ≤ (w64 ((way1.length : Int) - 1)) ∧ (w64 ((way1.length : Int) - 1)) < (way1.length : Int)) <| if ((way1.length : Int) == (w64 (w1 * h1))) then (asrt (0 ≤ (0 : Int) ∧ (0 : Int) < (way1.length : Int)) <| (gameroomref_KnightStep_m w1 (geti way1 0) (geti way1 (w64 ((way1.length : Int) - 1)))).bind fun r1 => if r1 then (some (1, 1)) else (gameroomref_KnightTours_J2)) else ((gameroomref_KnightTours_J1 rec_gameroomref_KnightTours w1 h1 way1))

noncomputable def gameroomref_KnightTours_mF : Nat → Int → Int → List Int → Option (Int × Int)
  | 0 => fun _ _ _ => none
  | n + 1 => fun w1 h1 way1 => gameroomref_KnightTours_B (gameroomref_KnightTours_mF n) w1 h1 way1

noncomputable def gameroomref_KnightTours_m (w1 : Int) (h1 : Int) (way1 : List Int) : Option (Int × Int) :=
  recM fun n => gameroomref_KnightTours_mF n w1 h1 way1

set_option maxRecDepth 100000 in
set_option maxHeartbeats 4000000 in
theorem gameroomref_KnightTours_wB {rec_gameroomref_KnightTours : Int → Int → List Int → Option (Int × Int)} (ih_gameroomref_KnightTours : ∀ {w1 : Int} {h1 : Int} {A1 : Option Addr} {c1 : Nat} {n1 : Nat} {way1 : List Int} {r : (Int × Int)} {w0 w : World} {B : Nat} {fs : List HP} (_ : rec_gameroomref_KnightTours w1 h1 way1 = some r) (_ : Sep w0 B w (fs)) (_hr_way1 : RdF w0 B fs A1 (vI way1)) (_hc_way1 : way1.length ≤ c1) (_hn_way1 : n1 = way1.length), Calls Tryd.prog 20 #[.int .i64 w1, .int .i64 h1, .slice A1 n1 c1] w fun e w' => e = .returned (.tuple #[.int .i64 r.1, .int .i64 r.2]) ∧ Sep w0 B w' (fs)) {w1 : Int} {h1 : Int} {A1 : Option Addr} {c1 : Nat} {n1 : Nat} {way1 : List Int} {r : (Int × Int)} {w0 w : World} {B : Nat} {fs : List HP} (hm : gameroomref_KnightTours_B rec_gameroomref_KnightTours w1 h1 way1 = some r) (hS : Sep w0 B w (fs)) (hr_way1 : RdF w0 B fs A1 (vI way1)) (_hc_way1 : way1.length ≤ c1) (_hn_way1 : n1 = way1.length) :
    Calls Tryd.prog 20 #[.int .i64 w1, .int .i64 h1, .slice A1 n1 c1] w fun e w' => e = .returned (.tuple #[.int .i64 r.1, .int .i64 r.2]) ∧ Sep w0 B w' (fs) := by
  obtain ⟨i3, hi3, hz3, hs3, hb3⟩ := info_parts Info3
  obtain rfl := _hn_way1
  unfold gameroomref_KnightTours_B at hm
  replace hm := start_b hm
  refine enter (l := [.int .i64 w1, .int .i64 h1, .slice A1 way1.length c1]) (n := 68) Tryd.func20 rfl rfl (by simp) (fun a hF => ?_)
  refine reg [] [] [0, 1, 2] [pl 0 (.int .i64 w1), pl 1 (.int .i64 h1), pl 2 (.slice A1 way1.length c1)] hF hS Fol (by kernel_rfl) (by kernel_rfl) (by kernel_rfl) ?_ (fun a w hF hS => ?_)
  · exact obs_nil
  obtain ⟨hp1, hm⟩ := asrt_b hm
  refine reg [⟨true, [], vS (Instr.indexAt 22 (.slice A1 way1.length c1) (.int .i64 (w64 ((way1.length : Int) - 1)))), .pointer (some (sAddr A1 (w64 ((way1.length : Int) - 1))))⟩, ⟨false, [], vS (Instr.loadAt 3 (.pointer (some (sAddr A1 (w64 ((way1.length : Int) - 1)))))), .int .i64 (geti way1 (w64 ((way1.length : Int) - 1)))⟩] [none, none, none, none, some (.pointer (some (sAddr A1 (w64 ((way1.length : Int) - 1))))), some (.int .i64 (geti way1 (w64 ((way1.length : Int) - 1)))), none] [0, 1, 2, 8] [pl 0 (.int .i64 w1), pl 1 (.int .i64 h1), pl 2 (.slice A1 way1.length c1), pl 8 (.int .i64 (geti way1 (w64 ((way1.length : Int) - 1))))] hF hS Fol (by kernel_rfl) (by kernel_rfl) (by kernel_rfl) ?_ (fun a w hF hS => ?_)
  · exact obs_cons (ob_ix1 (f := (Value.int .i64)) (m := way1) Und22 hi3 hs3 (hr_way1 _ (hS.dropN 0)) rfl (fun _ => hp1)) <| obs_cons (ob_get1 (n := way1.length) (m := way1) (Value.int .i64) (0 : Int) Agg3 (fun _ hS => ⟨_, (hr_way1 _ (hS.dropN 0))⟩) (fun _ hS => rfl) (fun _ => hp1)) <| obs_nil
  refine seq_cut (fun a w => Fr 68 [pl 0 (.int .i64 w1), pl 1 (.int .i64 h1), pl 2 (.slice A1 way1.length c1), pl 8 (.int .i64 (geti way1 (w64 ((way1.length : Int) - 1))))] a ∧ Sep w0 B w (fs) ∧ ((gameroomref_KnightTours_J1 rec_gameroomref_KnightTours w1 h1 way1)).bind some = some r) ?_ ?_
  · rintro a w ⟨hF, hS, hm⟩
    unfold gameroomref_KnightTours_J1 at hm
    refine reg [] [] [0, 1, 2, 8, 9, 10] [pl 0 (.int .i64 w1), pl 1 (.int .i64 h1), pl 2 (.slice A1 way1.length c1), pl 8 (.int .i64 (geti way1 (w64 ((way1.length : Int) - 1)))), pl 9 (.int .i64 0), pl 10 (.int .i64 0)] hF hS Fol (by kernel_rfl) (by kernel_rfl) (by kernel_rfl) ?_ (fun a w hF hS => ?_)
    · exact obs_nil
    refine seq_cut (fun a w => ∃ (many2 : Int) (closed2 : Int), Fr 68 [pl 9 (.int .i64 many2), pl 10 (.int .i64 closed2)] a ∧ Sep w0 B w (fs) ∧ (gameroomref_KnightTours_J3 many2 closed2).bind some = some r) ?_ ?_
    · rintro a w ⟨many2, closed2, hF, hS, hm⟩
      unfold gameroomref_KnightTours_J3 at hm
      refine reg [] [] [6, 7] [pl 6 (.int .i64 many2), pl 7 (.int .i64 closed2)] hF hS Fol (by kernel_rfl) (by kernel_rfl) (by kernel_rfl) ?_ (fun a w hF hS => ?_)
      · exact obs_nil
      refine wpIn_ret ?_
      have hm : some (many2, closed2) = some r := hm
      obtain rfl := Option.some.inj hm
      exact retV (rs := [.tmp 6, .tmp 7]) (vs := [.int .i64 many2, .int .i64 closed2]) hF rfl (rv_t (by kernel_rfl) <| rv_t (by kernel_rfl) <| rv_nil) rfl ⟨rfl, hS⟩
    · refine reg [] [] [0, 1, 2, 8, 9, 10, 11] [pl 0 (.int .i64 w1), pl 1 (.int .i64 h1), pl 2 (.slice A1 way1.length c1), pl 8 (.int .i64 (geti way1 (w64 ((way1.length : Int) - 1)))), pl 9 (.int .i64 0), pl 10 (.int .i64 0), pl 11 (.int .i64 0)] hF hS Fol (by kernel_rfl) (by kernel_rfl) (by kernel_rfl) ?_ (fun a w hF hS => ?_)
      · exact obs_nil
      refine wpIn_block ?_
      refine wp_loop_model (S := (Int × Int × Int)) (R := (Int × Int)) (gameroomref_KnightTours_L1 rec_gameroomref_KnightTours w1 h1 way1) (fun x => (gameroomref_KnightTours_K1 x).bind some) r (fun (x : (Int × Int × Int)) a w => Fr 68 [pl 0 (.int .i64 w1), pl 1 (.int .i64 h1), pl 2 (.slice A1 way1.length c1), pl 8 (.int .i64 (geti way1 (w64 ((way1.length : Int) - 1)))), pl 9 (.int .i64 x.1), pl 10 (.int .i64 x.2.1), pl 11 (.int .i64 x.2.2)] a ∧ Sep w0 B w (fs)) (assoc_b hm) ⟨hF.weak [0, 1, 2, 8, 9, 10, 11] (by kernel_rfl), hS⟩ ?_
      clear hF hS hm
      rintro nn1 ⟨many1, closed1, i1⟩ a w ⟨hF, hS⟩ hm
      generalize hφ1 : stK (gameroomref_KnightTours_L1 rec_gameroomref_KnightTours w1 h1 way1) nn1 (fun x => (gameroomref_KnightTours_K1 x).bind some) = φ1 at hm
      unfold gameroomref_KnightTours_L1 at hm
      dsimp only at hF hS hm
      refine seq_cut (fun a w => Fr 68 [pl 0 (.int .i64 w1), pl 1 (.int .i64 h1), pl 2 (.slice A1 way1.length c1), pl 8 (.int .i64 (geti way1 (w64 ((way1.length : Int) - 1)))), pl 9 (.int .i64 many1), pl 10 (.int .i64 closed1), pl 11 (.int .i64 i1)] a ∧ Sep w0 B w (fs) ∧ ((gameroomref_KnightTours_J4 rec_gameroomref_KnightTours w1 h1 way1 many1 closed1 i1)).bind φ1 = some r) ?_ ?_
      · rintro a w ⟨hF, hS, hm⟩
        unfold gameroomref_KnightTours_J4 at hm
        refine seq_cut (fun a w => ∃ (many3 : Int) (closed3 : Int), Fr 68 [pl 0 (.int .i64 w1), pl 1 (.int .i64 h1), pl 2 (.slice A1 way1.length c1), pl 8 (.int .i64 (geti way1 (w64 ((way1.length : Int) - 1)))), pl 9 (.int .i64 many3), pl 10 (.int .i64 closed3), pl 11 (.int .i64 i1)] a ∧ Sep w0 B w (fs) ∧ ((gameroomref_KnightTours_J5 i1) many3 closed3).bind φ1 = some r) ?_ ?_
        · rintro a w ⟨many3, closed3, hF, hS, hm⟩
          unfold gameroomref_KnightTours_J5 at hm
          refine reg1 [] [] [0, 1, 2, 8, 9, 10, 11] [pl 0 (.int .i64 w1), pl 1 (.int .i64 h1), pl 2 (.slice A1 way1.length c1), pl 8 (.int .i64 (geti way1 (w64 ((way1.length : Int) - 1)))), pl 9 (.int .i64 many3), pl 10 (.int .i64 closed3), pl 11 (.int .i64 (w64 (i1 + 1)))] hF hS Fol (by kernel_rfl) (by kernel_rfl) (by kernel_rfl) ?_ (fun a w hF hS => ?_)
          · exact obs_nil
          refine then_n ?_
          rw [← hφ1] at hm
          exact ⟨(many3, closed3, (w64 (i1 + 1))), ⟨hF.weak [0, 1, 2, 8, 9, 10, 11] (by kernel_rfl), hS⟩, hm⟩
        · refine wpIn_block ?_
          obtain ⟨r2, hr2, hm⟩ := call_b hm
          obtain ⟨r3, hr3, hm⟩ := call_b hm
          refine reg [⟨false, [], callFunc 34 #[.int .i64 w1, .int .i64 (geti way1 (w64 ((way1.length : Int) - 1))), .int .i64 i1], .bool r2⟩, ⟨false, [(r2, true)], callFunc 33 #[.slice A1 way1.length c1, .int .i64 i1], .int .i64 r3⟩] [none, none, none, some (.bool r2), none, none, none, some (.int .i64 r3), none, none] [0, 1, 2, 8, 9, 10, 11, 48] [pl 0 (.int .i64 w1), pl 1 (.int .i64 h1), pl 2 (.slice A1 way1.length c1), pl 8 (.int .i64 (geti way1 (w64 ((way1.length : Int) - 1)))), pl 9 (.int .i64 many1), pl 10 (.int .i64 closed1), pl 11 (.int .i64 i1), pl 48 (.bool (r2 && (decide (r3 < 0))))] hF hS Fol (by kernel_rfl) (by kernel_rfl) (by kernel_rfl) ?_ (fun a w hF hS => ?_)
          · exact obs_cons (ob_call Tryd.func34 (by kernel_rfl) rfl (fun _ _ hS => gameroomref_KnightStep_w hr2 hS )) <| obs_cons (ob_call Tryd.func33 (by kernel_rfl) rfl (fun hy _ hS => gameroomref_at_w (ite_some hr3 (by rw [show r2 = true from hy (r2, true) (by simp)]; try rfl)) hS (fun _ hS => (hr_way1 _ (hS.dropN 0))) _hc_way1 rfl)) <| obs_nil
          refine cond_ev (t := 48) (b := r2 && (decide (r3 < 0))) hF (by kernel_rfl) (fun hb => ?_) (fun hb => ?_)
          · replace hm := if_t hm hb
            refine seqR ?_
            obtain ⟨r4, hr4, hm⟩ := call_b hm
            obtain ⟨hp3, hm⟩ := asrt_b hm
            obtain ⟨r5, hr5, hm⟩ := call_b hm
            refine at_run 3 [] [] [0, 1, 2, 8, 9, 10, 11, 50, 51, 52] [pl 0 (.int .i64 w1), pl 1 (.int .i64 h1), pl 2 (.slice A1 way1.length c1), pl 8 (.int .i64 (geti way1 (w64 ((way1.length : Int) - 1)))), pl 9 (.int .i64 many1), pl 10 (.int .i64 closed1), pl 11 (.int .i64 i1), pl 50 (.int .i64 w1), pl 51 (.int .i64 h1), pl 52 (.slice A1 way1.length c1)] hF hS (by kernel_rfl) (by kernel_rfl) ?_ (fun a w hF hS => ?_)
            · exact obs_nil
            refine at_call (f := 42) (args := #[.slice A1 way1.length c1]) (d := 53) hF (by kernel_rfl) (by kernel_rfl) Tryd.func42 (by kernel_rfl) rfl (gameroomref_Ints_w hr4 hS (fun _ hS => (hr_way1 _ (hS.dropN 0))) _hc_way1 rfl) (fun v a w hR hF => ?_)
            clear hS
            obtain ⟨A2, c2, rfl, hS⟩ := hR
            have hS : Sep w0 B w (own 3 (.slice A2 r4.length c2) (vI r4) :: fs) := hS
            refine at_run 1 [] [] [0, 1, 2, 8, 9, 10, 11, 50, 51, 53, 54] [pl 0 (.int .i64 w1), pl 1 (.int .i64 h1), pl 2 (.slice A1 way1.length c1), pl 8 (.int .i64 (geti way1 (w64 ((way1.length : Int) - 1)))), pl 9 (.int .i64 many1), pl 10 (.int .i64 closed1), pl 11 (.int .i64 i1), pl 50 (.int .i64 w1), pl 51 (.int .i64 h1), pl 53 (.slice A2 r4.length c2), pl 54 (.int .i64 i1)] hF hS (by kernel_rfl) (by kernel_rfl) ?_ (fun a w hF hS => ?_)
            · exact obs_nil
            refine at_do (d := 55) (s := vS (Instr.buildSlice 22 1 #[(0, .int .i64 i1)])) (v := .slice (some ⟨w.heap.size, 0, none⟩) 1 1) (w' := w.alloc (.cells #[.int .i64 i1] 3)) hF (by kernel_rfl) (by kernel_rfl) (by kernel_rfl) (fun a hF => ?_)
            have hS : Sep w0 B (w.alloc (.cells #[.int .i64 i1] 3)) (own 3 (.slice (some (⟨w.heap.size, 0, none⟩ : Addr)) 1 1) (vI ([i1] : List Int)) :: (own 3 (.slice A2 r4.length c2) (vI r4) :: fs)) := hS.lit 3 #[.int .i64 i1] 1 rfl (by omega)
            generalize (some (⟨w.heap.size, 0, none⟩ : Addr)) = g1 at hF hS
            generalize w.alloc (.cells #[.int .i64 i1] 3) = w at hS ⊢
            obtain ⟨A3, c3, w, hrun, hS⟩ := run_app1 (P := Tryd.prog) (t := 22) (m := r4) (ys := ([i1] : List Int)) (A2 := g1) (m2 := 1) (c2 := 1) (Value.int .i64) (0 : Int) (hS.at_ 1 rfl) (hS.at_ 0 rfl).rd ((hS.at_ 0 rfl).len1) 22 Und22 hi3 hz3 hs3 (by omega) rfl (fun _ => rfl) hp3
            have hS : Sep w0 B w (own 3 (.slice g1 1 1) (vI ([i1] : List Int)) :: own 3 (.slice A3 ((r4 ++ ([i1] : List Int)).length) c3) (vI (r4 ++ ([i1] : List Int))) :: fs) := hS
            refine at_do (d := 56) hF (by kernel_rfl) (by kernel_rfl) hrun (fun a hF => ?_)
            refine at_run 6 [⟨false, [], callFunc 20 #[.int .i64 w1, .int .i64 h1, .slice A3 ((r4 ++ ([i1] : List Int)).length) c3], .tuple #[.int .i64 r5.1, .int .i64 r5.2]⟩] [some (.tuple #[.int .i64 r5.1, .int .i64 r5.2]), none, none, none, none, none] [0, 1, 2, 8, 9, 10, 11, 12, 13] [pl 0 (.int .i64 w1), pl 1 (.int .i64 h1), pl 2 (.slice A1 way1.length c1), pl 8 (.int .i64 (geti way1 (w64 ((way1.length : Int) - 1)))), pl 9 (.int .i64 many1), pl 10 (.int .i64 closed1), pl 11 (.int .i64 i1), pl 12 (.int .i64 r5.1), pl 13 (.int .i64 r5.2)] hF hS (by kernel_rfl) (by kernel_rfl) ?_ (fun a w hF hS => ?_)
            · exact obs_cons (ob_call Tryd.func20 (by kernel_rfl) rfl (fun _ _ hS => ih_gameroomref_KnightTours hr5 hS (fun _ hS => (hS.at_ 1 rfl).rd) ((hS.at_ 1 rfl).cap1) rfl)) <| obs_nil
            refine at_end [0, 1, 2, 8, 9, 10, 11, 12, 13] [pl 0 (.int .i64 w1), pl 1 (.int .i64 h1), pl 2 (.slice A1 way1.length c1), pl 8 (.int .i64 (geti way1 (w64 ((way1.length : Int) - 1)))), pl 9 (.int .i64 many1), pl 10 (.int .i64 closed1), pl 11 (.int .i64 i1), pl 12 (.int .i64 r5.1), pl 13 (.int .i64 r5.2)] hF rfl (by kernel_rfl) (fun hF => ?_)
            refine then_n ?_
            refine reg [] [] [0, 1, 2, 8, 9, 10, 11, 13] [pl 0 (.int .i64 w1), pl 1 (.int .i64 h1), pl 2 (.slice A1 way1.length c1), pl 8 (.int .i64 (geti way1 (w64 ((way1.length : Int) - 1)))), pl 9 (.int .i64 (w64 (many1 + r5.1))), pl 10 (.int .i64 closed1), pl 11 (.int .i64 i1), pl 13 (.int .i64 r5.2)] hF hS Fol (by kernel_rfl) (by kernel_rfl) (by kernel_rfl) ?_ (fun a w hF hS => ?_)
            · exact obs_nil
            refine reg1 [] [] [0, 1, 2, 8, 9, 10, 11] [pl 0 (.int .i64 w1), pl 1 (.int .i64 h1), pl 2 (.slice A1 way1.length c1), pl 8 (.int .i64 (geti way1 (w64 ((way1.length : Int) - 1)))), pl 9 (.int .i64 (w64 (many1 + r5.1))), pl 10 (.int .i64 (w64 (closed1 + r5.2))), pl 11 (.int .i64 i1)] hF hS Fol (by kernel_rfl) (by kernel_rfl) (by kernel_rfl) ?_ (fun a w hF hS => ?_)
            · exact obs_nil
            refine block_n ?_
            refine then_n ?_
            have hS := hS.pickN 2 [] (by decide)
            exact ⟨(w64 (many1 + r5.1)), (w64 (closed1 + r5.2)), hF.weak [0, 1, 2, 8, 9, 10, 11] (by kernel_rfl), hS, hm⟩
          · replace hm := if_f hm hb
            refine wpIn_skip ?_
            refine block_n ?_
            refine then_n ?_
            exact ⟨many1, closed1, hF.weak [0, 1, 2, 8, 9, 10, 11] (by kernel_rfl), hS, hm⟩
      · refine reg [] [] [0, 1, 2, 8, 9, 10, 11, 36] [pl 0 (.int .i64 w1), pl 1 (.int .i64 h1), pl 2 (.slice A1 way1.length c1), pl 8 (.int .i64 (geti way1 (w64 ((way1.length : Int) - 1)))), pl 9 (.int .i64 many1), pl 10 (.int .i64 closed1), pl 11 (.int .i64 i1), pl 36 (.bool (decide (i1 < (w64 (w1 * h1)))))] hF hS Fol (by kernel_rfl) (by kernel_rfl) (by kernel_rfl) ?_ (fun a w hF hS => ?_)
        · exact obs_nil
        refine cond_ev (t := 36) (b := decide (i1 < (w64 (w1 * h1)))) hF (by kernel_rfl) (fun hb => ?_) (fun hb => ?_)
        · replace hm := if_t hm hb
          refine wpIn_skip ?_
          refine then_n ?_
          exact ⟨hF.weak [0, 1, 2, 8, 9, 10, 11] (by kernel_rfl), hS, hm⟩
        · replace hm := if_f hm hb
          refine wpIn_exit ?_
          refine then_e (then_e (block_e (then_n ?_)))
          rw [← hφ1] at hm
          replace hm := done_b hm
          unfold gameroomref_KnightTours_K1 at hm
          try dsimp only at hm
          have hm : (gameroomref_KnightTours_J3 many1 closed1).bind some = some r := hm
          exact ⟨many1, closed1, hF.weak [9, 10] (by kernel_rfl), hS, hm⟩
  · refine reg [] [] [0, 1, 2, 8, 25] [pl 0 (.int .i64 w1), pl 1 (.int .i64 h1), pl 2 (.slice A1 way1.length c1), pl 8 (.int .i64 (geti way1 (w64 ((way1.length : Int) - 1)))), pl 25 (.bool ((way1.length : Int) == (w64 (w1 * h1))))] hF hS Fol (by kernel_rfl) (by kernel_rfl) (by kernel_rfl) ?_ (fun a w hF hS => ?_)
    · exact obs_nil
    refine cond_ev (t := 25) (b := ((way1.length : Int) == (w64 (w1 * h1)))) hF (by kernel_rfl) (fun hb => ?_) (fun hb => ?_)
    · replace hm := if_t hm hb
      refine seq_cut (fun a w => Fr 68 [] a ∧ Sep w0 B w (fs) ∧ (gameroomref_KnightTours_J2).bind some = some r) ?_ ?_
      · rintro a w ⟨hF, hS, hm⟩
        unfold gameroomref_KnightTours_J2 at hm
        refine reg [] [] [6, 7] [pl 6 (.int .i64 1), pl 7 (.int .i64 0)] hF hS Fol (by kernel_rfl) (by kernel_rfl) (by kernel_rfl) ?_ (fun a w hF hS => ?_)
        · exact obs_nil
        refine wpIn_ret ?_
        refine then_r ?_
        have hm : some (1, 0) = some r := hm
        obtain rfl := Option.some.inj hm
        exact retV (rs := [.tmp 6, .tmp 7]) (vs := [.int .i64 1, .int .i64 0]) hF rfl (rv_t (by kernel_rfl) <| rv_t (by kernel_rfl) <| rv_nil) rfl ⟨rfl, hS⟩
      · obtain ⟨hp2, hm⟩ := asrt_b hm
        obtain ⟨r1, hr1, hm⟩ := call_b hm
        refine reg [⟨true, [], vS (Instr.indexAt 22 (.slice A1 way1.length c1) (.int .i64 0)), .pointer (some (sAddr A1 0))⟩, ⟨false, [], vS (Instr.loadAt 3 (.pointer (some (sAddr A1 0)))), .int .i64 (geti way1 0)⟩, ⟨false, [], callFunc 34 #[.int .i64 w1, .int .i64 (geti way1 0), .int .i64 (geti way1 (w64 ((way1.length : Int) - 1)))], .bool r1⟩] [none, none, some (.pointer (some (sAddr A1 0))), some (.int .i64 (geti way1 0)), none, some (.bool r1)] [31] [pl 31 (.bool r1)] hF hS Fol (by kernel_rfl) (by kernel_rfl) (by kernel_rfl) ?_ (fun a w hF hS => ?_)
        · exact obs_cons (ob_ix1 (f := (Value.int .i64)) (m := way1) Und22 hi3 hs3 (hr_way1 _ (hS.dropN 0)) rfl (fun _ => hp2)) <| obs_cons (ob_get1 (n := way1.length) (m := way1) (Value.int .i64) (0 : Int) Agg3 (fun _ hS => ⟨_, (hr_way1 _ (hS.dropN 0))⟩) (fun _ hS => rfl) (fun _ => hp2)) <| obs_cons (ob_call Tryd.func34 (by kernel_rfl) rfl (fun _ _ hS => gameroomref_KnightStep_w hr1 hS )) <| obs_nil
        refine cond_ev (t := 31) (b := r1) hF (by kernel_rfl) (fun hb => ?_) (fun hb => ?_)
        · replace hm := if_t hm hb
          refine reg [] [] [6, 7] [pl 6 (.int .i64 1), pl 7 (.int .i64 1)] hF hS Fol (by kernel_rfl) (by kernel_rfl) (by kernel_rfl) ?_ (fun a w hF hS => ?_)
          · exact obs_nil
          refine wpIn_ret ?_
          refine then_r (then_r ?_)
          have hm : some (1, 1) = some r := hm
          obtain rfl := Option.some.inj hm
          exact retV (rs := [.tmp 6, .tmp 7]) (vs := [.int .i64 1, .int .i64 1]) hF rfl (rv_t (by kernel_rfl) <| rv_t (by kernel_rfl) <| rv_nil) rfl ⟨rfl, hS⟩
        · replace hm := if_f hm hb
          refine wpIn_skip ?_
          refine then_n ?_
          exact ⟨hF.weak [] (by kernel_rfl), hS, hm⟩
    · replace hm := if_f hm hb
      refine wpIn_skip ?_
      refine then_n ?_
      exact ⟨hF.weak [0, 1, 2, 8] (by kernel_rfl), hS, hm⟩

theorem gameroomref_KnightTours_w {w1 : Int} {h1 : Int} {A1 : Option Addr} {c1 : Nat} {n1 : Nat} {way1 : List Int} {r : (Int × Int)} {w0 w : World} {B : Nat} {fs : List HP} (hm : gameroomref_KnightTours_m w1 h1 way1 = some r) (hS : Sep w0 B w (fs)) (hr_way1 : RdF w0 B fs A1 (vI way1)) (_hc_way1 : way1.length ≤ c1) (_hn_way1 : n1 = way1.length) :
    Calls Tryd.prog 20 #[.int .i64 w1, .int .i64 h1, .slice A1 n1 c1] w fun e w' => e = .returned (.tuple #[.int .i64 r.1, .int .i64 r.2]) ∧ Sep w0 B w' (fs) := by
  have key : ∀ (n : Nat) {w1 : Int} {h1 : Int} {A1 : Option Addr} {c1 : Nat} {n1 : Nat} {way1 : List Int} {r : (Int × Int)} {w0 w : World} {B : Nat} {fs : List HP} (_ : gameroomref_KnightTours_mF n w1 h1 way1 = some r) (_ : Sep w0 B w (fs)) (hr_way1 : RdF w0 B fs A1 (vI way1)) (_hc_way1 : way1.length ≤ c1) (_hn_way1 : n1 = way1.length), Calls Tryd.prog 20 #[.int .i64 w1, .int .i64 h1, .slice A1 n1 c1] w fun e w' => e = .returned (.tuple #[.int .i64 r.1, .int .i64 r.2]) ∧ Sep w0 B w' (fs) := by
    intro n
    induction n with
    | zero => intros; rename_i hm0 _ _ _ _; cases hm0
    | succ n ih => intros; rename_i hm0 hS0 h0 h1 h2; exact gameroomref_KnightTours_wB (rec_gameroomref_KnightTours := gameroomref_KnightTours_mF n) (fun hm hS h0 h1 h2 => ih hm hS h0 h1 h2) hm0 hS0 h0 h1 h2
  obtain ⟨n, hn⟩ := recM_some hm
  exact key n hn hS hr_way1 _hc_way1 _hn_way1

set_option maxRecDepth 100000 in
theorem gameroomref_KnightTours_J4_le_gameroomref_KnightTours {rec_gameroomref_KnightTours1 rec_gameroomref_KnightTours2 : Int → Int → List Int → Option (Int × Int)} (h_rec_gameroomref_KnightTours : ∀ a0 a1 a2, Le (rec_gameroomref_KnightTours1 a0 a1 a2) (rec_gameroomref_KnightTours2 a0 a1 a2)) (w1 : Int) (h1 : Int) (way1 : List Int) (many1 : Int) (closed1 : Int) (i1 : Int) : Le (gameroomref_KnightTours_J4 rec_gameroomref_KnightTours1 w1 h1 way1 many1 closed1 i1) (gameroomref_KnightTours_J4 rec_gameroomref_KnightTours2 w1 h1 way1 many1 closed1 i1) := by
  unfold gameroomref_KnightTours_J4
  repeat' (first | with_reducible exact Le.refl _ | with_reducible exact h_rec_gameroomref_KnightTours _ _ _ | with_reducible refine Le.asrt ?_ | with_reducible refine Le.ite ?_ ?_ | refine Le.bind ?_ (fun _ => ?_) | refine Le.loop2 (fun _ => ?_) | refine Le.elim2 (fun _ => ?_) (fun _ => ?_))

set_option maxRecDepth 100000 in
theorem gameroomref_KnightTours_L1_le_gameroomref_KnightTours {rec_gameroomref_KnightTours1 rec_gameroomref_KnightTours2 : Int → Int → List Int → Option (Int × Int)} (h_rec_gameroomref_KnightTours : ∀ a0 a1 a2, Le (rec_gameroomref_KnightTours1 a0 a1 a2) (rec_gameroomref_KnightTours2 a0 a1 a2)) (w1 : Int) (h1 : Int) (way1 : List Int) (x : (Int × Int × Int)) : Le (gameroomref_KnightTours_L1 rec_gameroomref_KnightTours1 w1 h1 way1 x) (gameroomref_KnightTours_L1 rec_gameroomref_KnightTours2 w1 h1 way1 x) := by
  rcases x with ⟨many1, closed1, i1⟩
  all_goals
    unfold gameroomref_KnightTours_L1
    try dsimp only
    repeat' (first | with_reducible exact Le.refl _ | with_reducible exact h_rec_gameroomref_KnightTours _ _ _ | with_reducible exact gameroomref_KnightTours_J4_le_gameroomref_KnightTours h_rec_gameroomref_KnightTours _ _ _ _ _ _ | with_reducible refine Le.asrt ?_ | with_reducible refine Le.ite ?_ ?_ | refine Le.bind ?_ (fun _ => ?_) | refine Le.loop2 (fun _ => ?_) | refine Le.elim2 (fun _ => ?_) (fun _ => ?_))

set_option maxRecDepth 100000 in
theorem gameroomref_KnightTours_J1_le_gameroomref_KnightTours {rec_gameroomref_KnightTours1 rec_gameroomref_KnightTours2 : Int → Int → List Int → Option (Int × Int)} (h_rec_gameroomref_KnightTours : ∀ a0 a1 a2, Le (rec_gameroomref_KnightTours1 a0 a1 a2) (rec_gameroomref_KnightTours2 a0 a1 a2)) (w1 : Int) (h1 : Int) (way1 : List Int) : Le (gameroomref_KnightTours_J1 rec_gameroomref_KnightTours1 w1 h1 way1) (gameroomref_KnightTours_J1 rec_gameroomref_KnightTours2 w1 h1 way1) := by
  unfold gameroomref_KnightTours_J1
  repeat' (first | with_reducible exact Le.refl _ | with_reducible exact h_rec_gameroomref_KnightTours _ _ _ | with_reducible exact gameroomref_KnightTours_L1_le_gameroomref_KnightTours h_rec_gameroomref_KnightTours _ _ _ _ | with_reducible refine Le.asrt ?_ | with_reducible refine Le.ite ?_ ?_ | refine Le.bind ?_ (fun _ => ?_) | refine Le.loop2 (fun _ => ?_) | refine Le.elim2 (fun _ => ?_) (fun _ => ?_))

set_option maxRecDepth 100000 in
theorem gameroomref_KnightTours_B_le {rec_gameroomref_KnightTours1 rec_gameroomref_KnightTours2 : Int → Int → List Int → Option (Int × Int)} (h_rec_gameroomref_KnightTours : ∀ a0 a1 a2, Le (rec_gameroomref_KnightTours1 a0 a1 a2) (rec_gameroomref_KnightTours2 a0 a1 a2)) (w1 : Int) (h1 : Int) (way1 : List Int) : Le (gameroomref_KnightTours_B rec_gameroomref_KnightTours1 w1 h1 way1) (gameroomref_KnightTours_B rec_gameroomref_KnightTours2 w1 h1 way1) := by
  unfold gameroomref_KnightTours_B
  repeat' (first | with_reducible exact Le.refl _ | with_reducible exact h_rec_gameroomref_KnightTours _ _ _ | with_reducible exact gameroomref_KnightTours_J1_le_gameroomref_KnightTours h_rec_gameroomref_KnightTours _ _ _ | with_reducible refine Le.asrt ?_ | with_reducible refine Le.ite ?_ ?_ | refine Le.bind ?_ (fun _ => ?_) | refine Le.loop2 (fun _ => ?_) | refine Le.elim2 (fun _ => ?_) (fun _ => ?_))

set_option maxRecDepth 100000 in
theorem gameroomref_KnightTours_mF_le : ∀ (n : Nat) (w1 : Int) (h1 : Int) (way1 : List Int), Le (gameroomref_KnightTours_mF n w1 h1 way1) (gameroomref_KnightTours_mF (n + 1) w1 h1 way1)
  | 0, _, _, _ => fun _ h => by cases h
  | n + 1, _, _, _ => gameroomref_KnightTours_B_le (fun a0 a1 a2 => gameroomref_KnightTours_mF_le n a0 a1 a2) _ _ _

set_option maxRecDepth 100000 in
theorem gameroomref_KnightTours_m_of (N : Nat) (w1 : Int) (h1 : Int) (way1 : List Int) {r : (Int × Int)} (h : gameroomref_KnightTours_mF N w1 h1 way1 = some r) : gameroomref_KnightTours_m w1 h1 way1 = some r :=
  recM_mono (fun n => gameroomref_KnightTours_mF_le n _ _ _) h

noncomputable def gameroomref_KnightWalks_J6  (b1 : Int) (many5 : List Int) : Option (St (List Int × Int) (List Int)) :=
  some (.next (many5, (w64 (b1 + 1))))

noncomputable def gameroomref_KnightWalks_J5  (w1 : Int) (h1 : Int) (r1 : (List Int)) (a1 : Int) (many3 : List Int) (b1 : Int) : Option (St (List Int × Int) (List Int)) :=
  (gameroomref_KnightStep_m w1 a1 b1).bind fun r2 => if r2 then (asrt (0 ≤ b1 ∧ b1 < (((Int.toNat (w64 (w1 * h1))) : Nat) : Int)) <| asrt (0 ≤ a1 ∧ a1 < (r1.length : Int)) <| asrt (0 ≤ b1 ∧ b1 < (((Int.toNat (w64 (w1 * h1))) : Nat) : Int)) <| (gameroomref_KnightWalks_J6 b1) (many3.set (Int.toNat b1) (w64 ((geti many3 b1) + (geti r1 a1))))) else ((gameroomref_KnightWalks_J6 b1) many3)

noncomputable def gameroomref_KnightWalks_J4  (a1 : Int) (many4 : List Int) : Option (St (List Int × Int) (List Int)) :=
  some (.next (many4, (w64 (a1 + 1))))

noncomputable def gameroomref_KnightWalks_K2  (a1 : Int) : (List Int) → Option (St (List Int × Int) (List Int)) :=
  fun (x : (List Int)) => match x with | many4 => (gameroomref_KnightWalks_J4 a1) many4

noncomputable def gameroomref_KnightWalks_L2  (w1 : Int) (h1 : Int) (r1 : (List Int)) (a1 : Int) : (List Int × Int) → Option (St (List Int × Int) (List Int)) :=
  fun (x : (List Int × Int)) => match x with | (many3, b1) => if (decide (b1 < (w64 (w1 * h1)))) then ((gameroomref_KnightWalks_J5 w1 h1 r1 a1 many3 b1)) else (some (.done many3))

noncomputable def gameroomref_KnightWalks_J3  (w1 : Int) (h1 : Int) (r1 : (List Int)) (many1 : List Int) (a1 : Int) : Option (St (List Int × Int) (List Int)) :=
  (loop (gameroomref_KnightWalks_L2 w1 h1 r1 a1) (many1, 0)).bind (gameroomref_KnightWalks_K2 a1)

noncomputable def gameroomref_KnightWalks_J2  (many2 : List Int) : Option (List Int) :=
  some many2

noncomputable def gameroomref_KnightWalks_K1  : (List Int) → Option (List Int) :=
  fun (x : (List Int)) => match x with | many2 => gameroomref_KnightWalks_J2 many2

noncomputable def gameroomref_KnightWalks_L1  (w1 : Int) (h1 : Int) (r1 : (List Int)) : (List Int × Int) → Option (St (List Int × Int) (List Int)) :=
  fun (x : (List Int × Int)) => match x with | (many1, a1) => if (decide (a1 < (w64 (w1 * h1)))) then ((gameroomref_KnightWalks_J3 w1 h1 r1 many1 a1)) else (some (.done many1))

noncomputable def gameroomref_KnightWalks_J1  (rec_gameroomref_KnightWalks : Int → Int → Int → Int → Option (List Int)) (w1 : Int) (h1 : Int) (from1 : Int) (steps1 : Int) : Option (List Int) :=
  (rec_gameroomref_KnightWalks w1 h1 from1 (w64 (steps1 - 1))).bind fun r1 => (loop (gameroomref_KnightWalks_L1 w1 h1 r1) ((List.replicate (Int.toNat (w64 (w1 * h1))) (0 : Int)), 0)).bind gameroomref_KnightWalks_K1

noncomputable def gameroomref_KnightWalks_B (rec_gameroomref_KnightWalks : Int → Int → Int → Int → Option (List Int)) (w1 : Int) (h1 : Int) (from1 : Int) (steps1 : Int) : Option (List Int) :=
  asrt ((0 : Int) ≤ (w64 (w1 * h1)) ∧ (w64 (w1 * h1)) ≤ bigN) <| if (steps1 == 0) then (asrt (0 ≤ from1 ∧ from1 < (((Int.toNat (w64 (w1 * h1))) : Nat) : Int)) <| some ((List.replicate (Int.toNat (w64 (w1 * h1))) (0 : Int)).set (Int.toNat from1) 1)) else ((gameroomref_KnightWalks_J1 rec_gameroomref_KnightWalks w1 h1 from1 steps1))

noncomputable def gameroomref_KnightWalks_mF : Nat → Int → Int → Int → Int → Option (List Int)
  | 0 => fun _ _ _ _ => none
  | n + 1 => fun w1 h1 from1 steps1 => gameroomref_KnightWalks_B (gameroomref_KnightWalks_mF n) w1 h1 from1 steps1

noncomputable def gameroomref_KnightWalks_m (w1 : Int) (h1 : Int) (from1 : Int) (steps1 : Int) : Option (List Int) :=
  recM fun n => gameroomref_KnightWalks_mF n w1 h1 from1 steps1

set_option maxRecDepth 100000 in
set_option maxHeartbeats 4000000 in
theorem gameroomref_KnightWalks_wB {rec_gameroomref_KnightWalks : Int → Int → Int → Int → Option (List Int)} (ih_gameroomref_KnightWalks : ∀ {w1 : Int} {h1 : Int} {from1 : Int} {steps1 : Int} {r : (List Int)} {w0 w : World} {B : Nat} {fs : List HP} (_ : rec_gameroomref_KnightWalks w1 h1 from1 steps1 = some r) (_ : Sep w0 B w (fs)), Calls Tryd.prog 18 #[.int .i64 w1, .int .i64 h1, .int .i64 from1, .int .i64 steps1] w fun e w' => ∃ v, e = .returned v ∧ ∃ (A3 : Option Addr) (c3 : Nat), v = .slice A3 r.length c3 ∧ Sep w0 B w' (own 3 (.slice A3 r.length c3) (vI r) :: fs)) {w1 : Int} {h1 : Int} {from1 : Int} {steps1 : Int} {r : (List Int)} {w0 w : World} {B : Nat} {fs : List HP} (hm : gameroomref_KnightWalks_B rec_gameroomref_KnightWalks w1 h1 from1 steps1 = some r) (hS : Sep w0 B w (fs)) :
    Calls Tryd.prog 18 #[.int .i64 w1, .int .i64 h1, .int .i64 from1, .int .i64 steps1] w fun e w' => ∃ v, e = .returned v ∧ ∃ (A3 : Option Addr) (c3 : Nat), v = .slice A3 r.length c3 ∧ Sep w0 B w' (own 3 (.slice A3 r.length c3) (vI r) :: fs) := by
  obtain ⟨i3, hi3, hz3, hs3, hb3⟩ := info_parts Info3
  unfold gameroomref_KnightWalks_B at hm
  replace hm := start_b hm
  refine enter (l := [.int .i64 w1, .int .i64 h1, .int .i64 from1, .int .i64 steps1]) (n := 58) Tryd.func18 rfl rfl (by simp) (fun a hF => ?_)
  refine reg [] [] [0, 1, 2, 3] [pl 0 (.int .i64 w1), pl 1 (.int .i64 h1), pl 2 (.int .i64 from1), pl 3 (.int .i64 steps1)] hF hS Fol (by kernel_rfl) (by kernel_rfl) (by kernel_rfl) ?_ (fun a w hF hS => ?_)
  · exact obs_nil
  refine seqR ?_
  obtain ⟨hp1, hm⟩ := asrt_b hm
  refine at_run 3 [] [] [0, 1, 2, 3, 15] [pl 0 (.int .i64 w1), pl 1 (.int .i64 h1), pl 2 (.int .i64 from1), pl 3 (.int .i64 steps1), pl 15 (.int .i64 (w64 (w1 * h1)))] hF hS (by kernel_rfl) (by kernel_rfl) ?_ (fun a w hF hS => ?_)
  · exact obs_nil
  obtain ⟨A1, c1, w, hrun, hS⟩ := run_mk1 (P := Tryd.prog) (t := 22) (Value.int .i64) (0 : Int) hS .i64 .i64 Und22 hi3 hz3 hs3 (by omega) rfl hp1
  have hS : Sep w0 B w (own 3 (.slice A1 (Int.toNat (w64 (w1 * h1))) c1) (vI (List.replicate (Int.toNat (w64 (w1 * h1))) (0 : Int))) :: fs) := hS
  refine at_do (d := 16) hF (by kernel_rfl) (by kernel_rfl) hrun (fun a hF => ?_)
  refine at_run 1 [] [] [0, 1, 2, 3, 9] [pl 0 (.int .i64 w1), pl 1 (.int .i64 h1), pl 2 (.int .i64 from1), pl 3 (.int .i64 steps1), pl 9 (.slice A1 (Int.toNat (w64 (w1 * h1))) c1)] hF hS (by kernel_rfl) (by kernel_rfl) ?_ (fun a w hF hS => ?_)
  · exact obs_nil
  refine at_end [0, 1, 2, 3, 9] [pl 0 (.int .i64 w1), pl 1 (.int .i64 h1), pl 2 (.int .i64 from1), pl 3 (.int .i64 steps1), pl 9 (.slice A1 (Int.toNat (w64 (w1 * h1))) c1)] hF rfl (by kernel_rfl) (fun hF => ?_)
  refine then_n ?_
  refine seq_cut (fun a w => Fr 58 [pl 0 (.int .i64 w1), pl 1 (.int .i64 h1), pl 2 (.int .i64 from1), pl 3 (.int .i64 steps1), pl 9 (.slice A1 (Int.toNat (w64 (w1 * h1))) c1)] a ∧ Sep w0 B w (own 3 (.slice A1 (Int.toNat (w64 (w1 * h1))) c1) (vI (List.replicate (Int.toNat (w64 (w1 * h1))) (0 : Int))) :: fs) ∧ ((gameroomref_KnightWalks_J1 rec_gameroomref_KnightWalks w1 h1 from1 steps1)).bind some = some r) ?_ ?_
  · rintro a w ⟨hF, hS, hm⟩
    unfold gameroomref_KnightWalks_J1 at hm
    refine seqR ?_
    obtain ⟨r1, hr1, hm⟩ := call_b hm
    refine at_run 5 [] [] [0, 1, 9, 23, 24, 25, 27] [pl 0 (.int .i64 w1), pl 1 (.int .i64 h1), pl 9 (.slice A1 (Int.toNat (w64 (w1 * h1))) c1), pl 23 (.int .i64 w1), pl 24 (.int .i64 h1), pl 25 (.int .i64 from1), pl 27 (.int .i64 (w64 (steps1 - 1)))] hF hS (by kernel_rfl) (by kernel_rfl) ?_ (fun a w hF hS => ?_)
    · exact obs_nil
    refine at_call (f := 18) (args := #[.int .i64 w1, .int .i64 h1, .int .i64 from1, .int .i64 (w64 (steps1 - 1))]) (d := 28) hF (by kernel_rfl) (by kernel_rfl) Tryd.func18 (by kernel_rfl) rfl (ih_gameroomref_KnightWalks hr1 hS ) (fun v a w hR hF => ?_)
    clear hS
    obtain ⟨A2, c2, rfl, hS⟩ := hR
    have hS : Sep w0 B w (own 3 (.slice A2 r1.length c2) (vI r1) :: own 3 (.slice A1 (Int.toNat (w64 (w1 * h1))) c1) (vI (List.replicate (Int.toNat (w64 (w1 * h1))) (0 : Int))) :: fs) := hS
    refine at_run 1 [] [] [0, 1, 9, 10] [pl 0 (.int .i64 w1), pl 1 (.int .i64 h1), pl 9 (.slice A1 (Int.toNat (w64 (w1 * h1))) c1), pl 10 (.slice A2 r1.length c2)] hF hS (by kernel_rfl) (by kernel_rfl) ?_ (fun a w hF hS => ?_)
    · exact obs_nil
    refine at_end [0, 1, 9, 10] [pl 0 (.int .i64 w1), pl 1 (.int .i64 h1), pl 9 (.slice A1 (Int.toNat (w64 (w1 * h1))) c1), pl 10 (.slice A2 r1.length c2)] hF rfl (by kernel_rfl) (fun hF => ?_)
    refine then_n ?_
    refine seq_cut (fun a w => ∃ (many2 : List Int), Fr 58 [pl 9 (.slice A1 (Int.toNat (w64 (w1 * h1))) c1)] a ∧ Sep w0 B w (own 3 (.slice A1 (Int.toNat (w64 (w1 * h1))) c1) (vI many2) :: fs) ∧ (gameroomref_KnightWalks_J2 many2).bind some = some r) ?_ ?_
    · rintro a w ⟨many2, hF, hS, hm⟩
      unfold gameroomref_KnightWalks_J2 at hm
      refine reg [] [] [8] [pl 8 (.slice A1 (Int.toNat (w64 (w1 * h1))) c1)] hF hS Fol (by kernel_rfl) (by kernel_rfl) (by kernel_rfl) ?_ (fun a w hF hS => ?_)
      · exact obs_nil
      refine wpIn_ret ?_
      have hl2 := (hS.at_ 0 rfl).len1
      have hS := (hS.at_ 0 rfl).reN hl2
      have hS : Sep w0 B w (own 3 (.slice A1 many2.length c1) (vI many2) :: fs) := hS
      have hF := hF.cast (t := 8) (v := .slice A1 (Int.toNat (w64 (w1 * h1))) c1) (v' := .slice A1 many2.length c1) rfl rfl (congrArg (fun k => Value.slice A1 k c1) hl2)
      have hm : some many2 = some r := hm
      obtain rfl := Option.some.inj hm
      exact retV (rs := [.tmp 8]) (vs := [.slice A1 many2.length c1]) hF rfl (rv_t (by kernel_rfl) <| rv_nil) rfl ⟨_, rfl, A1, c1, rfl, hS⟩
    · refine reg [] [] [0, 1, 9, 10, 11] [pl 0 (.int .i64 w1), pl 1 (.int .i64 h1), pl 9 (.slice A1 (Int.toNat (w64 (w1 * h1))) c1), pl 10 (.slice A2 r1.length c2), pl 11 (.int .i64 0)] hF hS Fol (by kernel_rfl) (by kernel_rfl) (by kernel_rfl) ?_ (fun a w hF hS => ?_)
      · exact obs_nil
      refine wpIn_block ?_
      have hS := hS.pickN 2 [1, 0] (by decide)
      refine wp_loop_model (S := (List Int × Int)) (R := (List Int)) (gameroomref_KnightWalks_L1 w1 h1 r1) (fun x => (gameroomref_KnightWalks_K1 x).bind some) r (fun (x : (List Int × Int)) a w => Fr 58 [pl 0 (.int .i64 w1), pl 1 (.int .i64 h1), pl 9 (.slice A1 (Int.toNat (w64 (w1 * h1))) c1), pl 10 (.slice A2 r1.length c2), pl 11 (.int .i64 x.2)] a ∧ Sep w0 B w (own 3 (.slice A1 (Int.toNat (w64 (w1 * h1))) c1) (vI x.1) :: own 3 (.slice A2 r1.length c2) (vI r1) :: fs)) (assoc_b hm) ⟨hF.weak [0, 1, 9, 10, 11] (by kernel_rfl), hS⟩ ?_
      clear hF hS hm
      rintro nn1 ⟨many1, a1⟩ a w ⟨hF, hS⟩ hm
      generalize hφ1 : stK (gameroomref_KnightWalks_L1 w1 h1 r1) nn1 (fun x => (gameroomref_KnightWalks_K1 x).bind some) = φ1 at hm
      unfold gameroomref_KnightWalks_L1 at hm
      dsimp only at hF hS hm
      refine seq_cut (fun a w => Fr 58 [pl 0 (.int .i64 w1), pl 1 (.int .i64 h1), pl 9 (.slice A1 (Int.toNat (w64 (w1 * h1))) c1), pl 10 (.slice A2 r1.length c2), pl 11 (.int .i64 a1)] a ∧ Sep w0 B w (own 3 (.slice A1 (Int.toNat (w64 (w1 * h1))) c1) (vI many1) :: own 3 (.slice A2 r1.length c2) (vI r1) :: fs) ∧ ((gameroomref_KnightWalks_J3 w1 h1 r1 many1 a1)).bind φ1 = some r) ?_ ?_
      · rintro a w ⟨hF, hS, hm⟩
        unfold gameroomref_KnightWalks_J3 at hm
        refine seq_cut (fun a w => ∃ (many4 : List Int), Fr 58 [pl 0 (.int .i64 w1), pl 1 (.int .i64 h1), pl 9 (.slice A1 (Int.toNat (w64 (w1 * h1))) c1), pl 10 (.slice A2 r1.length c2), pl 11 (.int .i64 a1)] a ∧ Sep w0 B w (own 3 (.slice A1 (Int.toNat (w64 (w1 * h1))) c1) (vI many4) :: own 3 (.slice A2 r1.length c2) (vI r1) :: fs) ∧ ((gameroomref_KnightWalks_J4 a1) many4).bind φ1 = some r) ?_ ?_
        · rintro a w ⟨many4, hF, hS, hm⟩
          unfold gameroomref_KnightWalks_J4 at hm
          refine reg1 [] [] [0, 1, 9, 10, 11] [pl 0 (.int .i64 w1), pl 1 (.int .i64 h1), pl 9 (.slice A1 (Int.toNat (w64 (w1 * h1))) c1), pl 10 (.slice A2 r1.length c2), pl 11 (.int .i64 (w64 (a1 + 1)))] hF hS Fol (by kernel_rfl) (by kernel_rfl) (by kernel_rfl) ?_ (fun a w hF hS => ?_)
          · exact obs_nil
          refine then_n ?_
          rw [← hφ1] at hm
          exact ⟨(many4, (w64 (a1 + 1))), ⟨hF.weak [0, 1, 9, 10, 11] (by kernel_rfl), hS⟩, hm⟩
        · refine wpIn_block ?_
          refine reg [] [] [0, 1, 9, 10, 11, 12] [pl 0 (.int .i64 w1), pl 1 (.int .i64 h1), pl 9 (.slice A1 (Int.toNat (w64 (w1 * h1))) c1), pl 10 (.slice A2 r1.length c2), pl 11 (.int .i64 a1), pl 12 (.int .i64 0)] hF hS Fol (by kernel_rfl) (by kernel_rfl) (by kernel_rfl) ?_ (fun a w hF hS => ?_)
          · exact obs_nil
          refine wpIn_block ?_
          refine wp_loop_model (S := (List Int × Int)) (R := (List Int)) (gameroomref_KnightWalks_L2 w1 h1 r1 a1) (fun x => ((gameroomref_KnightWalks_K2 a1) x).bind φ1) r (fun (x : (List Int × Int)) a w => Fr 58 [pl 0 (.int .i64 w1), pl 1 (.int .i64 h1), pl 9 (.slice A1 (Int.toNat (w64 (w1 * h1))) c1), pl 10 (.slice A2 r1.length c2), pl 11 (.int .i64 a1), pl 12 (.int .i64 x.2)] a ∧ Sep w0 B w (own 3 (.slice A1 (Int.toNat (w64 (w1 * h1))) c1) (vI x.1) :: own 3 (.slice A2 r1.length c2) (vI r1) :: fs)) (assoc_b hm) ⟨hF.weak [0, 1, 9, 10, 11, 12] (by kernel_rfl), hS⟩ ?_
          clear hF hS hm
          rintro nn2 ⟨many3, b1⟩ a w ⟨hF, hS⟩ hm
          generalize hφ2 : stK (gameroomref_KnightWalks_L2 w1 h1 r1 a1) nn2 (fun x => ((gameroomref_KnightWalks_K2 a1) x).bind φ1) = φ2 at hm
          unfold gameroomref_KnightWalks_L2 at hm
          dsimp only at hF hS hm
          refine seq_cut (fun a w => Fr 58 [pl 0 (.int .i64 w1), pl 1 (.int .i64 h1), pl 9 (.slice A1 (Int.toNat (w64 (w1 * h1))) c1), pl 10 (.slice A2 r1.length c2), pl 11 (.int .i64 a1), pl 12 (.int .i64 b1)] a ∧ Sep w0 B w (own 3 (.slice A1 (Int.toNat (w64 (w1 * h1))) c1) (vI many3) :: own 3 (.slice A2 r1.length c2) (vI r1) :: fs) ∧ ((gameroomref_KnightWalks_J5 w1 h1 r1 a1 many3 b1)).bind φ2 = some r) ?_ ?_
          · rintro a w ⟨hF, hS, hm⟩
            unfold gameroomref_KnightWalks_J5 at hm
            refine seq_cut (fun a w => ∃ (many5 : List Int), Fr 58 [pl 0 (.int .i64 w1), pl 1 (.int .i64 h1), pl 9 (.slice A1 (Int.toNat (w64 (w1 * h1))) c1), pl 10 (.slice A2 r1.length c2), pl 11 (.int .i64 a1), pl 12 (.int .i64 b1)] a ∧ Sep w0 B w (own 3 (.slice A1 (Int.toNat (w64 (w1 * h1))) c1) (vI many5) :: own 3 (.slice A2 r1.length c2) (vI r1) :: fs) ∧ ((gameroomref_KnightWalks_J6 b1) many5).bind φ2 = some r) ?_ ?_
            · rintro a w ⟨many5, hF, hS, hm⟩
              unfold gameroomref_KnightWalks_J6 at hm
              refine reg1 [] [] [0, 1, 9, 10, 11, 12] [pl 0 (.int .i64 w1), pl 1 (.int .i64 h1), pl 9 (.slice A1 (Int.toNat (w64 (w1 * h1))) c1), pl 10 (.slice A2 r1.length c2), pl 11 (.int .i64 a1), pl 12 (.int .i64 (w64 (b1 + 1)))] hF hS Fol (by kernel_rfl) (by kernel_rfl) (by kernel_rfl) ?_ (fun a w hF hS => ?_)
              · exact obs_nil
              refine then_n ?_
              rw [← hφ2] at hm
              exact ⟨(many5, (w64 (b1 + 1))), ⟨hF.weak [0, 1, 9, 10, 11, 12] (by kernel_rfl), hS⟩, hm⟩
            · refine wpIn_block ?_
              obtain ⟨r2, hr2, hm⟩ := call_b hm
              refine reg [⟨false, [], callFunc 34 #[.int .i64 w1, .int .i64 a1, .int .i64 b1], .bool r2⟩] [none, none, none, some (.bool r2)] [0, 1, 9, 10, 11, 12, 46] [pl 0 (.int .i64 w1), pl 1 (.int .i64 h1), pl 9 (.slice A1 (Int.toNat (w64 (w1 * h1))) c1), pl 10 (.slice A2 r1.length c2), pl 11 (.int .i64 a1), pl 12 (.int .i64 b1), pl 46 (.bool r2)] hF hS Fol (by kernel_rfl) (by kernel_rfl) (by kernel_rfl) ?_ (fun a w hF hS => ?_)
              · exact obs_cons (ob_call Tryd.func34 (by kernel_rfl) rfl (fun _ _ hS => gameroomref_KnightStep_w hr2 hS )) <| obs_nil
              refine cond_ev (t := 46) (b := r2) hF (by kernel_rfl) (fun hb => ?_) (fun hb => ?_)
              · replace hm := if_t hm hb
                obtain ⟨hp3, hm⟩ := asrt_b hm
                obtain ⟨hp4, hm⟩ := asrt_b hm
                obtain ⟨hp5, hm⟩ := asrt_b hm
                refine regMix4 [0, 1, 2, 3, 4, 5, 6, 7, 8, 9] [10] [⟨true, [], vS (Instr.indexAt 22 (.slice A1 (Int.toNat (w64 (w1 * h1))) c1) (.int .i64 b1)), .pointer (some (sAddr A1 b1))⟩, ⟨false, [], vS (Instr.loadAt 3 (.pointer (some (sAddr A1 b1)))), .int .i64 (geti many3 b1)⟩, ⟨true, [], vS (Instr.indexAt 22 (.slice A2 r1.length c2) (.int .i64 a1)), .pointer (some (sAddr A2 a1))⟩, ⟨false, [], vS (Instr.loadAt 3 (.pointer (some (sAddr A2 a1)))), .int .i64 (geti r1 a1)⟩, ⟨true, [], vS (Instr.indexAt 22 (.slice A1 (Int.toNat (w64 (w1 * h1))) c1) (.int .i64 b1)), .pointer (some (sAddr A1 b1))⟩] [none, none, some (.pointer (some (sAddr A1 b1))), some (.int .i64 (geti many3 b1)), none, none, some (.pointer (some (sAddr A2 a1))), some (.int .i64 (geti r1 a1)), none, some (.pointer (some (sAddr A1 b1)))] [0, 1, 9, 10, 11, 12, 55, 56] [pl 0 (.int .i64 w1), pl 1 (.int .i64 h1), pl 9 (.slice A1 (Int.toNat (w64 (w1 * h1))) c1), pl 10 (.slice A2 r1.length c2), pl 11 (.int .i64 a1), pl 12 (.int .i64 b1), pl 55 (.int .i64 (w64 ((geti many3 b1) + (geti r1 a1)))), pl 56 (.pointer (some (sAddr A1 b1)))] hF hS Fol (by kernel_rfl) (by kernel_rfl) (by kernel_rfl) (by kernel_rfl) (by kernel_rfl) ?_ (fun a w hF hS => ?_)
                · exact obs_cons (ob_ix1 (f := (Value.int .i64)) (m := many3) Und22 hi3 hs3 (hS.at_ 0 rfl).rd ((hS.at_ 0 rfl).len1) (fun _ => hp3)) <| obs_cons (ob_get1 (n := (Int.toNat (w64 (w1 * h1)))) (m := many3) (Value.int .i64) (0 : Int) Agg3 (fun _ hS => ⟨_, (hS.at_ 0 rfl).rd⟩) (fun _ hS => ((hS.at_ 0 rfl).len1)) (fun _ => hp3)) <| obs_cons (ob_ix1 (f := (Value.int .i64)) (m := r1) Und22 hi3 hs3 (hS.at_ 1 rfl).rd rfl (fun _ => hp4)) <| obs_cons (ob_get1 (n := r1.length) (m := r1) (Value.int .i64) (0 : Int) Agg3 (fun _ hS => ⟨_, (hS.at_ 1 rfl).rd⟩) (fun _ hS => rfl) (fun _ => hp4)) <| obs_cons (ob_ix1 (f := (Value.int .i64)) (m := many3) Und22 hi3 hs3 (hS.at_ 0 rfl).rd ((hS.at_ 0 rfl).len1) (fun _ => hp5)) <| obs_nil
                obtain ⟨w, hrun, hS⟩ := run_set1 (P := Tryd.prog) (t := 3) (x := (w64 ((geti many3 b1) + (geti r1 a1)))) (Value.int .i64) (hS.at_ 0 rfl) hi3 hs3 rfl rfl hp5
                refine at_skip hF (by kernel_rfl) hrun ?_
                have hS : Sep w0 B w (own 3 (.slice A1 (Int.toNat (w64 (w1 * h1))) c1) (vI (many3.set (Int.toNat b1) (w64 ((geti many3 b1) + (geti r1 a1))))) :: own 3 (.slice A2 r1.length c2) (vI r1) :: fs) := hS
                refine at_end [0, 1, 9, 10, 11, 12] [pl 0 (.int .i64 w1), pl 1 (.int .i64 h1), pl 9 (.slice A1 (Int.toNat (w64 (w1 * h1))) c1), pl 10 (.slice A2 r1.length c2), pl 11 (.int .i64 a1), pl 12 (.int .i64 b1)] hF rfl (by kernel_rfl) (fun hF => ?_)
                refine np_n ?_
                refine block_n ?_
                refine then_n ?_
                exact ⟨(many3.set (Int.toNat b1) (w64 ((geti many3 b1) + (geti r1 a1)))), hF.weak [0, 1, 9, 10, 11, 12] (by kernel_rfl), hS, hm⟩
              · replace hm := if_f hm hb
                refine wpIn_skip ?_
                refine block_n ?_
                refine then_n ?_
                exact ⟨many3, hF.weak [0, 1, 9, 10, 11, 12] (by kernel_rfl), hS, hm⟩
          · refine reg [] [] [0, 1, 9, 10, 11, 12, 40] [pl 0 (.int .i64 w1), pl 1 (.int .i64 h1), pl 9 (.slice A1 (Int.toNat (w64 (w1 * h1))) c1), pl 10 (.slice A2 r1.length c2), pl 11 (.int .i64 a1), pl 12 (.int .i64 b1), pl 40 (.bool (decide (b1 < (w64 (w1 * h1)))))] hF hS Fol (by kernel_rfl) (by kernel_rfl) (by kernel_rfl) ?_ (fun a w hF hS => ?_)
            · exact obs_nil
            refine cond_ev (t := 40) (b := decide (b1 < (w64 (w1 * h1)))) hF (by kernel_rfl) (fun hb => ?_) (fun hb => ?_)
            · replace hm := if_t hm hb
              refine wpIn_skip ?_
              refine then_n ?_
              exact ⟨hF.weak [0, 1, 9, 10, 11, 12] (by kernel_rfl), hS, hm⟩
            · replace hm := if_f hm hb
              refine wpIn_exit ?_
              refine then_e (then_e (block_e (block_n (then_n ?_))))
              rw [← hφ2] at hm
              replace hm := done_b hm
              unfold gameroomref_KnightWalks_K2 at hm
              try dsimp only at hm
              have hm : ((gameroomref_KnightWalks_J4 a1) many3).bind φ1 = some r := hm
              exact ⟨many3, hF.weak [0, 1, 9, 10, 11] (by kernel_rfl), hS, hm⟩
      · refine reg [] [] [0, 1, 9, 10, 11, 33] [pl 0 (.int .i64 w1), pl 1 (.int .i64 h1), pl 9 (.slice A1 (Int.toNat (w64 (w1 * h1))) c1), pl 10 (.slice A2 r1.length c2), pl 11 (.int .i64 a1), pl 33 (.bool (decide (a1 < (w64 (w1 * h1)))))] hF hS Fol (by kernel_rfl) (by kernel_rfl) (by kernel_rfl) ?_ (fun a w hF hS => ?_)
        · exact obs_nil
        refine cond_ev (t := 33) (b := decide (a1 < (w64 (w1 * h1)))) hF (by kernel_rfl) (fun hb => ?_) (fun hb => ?_)
        · replace hm := if_t hm hb
          refine wpIn_skip ?_
          refine then_n ?_
          exact ⟨hF.weak [0, 1, 9, 10, 11] (by kernel_rfl), hS, hm⟩
        · replace hm := if_f hm hb
          refine wpIn_exit ?_
          refine then_e (then_e (block_e (then_n ?_)))
          have hS := hS.pickN 2 [0] (by decide)
          rw [← hφ1] at hm
          replace hm := done_b hm
          unfold gameroomref_KnightWalks_K1 at hm
          try dsimp only at hm
          have hm : (gameroomref_KnightWalks_J2 many1).bind some = some r := hm
          exact ⟨many1, hF.weak [9] (by kernel_rfl), hS, hm⟩
  · refine reg [] [] [0, 1, 2, 3, 9, 18] [pl 0 (.int .i64 w1), pl 1 (.int .i64 h1), pl 2 (.int .i64 from1), pl 3 (.int .i64 steps1), pl 9 (.slice A1 (Int.toNat (w64 (w1 * h1))) c1), pl 18 (.bool (steps1 == 0))] hF hS Fol (by kernel_rfl) (by kernel_rfl) (by kernel_rfl) ?_ (fun a w hF hS => ?_)
    · exact obs_nil
    refine cond_ev (t := 18) (b := (steps1 == 0)) hF (by kernel_rfl) (fun hb => ?_) (fun hb => ?_)
    · replace hm := if_t hm hb
      refine seqR ?_
      obtain ⟨hp2, hm⟩ := asrt_b hm
      refine at_run 3 [⟨true, [], vS (Instr.indexAt 22 (.slice A1 (Int.toNat (w64 (w1 * h1))) c1) (.int .i64 from1)), .pointer (some (sAddr A1 from1))⟩] [none, none, some (.pointer (some (sAddr A1 from1)))] [9, 21] [pl 9 (.slice A1 (Int.toNat (w64 (w1 * h1))) c1), pl 21 (.pointer (some (sAddr A1 from1)))] hF hS (by kernel_rfl) (by kernel_rfl) ?_ (fun a w hF hS => ?_)
      · exact obs_cons (ob_ix1 (f := (Value.int .i64)) (m := (List.replicate (Int.toNat (w64 (w1 * h1))) (0 : Int))) Und22 hi3 hs3 (hS.at_ 0 rfl).rd ((hS.at_ 0 rfl).len1) (fun _ => hp2)) <| obs_nil
      obtain ⟨w, hrun, hS⟩ := run_set1 (P := Tryd.prog) (t := 3) (x := 1) (Value.int .i64) (hS.at_ 0 rfl) hi3 hs3 rfl rfl hp2
      refine at_skip hF (by kernel_rfl) hrun ?_
      have hS : Sep w0 B w (own 3 (.slice A1 (Int.toNat (w64 (w1 * h1))) c1) (vI ((List.replicate (Int.toNat (w64 (w1 * h1))) (0 : Int)).set (Int.toNat from1) 1)) :: fs) := hS
      refine at_end [9] [pl 9 (.slice A1 (Int.toNat (w64 (w1 * h1))) c1)] hF rfl (by kernel_rfl) (fun hF => ?_)
      refine then_n ?_
      refine reg [] [] [8] [pl 8 (.slice A1 (Int.toNat (w64 (w1 * h1))) c1)] hF hS Fol (by kernel_rfl) (by kernel_rfl) (by kernel_rfl) ?_ (fun a w hF hS => ?_)
      · exact obs_nil
      refine wpIn_ret ?_
      refine then_r ?_
      have hl1 := (hS.at_ 0 rfl).len1
      have hS := (hS.at_ 0 rfl).reN hl1
      have hS : Sep w0 B w (own 3 (.slice A1 (((List.replicate (Int.toNat (w64 (w1 * h1))) (0 : Int)).set (Int.toNat from1) 1).length) c1) (vI ((List.replicate (Int.toNat (w64 (w1 * h1))) (0 : Int)).set (Int.toNat from1) 1)) :: fs) := hS
      have hF := hF.cast (t := 8) (v := .slice A1 (Int.toNat (w64 (w1 * h1))) c1) (v' := .slice A1 (((List.replicate (Int.toNat (w64 (w1 * h1))) (0 : Int)).set (Int.toNat from1) 1).length) c1) rfl rfl (congrArg (fun k => Value.slice A1 k c1) hl1)
      have hm : some ((List.replicate (Int.toNat (w64 (w1 * h1))) (0 : Int)).set (Int.toNat from1) 1) = some r := hm
      obtain rfl := Option.some.inj hm
      exact retV (rs := [.tmp 8]) (vs := [.slice A1 (((List.replicate (Int.toNat (w64 (w1 * h1))) (0 : Int)).set (Int.toNat from1) 1).length) c1]) hF rfl (rv_t (by kernel_rfl) <| rv_nil) rfl ⟨_, rfl, A1, c1, rfl, hS⟩
    · replace hm := if_f hm hb
      refine wpIn_skip ?_
      refine then_n ?_
      exact ⟨hF.weak [0, 1, 2, 3, 9] (by kernel_rfl), hS, hm⟩

theorem gameroomref_KnightWalks_w {w1 : Int} {h1 : Int} {from1 : Int} {steps1 : Int} {r : (List Int)} {w0 w : World} {B : Nat} {fs : List HP} (hm : gameroomref_KnightWalks_m w1 h1 from1 steps1 = some r) (hS : Sep w0 B w (fs)) :
    Calls Tryd.prog 18 #[.int .i64 w1, .int .i64 h1, .int .i64 from1, .int .i64 steps1] w fun e w' => ∃ v, e = .returned v ∧ ∃ (A3 : Option Addr) (c3 : Nat), v = .slice A3 r.length c3 ∧ Sep w0 B w' (own 3 (.slice A3 r.length c3) (vI r) :: fs) := by
  have key : ∀ (n : Nat) {w1 : Int} {h1 : Int} {from1 : Int} {steps1 : Int} {r : (List Int)} {w0 w : World} {B : Nat} {fs : List HP} (_ : gameroomref_KnightWalks_mF n w1 h1 from1 steps1 = some r) (_ : Sep w0 B w (fs)), Calls Tryd.prog 18 #[.int .i64 w1, .int .i64 h1, .int .i64 from1, .int .i64 steps1] w fun e w' => ∃ v, e = .returned v ∧ ∃ (A3 : Option Addr) (c3 : Nat), v = .slice A3 r.length c3 ∧ Sep w0 B w' (own 3 (.slice A3 r.length c3) (vI r) :: fs) := by
    intro n
    induction n with
    | zero => intros; rename_i hm0 _; cases hm0
    | succ n ih => intros; rename_i hm0 hS0; exact gameroomref_KnightWalks_wB (rec_gameroomref_KnightWalks := gameroomref_KnightWalks_mF n) (fun hm hS => ih hm hS) hm0 hS0
  obtain ⟨n, hn⟩ := recM_some hm
  exact key n hn hS

set_option maxRecDepth 100000 in
theorem gameroomref_KnightWalks_J1_le_gameroomref_KnightWalks {rec_gameroomref_KnightWalks1 rec_gameroomref_KnightWalks2 : Int → Int → Int → Int → Option (List Int)} (h_rec_gameroomref_KnightWalks : ∀ a0 a1 a2 a3, Le (rec_gameroomref_KnightWalks1 a0 a1 a2 a3) (rec_gameroomref_KnightWalks2 a0 a1 a2 a3)) (w1 : Int) (h1 : Int) (from1 : Int) (steps1 : Int) : Le (gameroomref_KnightWalks_J1 rec_gameroomref_KnightWalks1 w1 h1 from1 steps1) (gameroomref_KnightWalks_J1 rec_gameroomref_KnightWalks2 w1 h1 from1 steps1) := by
  unfold gameroomref_KnightWalks_J1
  repeat' (first | with_reducible exact Le.refl _ | with_reducible exact h_rec_gameroomref_KnightWalks _ _ _ _ | with_reducible refine Le.asrt ?_ | with_reducible refine Le.ite ?_ ?_ | refine Le.bind ?_ (fun _ => ?_) | refine Le.loop2 (fun _ => ?_) | refine Le.elim2 (fun _ => ?_) (fun _ => ?_))

set_option maxRecDepth 100000 in
theorem gameroomref_KnightWalks_B_le {rec_gameroomref_KnightWalks1 rec_gameroomref_KnightWalks2 : Int → Int → Int → Int → Option (List Int)} (h_rec_gameroomref_KnightWalks : ∀ a0 a1 a2 a3, Le (rec_gameroomref_KnightWalks1 a0 a1 a2 a3) (rec_gameroomref_KnightWalks2 a0 a1 a2 a3)) (w1 : Int) (h1 : Int) (from1 : Int) (steps1 : Int) : Le (gameroomref_KnightWalks_B rec_gameroomref_KnightWalks1 w1 h1 from1 steps1) (gameroomref_KnightWalks_B rec_gameroomref_KnightWalks2 w1 h1 from1 steps1) := by
  unfold gameroomref_KnightWalks_B
  repeat' (first | with_reducible exact Le.refl _ | with_reducible exact h_rec_gameroomref_KnightWalks _ _ _ _ | with_reducible exact gameroomref_KnightWalks_J1_le_gameroomref_KnightWalks h_rec_gameroomref_KnightWalks _ _ _ _ | with_reducible refine Le.asrt ?_ | with_reducible refine Le.ite ?_ ?_ | refine Le.bind ?_ (fun _ => ?_) | refine Le.loop2 (fun _ => ?_) | refine Le.elim2 (fun _ => ?_) (fun _ => ?_))

set_option maxRecDepth 100000 in
theorem gameroomref_KnightWalks_mF_le : ∀ (n : Nat) (w1 : Int) (h1 : Int) (from1 : Int) (steps1 : Int), Le (gameroomref_KnightWalks_mF n w1 h1 from1 steps1) (gameroomref_KnightWalks_mF (n + 1) w1 h1 from1 steps1)
  | 0, _, _, _, _ => fun _ h => by cases h
  | n + 1, _, _, _, _ => gameroomref_KnightWalks_B_le (fun a0 a1 a2 a3 => gameroomref_KnightWalks_mF_le n a0 a1 a2 a3) _ _ _ _

set_option maxRecDepth 100000 in
theorem gameroomref_KnightWalks_m_of (N : Nat) (w1 : Int) (h1 : Int) (from1 : Int) (steps1 : Int) {r : (List Int)} (h : gameroomref_KnightWalks_mF N w1 h1 from1 steps1 = some r) : gameroomref_KnightWalks_m w1 h1 from1 steps1 = some r :=
  recM_mono (fun n => gameroomref_KnightWalks_mF_le n _ _ _ _) h

noncomputable def gameroomlaw_TourCounts_J8  (w1 : Int) (h1 : Int) (from1 : Int) (r2 : (Int × Int × Int)) : Option Bool :=
  (gameroomref_KnightTours_m w1 h1 ([from1] : List Int)).bind fun r8 => some (((r2.2.2 == 0) && (r2.1 == r8.1)) && (r2.2.1 == r8.2))

noncomputable def gameroomlaw_TourCounts_J6  (w1 : Int) (h1 : Int) (from1 : Int) (r2 : (Int × Int × Int)) : Option Bool :=
  if (decide ((20 : Int) < (w64 (w1 * h1)))) then (some (((r2.2.2 == 2) && (r2.1 == 0)) && (r2.2.1 == 0))) else ((gameroomlaw_TourCounts_J8 w1 h1 from1 r2))

noncomputable def gameroomlaw_TourCounts_J7  (w1 : Int) (h1 : Int) (from1 : Int) (r2 : (Int × Int × Int)) (z2 : Bool) : Option Bool :=
  if z2 then (some false) else ((gameroomlaw_TourCounts_J6 w1 h1 from1 r2))

noncomputable def gameroomlaw_TourCounts_J5  (w1 : Int) (h1 : Int) (from1 : Int) (r2 : (Int × Int × Int)) (r3 : (List Int × Int)) : Option Bool :=
  if (r3.2 != 0) then ((gameroomlaw_TourCounts_J7 w1 h1 from1 r2) ((r3.2 != 0) || true)) else ((gameroomref_KnightGreedy_m w1 h1 from1).bind fun r6 => ((if (!(r3.2 != 0)) then gameroomlaw_sameInts_m r3.1 r6 else some false)).bind fun r7 => (gameroomlaw_TourCounts_J7 w1 h1 from1 r2) ((r3.2 != 0) || (!r7)))

noncomputable def gameroomlaw_TourCounts_J3  (w1 : Int) (h1 : Int) (from1 : Int) (r2 : (Int × Int × Int)) (r3 : (List Int × Int)) : Option Bool :=
  if (!((decide ((0 : Int) ≤ from1)) && (decide (from1 < (w64 (w1 * h1)))))) then (some (((((r2.2.2 == 5) && (r3.2 == 5)) && (r2.1 == 0)) && (r2.2.1 == 0)) && ((r3.1.length : Int) == 0))) else ((gameroomlaw_TourCounts_J5 w1 h1 from1 r2 r3))

noncomputable def gameroomlaw_TourCounts_J4  (w1 : Int) (h1 : Int) (from1 : Int) (r2 : (Int × Int × Int)) (r3 : (List Int × Int)) (z1 : Bool) : Option Bool :=
  if z1 then (some false) else ((gameroomlaw_TourCounts_J3 w1 h1 from1 r2 r3))

noncomputable def gameroomlaw_TourCounts_J2  (w1 : Int) (h1 : Int) (from1 : Int) (to1 : Int) (steps1 : Int) (r1 : (Int × Int)) (r2 : (Int × Int × Int)) (r3 : (List Int × Int)) (no1 : Int) : Option Bool :=
  if (no1 != 0) then (if ((r1.2 != no1) || (r1.1 != 0)) then (some false) else ((gameroomlaw_TourCounts_J3 w1 h1 from1 r2 r3))) else (if (r1.2 != 0) then (asrt ((r1.2 != 0) = false → 0 ≤ to1 ∧ to1 < 0) <| (gameroomlaw_TourCounts_J4 w1 h1 from1 r2 r3) ((r1.2 != 0) || (r1.1 != (geti ([] : List Int) to1)))) else ((gameroomref_KnightWalks_m w1 h1 from1 steps1).bind fun r5 => asrt ((r1.2 != 0) = false → 0 ≤ to1 ∧ to1 < (r5.length : Int)) <| (gameroomlaw_TourCounts_J4 w1 h1 from1 r2 r3) ((r1.2 != 0) || (r1.1 != (geti r5 to1)))))

noncomputable def gameroomlaw_TourCounts_J1  (w1 : Int) (h1 : Int) (from1 : Int) (to1 : Int) (steps1 : Int) (r1 : (Int × Int)) (r2 : (Int × Int × Int)) (r3 : (List Int × Int)) : Option Bool :=
  if (((!((decide ((0 : Int) ≤ from1)) && (decide (from1 < (w64 (w1 * h1)))))) || (decide (to1 < 0))) || (decide ((w64 (w1 * h1)) ≤ to1))) then ((gameroomlaw_TourCounts_J2 w1 h1 from1 to1 steps1 r1 r2 r3) 5) else (if ((decide (steps1 < 0)) || (decide ((12 : Int) < steps1))) then ((gameroomlaw_TourCounts_J2 w1 h1 from1 to1 steps1 r1 r2 r3) 11) else ((gameroomlaw_TourCounts_J2 w1 h1 from1 to1 steps1 r1 r2 r3) 0))

noncomputable def gameroomlaw_TourCounts_m  (w1 : Int) (h1 : Int) (from1 : Int) (to1 : Int) (steps1 : Int) : Option Bool :=
  (tour_Walks_m w1 h1 from1 to1 steps1).bind fun r1 => (tour_Count_m w1 h1 from1).bind fun r2 => (tour_Greedy_m w1 h1 from1).bind fun r3 => (gameroomlaw_board_m w1 h1).bind fun r4 => if (!r4) then (some (((((((r1.2 == 3) && (r2.2.2 == 3)) && (r3.2 == 3)) && (r1.1 == 0)) && (r2.1 == 0)) && (r2.2.1 == 0)) && ((r3.1.length : Int) == 0))) else ((gameroomlaw_TourCounts_J1 w1 h1 from1 to1 steps1 r1 r2 r3))

set_option maxRecDepth 100000 in
set_option maxHeartbeats 4000000 in
theorem gameroomlaw_TourCounts_w {w1 : Int} {h1 : Int} {from1 : Int} {to1 : Int} {steps1 : Int} {r : Bool} {w0 w : World} {B : Nat} {fs : List HP} [GLV 0 glob0 w0 B] (hm : gameroomlaw_TourCounts_m w1 h1 from1 to1 steps1 = some r) (hS : Sep w0 B w (fs)) :
    Calls Tryd.prog 4 #[.int .i64 w1, .int .i64 h1, .int .i64 from1, .int .i64 to1, .int .i64 steps1] w fun e w' => e = .returned (.bool r) ∧ Sep w0 B w' (fs) := by
  obtain ⟨i3, hi3, hz3, hs3, hb3⟩ := info_parts Info3
  unfold gameroomlaw_TourCounts_m at hm
  replace hm := start_b hm
  refine enter (l := [.int .i64 w1, .int .i64 h1, .int .i64 from1, .int .i64 to1, .int .i64 steps1]) (n := 194) Tryd.func4 rfl rfl (by simp) (fun a hF => ?_)
  refine reg [] [] [0, 1, 2, 3, 4] [pl 0 (.int .i64 w1), pl 1 (.int .i64 h1), pl 2 (.int .i64 from1), pl 3 (.int .i64 to1), pl 4 (.int .i64 steps1)] hF hS Fol (by kernel_rfl) (by kernel_rfl) (by kernel_rfl) ?_ (fun a w hF hS => ?_)
  · exact obs_nil
  obtain ⟨r1, hr1, hm⟩ := call_b hm
  refine reg [⟨false, [], callFunc 15 #[.int .i64 w1, .int .i64 h1, .int .i64 from1, .int .i64 to1, .int .i64 steps1], .tuple #[.int .i64 r1.1, .int .i64 r1.2]⟩] [none, none, none, none, none, some (.tuple #[.int .i64 r1.1, .int .i64 r1.2]), none, none, none, none, none] [0, 1, 2, 3, 4, 11, 12] [pl 0 (.int .i64 w1), pl 1 (.int .i64 h1), pl 2 (.int .i64 from1), pl 3 (.int .i64 to1), pl 4 (.int .i64 steps1), pl 11 (.int .i64 r1.1), pl 12 (.int .i64 r1.2)] hF hS Fol (by kernel_rfl) (by kernel_rfl) (by kernel_rfl) ?_ (fun a w hF hS => ?_)
  · exact obs_cons (ob_call Tryd.func15 (by kernel_rfl) rfl (fun _ _ hS => tour_Walks_w hr1 hS )) <| obs_nil
  obtain ⟨r2, hr2, hm⟩ := call_b hm
  refine reg [⟨false, [], callFunc 16 #[.int .i64 w1, .int .i64 h1, .int .i64 from1], .tuple #[.int .i64 r2.1, .int .i64 r2.2.1, .int .i64 r2.2.2]⟩] [none, none, none, some (.tuple #[.int .i64 r2.1, .int .i64 r2.2.1, .int .i64 r2.2.2]), none, none, none, none, none, none, none] [0, 1, 2, 3, 4, 11, 12, 13, 14, 15] [pl 0 (.int .i64 w1), pl 1 (.int .i64 h1), pl 2 (.int .i64 from1), pl 3 (.int .i64 to1), pl 4 (.int .i64 steps1), pl 11 (.int .i64 r1.1), pl 12 (.int .i64 r1.2), pl 13 (.int .i64 r2.1), pl 14 (.int .i64 r2.2.1), pl 15 (.int .i64 r2.2.2)] hF hS Fol (by kernel_rfl) (by kernel_rfl) (by kernel_rfl) ?_ (fun a w hF hS => ?_)
  · exact obs_cons (ob_call Tryd.func16 (by kernel_rfl) rfl (fun _ _ hS => tour_Count_w hr2 hS )) <| obs_nil
  refine seqR ?_
  obtain ⟨r3, hr3, hm⟩ := call_b hm
  refine at_run 3 [] [] [0, 1, 2, 3, 4, 11, 12, 13, 14, 15, 40, 41, 42] [pl 0 (.int .i64 w1), pl 1 (.int .i64 h1), pl 2 (.int .i64 from1), pl 3 (.int .i64 to1), pl 4 (.int .i64 steps1), pl 11 (.int .i64 r1.1), pl 12 (.int .i64 r1.2), pl 13 (.int .i64 r2.1), pl 14 (.int .i64 r2.2.1), pl 15 (.int .i64 r2.2.2), pl 40 (.int .i64 w1), pl 41 (.int .i64 h1), pl 42 (.int .i64 from1)] hF hS (by kernel_rfl) (by kernel_rfl) ?_ (fun a w hF hS => ?_)
  · exact obs_nil
  refine at_call (f := 17) (args := #[.int .i64 w1, .int .i64 h1, .int .i64 from1]) (d := 43) hF (by kernel_rfl) (by kernel_rfl) Tryd.func17 (by kernel_rfl) rfl (tour_Greedy_w hr3 hS ) (fun v a w hR hF => ?_)
  clear hS
  obtain ⟨A1, c1, rfl, hS⟩ := hR
  have hS : Sep w0 B w (own 3 (.slice A1 r3.1.length c1) (vI r3.1) :: fs) := hS
  refine at_run 5 [] [] [0, 1, 2, 3, 4, 11, 12, 13, 14, 15, 16, 17] [pl 0 (.int .i64 w1), pl 1 (.int .i64 h1), pl 2 (.int .i64 from1), pl 3 (.int .i64 to1), pl 4 (.int .i64 steps1), pl 11 (.int .i64 r1.1), pl 12 (.int .i64 r1.2), pl 13 (.int .i64 r2.1), pl 14 (.int .i64 r2.2.1), pl 15 (.int .i64 r2.2.2), pl 16 (.slice A1 r3.1.length c1), pl 17 (.int .i64 r3.2)] hF hS (by kernel_rfl) (by kernel_rfl) ?_ (fun a w hF hS => ?_)
  · exact obs_nil
  refine at_end [0, 1, 2, 3, 4, 11, 12, 13, 14, 15, 16, 17] [pl 0 (.int .i64 w1), pl 1 (.int .i64 h1), pl 2 (.int .i64 from1), pl 3 (.int .i64 to1), pl 4 (.int .i64 steps1), pl 11 (.int .i64 r1.1), pl 12 (.int .i64 r1.2), pl 13 (.int .i64 r2.1), pl 14 (.int .i64 r2.2.1), pl 15 (.int .i64 r2.2.2), pl 16 (.slice A1 r3.1.length c1), pl 17 (.int .i64 r3.2)] hF rfl (by kernel_rfl) (fun hF => ?_)
  refine then_n ?_
  refine seq_cut (fun a w => Fr 194 [pl 0 (.int .i64 w1), pl 1 (.int .i64 h1), pl 2 (.int .i64 from1), pl 3 (.int .i64 to1), pl 4 (.int .i64 steps1), pl 11 (.int .i64 r1.1), pl 12 (.int .i64 r1.2), pl 13 (.int .i64 r2.1), pl 14 (.int .i64 r2.2.1), pl 15 (.int .i64 r2.2.2), pl 16 (.slice A1 r3.1.length c1), pl 17 (.int .i64 r3.2)] a ∧ Sep w0 B w (own 3 (.slice A1 r3.1.length c1) (vI r3.1) :: fs) ∧ ((gameroomlaw_TourCounts_J1 w1 h1 from1 to1 steps1 r1 r2 r3)).bind some = some r) ?_ ?_
  · rintro a w ⟨hF, hS, hm⟩
    unfold gameroomlaw_TourCounts_J1 at hm
    refine reg [] [] [0, 1, 2, 3, 4, 11, 12, 13, 14, 15, 16, 17, 18] [pl 0 (.int .i64 w1), pl 1 (.int .i64 h1), pl 2 (.int .i64 from1), pl 3 (.int .i64 to1), pl 4 (.int .i64 steps1), pl 11 (.int .i64 r1.1), pl 12 (.int .i64 r1.2), pl 13 (.int .i64 r2.1), pl 14 (.int .i64 r2.2.1), pl 15 (.int .i64 r2.2.2), pl 16 (.slice A1 r3.1.length c1), pl 17 (.int .i64 r3.2), pl 18 (.bool ((decide ((0 : Int) ≤ from1)) && (decide (from1 < (w64 (w1 * h1))))))] hF hS Fol (by kernel_rfl) (by kernel_rfl) (by kernel_rfl) ?_ (fun a w hF hS => ?_)
    · exact obs_nil
    refine reg [] [] [0, 1, 2, 3, 4, 11, 12, 13, 14, 15, 16, 17, 18, 19] [pl 0 (.int .i64 w1), pl 1 (.int .i64 h1), pl 2 (.int .i64 from1), pl 3 (.int .i64 to1), pl 4 (.int .i64 steps1), pl 11 (.int .i64 r1.1), pl 12 (.int .i64 r1.2), pl 13 (.int .i64 r2.1), pl 14 (.int .i64 r2.2.1), pl 15 (.int .i64 r2.2.2), pl 16 (.slice A1 r3.1.length c1), pl 17 (.int .i64 r3.2), pl 18 (.bool ((decide ((0 : Int) ≤ from1)) && (decide (from1 < (w64 (w1 * h1)))))), pl 19 (.int .i64 0)] hF hS Fol (by kernel_rfl) (by kernel_rfl) (by kernel_rfl) ?_ (fun a w hF hS => ?_)
    · exact obs_nil
    refine seq_cut (fun a w => ∃ (no1 : Int), Fr 194 [pl 0 (.int .i64 w1), pl 1 (.int .i64 h1), pl 2 (.int .i64 from1), pl 3 (.int .i64 to1), pl 4 (.int .i64 steps1), pl 11 (.int .i64 r1.1), pl 12 (.int .i64 r1.2), pl 13 (.int .i64 r2.1), pl 14 (.int .i64 r2.2.1), pl 15 (.int .i64 r2.2.2), pl 16 (.slice A1 r3.1.length c1), pl 17 (.int .i64 r3.2), pl 18 (.bool ((decide ((0 : Int) ≤ from1)) && (decide (from1 < (w64 (w1 * h1)))))), pl 19 (.int .i64 no1)] a ∧ Sep w0 B w (own 3 (.slice A1 r3.1.length c1) (vI r3.1) :: fs) ∧ ((gameroomlaw_TourCounts_J2 w1 h1 from1 to1 steps1 r1 r2 r3) no1).bind some = some r) ?_ ?_
    · rintro a w ⟨no1, hF, hS, hm⟩
      unfold gameroomlaw_TourCounts_J2 at hm
      refine seq_cut (fun a w => Fr 194 [pl 0 (.int .i64 w1), pl 1 (.int .i64 h1), pl 2 (.int .i64 from1), pl 13 (.int .i64 r2.1), pl 14 (.int .i64 r2.2.1), pl 15 (.int .i64 r2.2.2), pl 16 (.slice A1 r3.1.length c1), pl 17 (.int .i64 r3.2), pl 18 (.bool ((decide ((0 : Int) ≤ from1)) && (decide (from1 < (w64 (w1 * h1))))))] a ∧ Sep w0 B w (own 3 (.slice A1 r3.1.length c1) (vI r3.1) :: fs) ∧ ((gameroomlaw_TourCounts_J3 w1 h1 from1 r2 r3)).bind some = some r) ?_ ?_
      · rintro a w ⟨hF, hS, hm⟩
        unfold gameroomlaw_TourCounts_J3 at hm
        refine seq_cut (fun a w => Fr 194 [pl 0 (.int .i64 w1), pl 1 (.int .i64 h1), pl 2 (.int .i64 from1), pl 13 (.int .i64 r2.1), pl 14 (.int .i64 r2.2.1), pl 15 (.int .i64 r2.2.2), pl 16 (.slice A1 r3.1.length c1), pl 17 (.int .i64 r3.2)] a ∧ Sep w0 B w (own 3 (.slice A1 r3.1.length c1) (vI r3.1) :: fs) ∧ ((gameroomlaw_TourCounts_J5 w1 h1 from1 r2 r3)).bind some = some r) ?_ ?_
        · rintro a w ⟨hF, hS, hm⟩
          unfold gameroomlaw_TourCounts_J5 at hm
          refine seq_cut (fun a w => Fr 194 [pl 0 (.int .i64 w1), pl 1 (.int .i64 h1), pl 2 (.int .i64 from1), pl 13 (.int .i64 r2.1), pl 14 (.int .i64 r2.2.1), pl 15 (.int .i64 r2.2.2)] a ∧ Sep w0 B w (fs) ∧ ((gameroomlaw_TourCounts_J6 w1 h1 from1 r2)).bind some = some r) ?_ ?_
          · rintro a w ⟨hF, hS, hm⟩
            unfold gameroomlaw_TourCounts_J6 at hm
            refine seq_cut (fun a w => Fr 194 [pl 0 (.int .i64 w1), pl 1 (.int .i64 h1), pl 2 (.int .i64 from1), pl 13 (.int .i64 r2.1), pl 14 (.int .i64 r2.2.1), pl 15 (.int .i64 r2.2.2)] a ∧ Sep w0 B w (fs) ∧ ((gameroomlaw_TourCounts_J8 w1 h1 from1 r2)).bind some = some r) ?_ ?_
            · rintro a w ⟨hF, hS, hm⟩
              unfold gameroomlaw_TourCounts_J8 at hm
              refine seqR ?_
              obtain ⟨r8, hr8, hm⟩ := call_b hm
              refine at_run 3 [] [] [13, 14, 15, 175, 176, 177] [pl 13 (.int .i64 r2.1), pl 14 (.int .i64 r2.2.1), pl 15 (.int .i64 r2.2.2), pl 175 (.int .i64 w1), pl 176 (.int .i64 h1), pl 177 (.int .i64 from1)] hF hS (by kernel_rfl) (by kernel_rfl) ?_ (fun a w hF hS => ?_)
              · exact obs_nil
              refine at_do (d := 178) (s := vS (Instr.buildSlice 22 1 #[(0, .int .i64 from1)])) (v := .slice (some ⟨w.heap.size, 0, none⟩) 1 1) (w' := w.alloc (.cells #[.int .i64 from1] 3)) hF (by kernel_rfl) (by kernel_rfl) (by kernel_rfl) (fun a hF => ?_)
              have hS : Sep w0 B (w.alloc (.cells #[.int .i64 from1] 3)) (own 3 (.slice (some (⟨w.heap.size, 0, none⟩ : Addr)) 1 1) (vI ([from1] : List Int)) :: (fs)) := hS.lit 3 #[.int .i64 from1] 1 rfl (by omega)
              generalize (some (⟨w.heap.size, 0, none⟩ : Addr)) = g1 at hF hS
              generalize w.alloc (.cells #[.int .i64 from1] 3) = w at hS ⊢
              refine at_run 6 [⟨false, [], callFunc 20 #[.int .i64 w1, .int .i64 h1, .slice g1 1 1], .tuple #[.int .i64 r8.1, .int .i64 r8.2]⟩] [some (.tuple #[.int .i64 r8.1, .int .i64 r8.2]), none, none, none, none, none] [13, 14, 15, 20, 21] [pl 13 (.int .i64 r2.1), pl 14 (.int .i64 r2.2.1), pl 15 (.int .i64 r2.2.2), pl 20 (.int .i64 r8.1), pl 21 (.int .i64 r8.2)] hF hS (by kernel_rfl) (by kernel_rfl) ?_ (fun a w hF hS => ?_)
              · exact obs_cons (ob_call Tryd.func20 (by kernel_rfl) rfl (fun _ _ hS => gameroomref_KnightTours_w hr8 hS (fun _ hS => (hS.at_ 0 rfl).rd) ((hS.at_ 0 rfl).cap1) ((hS.at_ 0 rfl).len1))) <| obs_nil
              refine at_end [13, 14, 15, 20, 21] [pl 13 (.int .i64 r2.1), pl 14 (.int .i64 r2.2.1), pl 15 (.int .i64 r2.2.2), pl 20 (.int .i64 r8.1), pl 21 (.int .i64 r8.2)] hF rfl (by kernel_rfl) (fun hF => ?_)
              refine then_n ?_
              refine reg [] [] [10] [pl 10 (.bool (((r2.2.2 == 0) && (r2.1 == r8.1)) && (r2.2.1 == r8.2)))] hF hS Fol (by kernel_rfl) (by kernel_rfl) (by kernel_rfl) ?_ (fun a w hF hS => ?_)
              · exact obs_nil
              refine wpIn_ret ?_
              have hS := hS.pickN 1 [] (by decide)
              have hm : some (((r2.2.2 == 0) && (r2.1 == r8.1)) && (r2.2.1 == r8.2)) = some r := hm
              obtain rfl := Option.some.inj hm
              exact retV (rs := [.tmp 10]) (vs := [.bool (((r2.2.2 == 0) && (r2.1 == r8.1)) && (r2.2.1 == r8.2))]) hF rfl (rv_t (by kernel_rfl) <| rv_nil) rfl ⟨rfl, hS⟩
            · refine reg [] [] [0, 1, 2, 13, 14, 15, 163] [pl 0 (.int .i64 w1), pl 1 (.int .i64 h1), pl 2 (.int .i64 from1), pl 13 (.int .i64 r2.1), pl 14 (.int .i64 r2.2.1), pl 15 (.int .i64 r2.2.2), pl 163 (.bool (decide ((20 : Int) < (w64 (w1 * h1)))))] hF hS Fol (by kernel_rfl) (by kernel_rfl) (by kernel_rfl) ?_ (fun a w hF hS => ?_)
              · exact obs_nil
              refine cond_ev (t := 163) (b := decide ((20 : Int) < (w64 (w1 * h1)))) hF (by kernel_rfl) (fun hb => ?_) (fun hb => ?_)
              · replace hm := if_t hm hb
                refine reg [] [] [10] [pl 10 (.bool (((r2.2.2 == 2) && (r2.1 == 0)) && (r2.2.1 == 0)))] hF hS Fol (by kernel_rfl) (by kernel_rfl) (by kernel_rfl) ?_ (fun a w hF hS => ?_)
                · exact obs_nil
                refine wpIn_ret ?_
                refine then_r ?_
                have hm : some (((r2.2.2 == 2) && (r2.1 == 0)) && (r2.2.1 == 0)) = some r := hm
                obtain rfl := Option.some.inj hm
                exact retV (rs := [.tmp 10]) (vs := [.bool (((r2.2.2 == 2) && (r2.1 == 0)) && (r2.2.1 == 0))]) hF rfl (rv_t (by kernel_rfl) <| rv_nil) rfl ⟨rfl, hS⟩
              · replace hm := if_f hm hb
                refine wpIn_skip ?_
                refine then_n ?_
                exact ⟨hF.weak [0, 1, 2, 13, 14, 15] (by kernel_rfl), hS, hm⟩
          · refine seq_cut (fun a w => ∃ (z2 : Bool), Fr 194 [pl 0 (.int .i64 w1), pl 1 (.int .i64 h1), pl 2 (.int .i64 from1), pl 13 (.int .i64 r2.1), pl 14 (.int .i64 r2.2.1), pl 15 (.int .i64 r2.2.2), pl 159 (.bool z2)] a ∧ Sep w0 B w (fs) ∧ ((gameroomlaw_TourCounts_J7 w1 h1 from1 r2) z2).bind some = some r) ?_ ?_
            · rintro a w ⟨z2, hF, hS, hm⟩
              unfold gameroomlaw_TourCounts_J7 at hm
              refine cond_ev (t := 159) (b := z2) hF (by kernel_rfl) (fun hb => ?_) (fun hb => ?_)
              · replace hm := if_t hm hb
                refine reg [] [] [10] [pl 10 (.bool false)] hF hS Fol (by kernel_rfl) (by kernel_rfl) (by kernel_rfl) ?_ (fun a w hF hS => ?_)
                · exact obs_nil
                refine wpIn_ret ?_
                refine then_r ?_
                have hm : some false = some r := hm
                obtain rfl := Option.some.inj hm
                exact retV (rs := [.tmp 10]) (vs := [.bool false]) hF rfl (rv_t (by kernel_rfl) <| rv_nil) rfl ⟨rfl, hS⟩
              · replace hm := if_f hm hb
                refine wpIn_skip ?_
                refine then_n ?_
                exact ⟨hF.weak [0, 1, 2, 13, 14, 15] (by kernel_rfl), hS, hm⟩
            · refine oneR ?_
              refine at_run 7 [] [] [0, 1, 2, 13, 14, 15, 151, 152, 153, 154, 155] [pl 0 (.int .i64 w1), pl 1 (.int .i64 h1), pl 2 (.int .i64 from1), pl 13 (.int .i64 r2.1), pl 14 (.int .i64 r2.2.1), pl 15 (.int .i64 r2.2.2), pl 151 (.bool (r3.2 != 0)), ⟨152, [(151, false)], .slice A1 r3.1.length c1⟩, ⟨153, [(151, false)], .int .i64 w1⟩, ⟨154, [(151, false)], .int .i64 h1⟩, ⟨155, [(151, false)], .int .i64 from1⟩] hF hS (by kernel_rfl) (by kernel_rfl) ?_ (fun a w hF hS => ?_)
              · exact obs_nil
              rcases Bool.eq_false_or_eq_true (r3.2 != 0) with hg2 | hg2
              · replace hm := if_t hm hg2
                refine at_gskip (d := 156) (v := .slice none 0 0) (hs := [((r3.2 != 0), false)]) (ctx := [(151, false)]) hF (by kernel_rfl) (by kernel_rfl) (fun h => absurd (h ((r3.2 != 0), false) (by simp)) (by simp [hg2])) (fun a hF => ?_)
                refine at_run 3 [⟨false, [((r3.2 != 0), false)], callFunc 12 #[.slice A1 r3.1.length c1, .slice none 0 0], .bool false⟩] [some (.bool false), none, none] [0, 1, 2, 13, 14, 15, 159] [pl 0 (.int .i64 w1), pl 1 (.int .i64 h1), pl 2 (.int .i64 from1), pl 13 (.int .i64 r2.1), pl 14 (.int .i64 r2.2.1), pl 15 (.int .i64 r2.2.2), pl 159 (.bool ((r3.2 != 0) || true))] hF hS (by kernel_rfl) (by kernel_rfl) ?_ (fun a w hF hS => ?_)
                · exact obs_cons (Ob.vac (fun h => absurd (h ((r3.2 != 0), false) (by simp)) (by simp [hg2]))) <| obs_nil
                refine at_end [0, 1, 2, 13, 14, 15, 159] [pl 0 (.int .i64 w1), pl 1 (.int .i64 h1), pl 2 (.int .i64 from1), pl 13 (.int .i64 r2.1), pl 14 (.int .i64 r2.2.1), pl 15 (.int .i64 r2.2.2), pl 159 (.bool ((r3.2 != 0) || true))] hF rfl (by kernel_rfl) (fun hF => ?_)
                refine then_n ?_
                have hS := hS.pickN 1 [] (by decide)
                exact ⟨((r3.2 != 0) || true), hF.weak [0, 1, 2, 13, 14, 15, 159] (by kernel_rfl), hS, hm⟩
              · replace hm := if_f hm hg2
                obtain ⟨r6, hr6, hm⟩ := call_b hm
                obtain ⟨r7, hr7, hm⟩ := call_b hm
                refine at_gcall (hs := [((r3.2 != 0), false)]) (fun y hy => by simp only [List.mem_cons, List.not_mem_nil, or_false] at hy; subst hy; first | exact hg2) (f := 19) (args := #[.int .i64 w1, .int .i64 h1, .int .i64 from1]) (d := 156) hF (by kernel_rfl) (by kernel_rfl) Tryd.func19 (by kernel_rfl) rfl (gameroomref_KnightGreedy_w hr6 hS ) (fun v a w hR hF => ?_)
                clear hS
                obtain ⟨A3, c3, rfl, hS⟩ := hR
                have hS : Sep w0 B w (own 3 (.slice A3 r6.length c3) (vI r6) :: own 3 (.slice A1 r3.1.length c1) (vI r3.1) :: fs) := hS
                refine at_run 3 [⟨false, [((r3.2 != 0), false)], callFunc 12 #[.slice A1 r3.1.length c1, .slice A3 r6.length c3], .bool r7⟩] [some (.bool r7), none, none] [0, 1, 2, 13, 14, 15, 159] [pl 0 (.int .i64 w1), pl 1 (.int .i64 h1), pl 2 (.int .i64 from1), pl 13 (.int .i64 r2.1), pl 14 (.int .i64 r2.2.1), pl 15 (.int .i64 r2.2.2), pl 159 (.bool ((r3.2 != 0) || (!r7)))] hF hS (by kernel_rfl) (by kernel_rfl) ?_ (fun a w hF hS => ?_)
                · exact obs_cons (ob_call Tryd.func12 (by kernel_rfl) rfl (fun hy _ hS => gameroomlaw_sameInts_w (ite_some hr7 (by rw [show (r3.2 != 0) = false from hy ((r3.2 != 0), false) (by simp)]; try rfl)) hS (fun _ hS => (hS.at_ 1 rfl).rd) ((hS.at_ 1 rfl).cap1) rfl (fun _ hS => (hS.at_ 0 rfl).rd) ((hS.at_ 0 rfl).cap1) rfl)) <| obs_nil
                refine at_end [0, 1, 2, 13, 14, 15, 159] [pl 0 (.int .i64 w1), pl 1 (.int .i64 h1), pl 2 (.int .i64 from1), pl 13 (.int .i64 r2.1), pl 14 (.int .i64 r2.2.1), pl 15 (.int .i64 r2.2.2), pl 159 (.bool ((r3.2 != 0) || (!r7)))] hF rfl (by kernel_rfl) (fun hF => ?_)
                refine then_n ?_
                have hS := hS.pickN 2 [] (by decide)
                exact ⟨((r3.2 != 0) || (!r7)), hF.weak [0, 1, 2, 13, 14, 15, 159] (by kernel_rfl), hS, hm⟩
        · refine reg [] [] [0, 1, 2, 13, 14, 15, 16, 17, 129] [pl 0 (.int .i64 w1), pl 1 (.int .i64 h1), pl 2 (.int .i64 from1), pl 13 (.int .i64 r2.1), pl 14 (.int .i64 r2.2.1), pl 15 (.int .i64 r2.2.2), pl 16 (.slice A1 r3.1.length c1), pl 17 (.int .i64 r3.2), pl 129 (.bool (!((decide ((0 : Int) ≤ from1)) && (decide (from1 < (w64 (w1 * h1)))))))] hF hS Fol (by kernel_rfl) (by kernel_rfl) (by kernel_rfl) ?_ (fun a w hF hS => ?_)
          · exact obs_nil
          refine cond_ev (t := 129) (b := !((decide ((0 : Int) ≤ from1)) && (decide (from1 < (w64 (w1 * h1)))))) hF (by kernel_rfl) (fun hb => ?_) (fun hb => ?_)
          · replace hm := if_t hm hb
            refine reg [] [] [10] [pl 10 (.bool (((((r2.2.2 == 5) && (r3.2 == 5)) && (r2.1 == 0)) && (r2.2.1 == 0)) && ((r3.1.length : Int) == 0)))] hF hS Fol (by kernel_rfl) (by kernel_rfl) (by kernel_rfl) ?_ (fun a w hF hS => ?_)
            · exact obs_nil
            refine wpIn_ret ?_
            refine then_r ?_
            have hS := hS.pickN 1 [] (by decide)
            have hm : some (((((r2.2.2 == 5) && (r3.2 == 5)) && (r2.1 == 0)) && (r2.2.1 == 0)) && ((r3.1.length : Int) == 0)) = some r := hm
            obtain rfl := Option.some.inj hm
            exact retV (rs := [.tmp 10]) (vs := [.bool (((((r2.2.2 == 5) && (r3.2 == 5)) && (r2.1 == 0)) && (r2.2.1 == 0)) && ((r3.1.length : Int) == 0))]) hF rfl (rv_t (by kernel_rfl) <| rv_nil) rfl ⟨rfl, hS⟩
          · replace hm := if_f hm hb
            refine wpIn_skip ?_
            refine then_n ?_
            exact ⟨hF.weak [0, 1, 2, 13, 14, 15, 16, 17] (by kernel_rfl), hS, hm⟩
      · refine reg [] [] [0, 1, 2, 3, 4, 11, 12, 13, 14, 15, 16, 17, 18, 19, 106] [pl 0 (.int .i64 w1), pl 1 (.int .i64 h1), pl 2 (.int .i64 from1), pl 3 (.int .i64 to1), pl 4 (.int .i64 steps1), pl 11 (.int .i64 r1.1), pl 12 (.int .i64 r1.2), pl 13 (.int .i64 r2.1), pl 14 (.int .i64 r2.2.1), pl 15 (.int .i64 r2.2.2), pl 16 (.slice A1 r3.1.length c1), pl 17 (.int .i64 r3.2), pl 18 (.bool ((decide ((0 : Int) ≤ from1)) && (decide (from1 < (w64 (w1 * h1)))))), pl 19 (.int .i64 no1), pl 106 (.bool (no1 != 0))] hF hS Fol (by kernel_rfl) (by kernel_rfl) (by kernel_rfl) ?_ (fun a w hF hS => ?_)
        · exact obs_nil
        refine cond_ev (t := 106) (b := (no1 != 0)) hF (by kernel_rfl) (fun hb => ?_) (fun hb => ?_)
        · replace hm := if_t hm hb
          refine reg [] [] [0, 1, 2, 13, 14, 15, 16, 17, 18, 113] [pl 0 (.int .i64 w1), pl 1 (.int .i64 h1), pl 2 (.int .i64 from1), pl 13 (.int .i64 r2.1), pl 14 (.int .i64 r2.2.1), pl 15 (.int .i64 r2.2.2), pl 16 (.slice A1 r3.1.length c1), pl 17 (.int .i64 r3.2), pl 18 (.bool ((decide ((0 : Int) ≤ from1)) && (decide (from1 < (w64 (w1 * h1)))))), pl 113 (.bool ((r1.2 != no1) || (r1.1 != 0)))] hF hS Fol (by kernel_rfl) (by kernel_rfl) (by kernel_rfl) ?_ (fun a w hF hS => ?_)
          · exact obs_nil
          refine cond_ev (t := 113) (b := (r1.2 != no1) || (r1.1 != 0)) hF (by kernel_rfl) (fun hb => ?_) (fun hb => ?_)
          · replace hm := if_t hm hb
            refine reg [] [] [10] [pl 10 (.bool false)] hF hS Fol (by kernel_rfl) (by kernel_rfl) (by kernel_rfl) ?_ (fun a w hF hS => ?_)
            · exact obs_nil
            refine wpIn_ret ?_
            refine then_r ?_
            have hS := hS.pickN 1 [] (by decide)
            have hm : some false = some r := hm
            obtain rfl := Option.some.inj hm
            exact retV (rs := [.tmp 10]) (vs := [.bool false]) hF rfl (rv_t (by kernel_rfl) <| rv_nil) rfl ⟨rfl, hS⟩
          · replace hm := if_f hm hb
            refine wpIn_skip ?_
            refine then_n ?_
            exact ⟨hF.weak [0, 1, 2, 13, 14, 15, 16, 17, 18] (by kernel_rfl), hS, hm⟩
        · replace hm := if_f hm hb
          refine seq_cut (fun a w => ∃ (z1 : Bool), Fr 194 [pl 0 (.int .i64 w1), pl 1 (.int .i64 h1), pl 2 (.int .i64 from1), pl 13 (.int .i64 r2.1), pl 14 (.int .i64 r2.2.1), pl 15 (.int .i64 r2.2.2), pl 16 (.slice A1 r3.1.length c1), pl 17 (.int .i64 r3.2), pl 18 (.bool ((decide ((0 : Int) ≤ from1)) && (decide (from1 < (w64 (w1 * h1)))))), pl 127 (.bool z1)] a ∧ Sep w0 B w (own 3 (.slice A1 r3.1.length c1) (vI r3.1) :: fs) ∧ ((gameroomlaw_TourCounts_J4 w1 h1 from1 r2 r3) z1).bind some = some r) ?_ ?_
          · rintro a w ⟨z1, hF, hS, hm⟩
            unfold gameroomlaw_TourCounts_J4 at hm
            refine cond_ev (t := 127) (b := z1) hF (by kernel_rfl) (fun hb => ?_) (fun hb => ?_)
            · replace hm := if_t hm hb
              refine reg [] [] [10] [pl 10 (.bool false)] hF hS Fol (by kernel_rfl) (by kernel_rfl) (by kernel_rfl) ?_ (fun a w hF hS => ?_)
              · exact obs_nil
              refine wpIn_ret ?_
              refine then_r ?_
              have hS := hS.pickN 1 [] (by decide)
              have hm : some false = some r := hm
              obtain rfl := Option.some.inj hm
              exact retV (rs := [.tmp 10]) (vs := [.bool false]) hF rfl (rv_t (by kernel_rfl) <| rv_nil) rfl ⟨rfl, hS⟩
            · replace hm := if_f hm hb
              refine wpIn_skip ?_
              refine then_n ?_
              exact ⟨hF.weak [0, 1, 2, 13, 14, 15, 16, 17, 18] (by kernel_rfl), hS, hm⟩
          · refine oneR ?_
            refine at_run 8 [] [] [0, 1, 2, 3, 13, 14, 15, 16, 17, 18, 116, 117, 118, 119, 120, 121] [pl 0 (.int .i64 w1), pl 1 (.int .i64 h1), pl 2 (.int .i64 from1), pl 3 (.int .i64 to1), pl 13 (.int .i64 r2.1), pl 14 (.int .i64 r2.2.1), pl 15 (.int .i64 r2.2.2), pl 16 (.slice A1 r3.1.length c1), pl 17 (.int .i64 r3.2), pl 18 (.bool ((decide ((0 : Int) ≤ from1)) && (decide (from1 < (w64 (w1 * h1)))))), pl 116 (.bool (r1.2 != 0)), ⟨117, [(116, false)], .int .i64 r1.1⟩, ⟨118, [(116, false)], .int .i64 w1⟩, ⟨119, [(116, false)], .int .i64 h1⟩, ⟨120, [(116, false)], .int .i64 from1⟩, ⟨121, [(116, false)], .int .i64 steps1⟩] hF hS (by kernel_rfl) (by kernel_rfl) ?_ (fun a w hF hS => ?_)
            · exact obs_nil
            rcases Bool.eq_false_or_eq_true (r1.2 != 0) with hg1 | hg1
            · replace hm := if_t hm hg1
              obtain ⟨hp1, hm⟩ := asrt_b hm
              refine at_gskip (d := 122) (v := .slice none 0 0) (hs := [((r1.2 != 0), false)]) (ctx := [(116, false)]) hF (by kernel_rfl) (by kernel_rfl) (fun h => absurd (h ((r1.2 != 0), false) (by simp)) (by simp [hg1])) (fun a hF => ?_)
              refine at_run 5 [⟨true, [((r1.2 != 0), false)], vS (Instr.indexAt 22 (.slice none 0 0) (.int .i64 to1)), .pointer (some (sAddr (none : Option Addr) to1))⟩, ⟨false, [((r1.2 != 0), false)], vS (Instr.loadAt 3 (.pointer (some (sAddr (none : Option Addr) to1)))), .int .i64 (geti ([] : List Int) to1)⟩] [none, some (.pointer (some (sAddr (none : Option Addr) to1))), some (.int .i64 (geti ([] : List Int) to1)), none, none] [0, 1, 2, 13, 14, 15, 16, 17, 18, 127] [pl 0 (.int .i64 w1), pl 1 (.int .i64 h1), pl 2 (.int .i64 from1), pl 13 (.int .i64 r2.1), pl 14 (.int .i64 r2.2.1), pl 15 (.int .i64 r2.2.2), pl 16 (.slice A1 r3.1.length c1), pl 17 (.int .i64 r3.2), pl 18 (.bool ((decide ((0 : Int) ≤ from1)) && (decide (from1 < (w64 (w1 * h1)))))), pl 127 (.bool ((r1.2 != 0) || (r1.1 != (geti ([] : List Int) to1))))] hF hS (by kernel_rfl) (by kernel_rfl) ?_ (fun a w hF hS => ?_)
              · exact obs_cons (Ob.vac (fun h => absurd (h ((r1.2 != 0), false) (by simp)) (by simp [hg1]))) <| obs_cons (Ob.vac (fun h => absurd (h ((r1.2 != 0), false) (by simp)) (by simp [hg1]))) <| obs_nil
              refine at_end [0, 1, 2, 13, 14, 15, 16, 17, 18, 127] [pl 0 (.int .i64 w1), pl 1 (.int .i64 h1), pl 2 (.int .i64 from1), pl 13 (.int .i64 r2.1), pl 14 (.int .i64 r2.2.1), pl 15 (.int .i64 r2.2.2), pl 16 (.slice A1 r3.1.length c1), pl 17 (.int .i64 r3.2), pl 18 (.bool ((decide ((0 : Int) ≤ from1)) && (decide (from1 < (w64 (w1 * h1)))))), pl 127 (.bool ((r1.2 != 0) || (r1.1 != (geti ([] : List Int) to1))))] hF rfl (by kernel_rfl) (fun hF => ?_)
              refine then_n ?_
              exact ⟨((r1.2 != 0) || (r1.1 != (geti ([] : List Int) to1))), hF.weak [0, 1, 2, 13, 14, 15, 16, 17, 18, 127] (by kernel_rfl), hS, hm⟩
            · replace hm := if_f hm hg1
              obtain ⟨r5, hr5, hm⟩ := call_b hm
              obtain ⟨hp2, hm⟩ := asrt_b hm
              refine at_gcall (hs := [((r1.2 != 0), false)]) (fun y hy => by simp only [List.mem_cons, List.not_mem_nil, or_false] at hy; subst hy; first | exact hg1) (f := 18) (args := #[.int .i64 w1, .int .i64 h1, .int .i64 from1, .int .i64 steps1]) (d := 122) hF (by kernel_rfl) (by kernel_rfl) Tryd.func18 (by kernel_rfl) rfl (gameroomref_KnightWalks_w hr5 hS ) (fun v a w hR hF => ?_)
              clear hS
              obtain ⟨A2, c2, rfl, hS⟩ := hR
              have hS : Sep w0 B w (own 3 (.slice A2 r5.length c2) (vI r5) :: own 3 (.slice A1 r3.1.length c1) (vI r3.1) :: fs) := hS
              refine at_run 5 [⟨true, [((r1.2 != 0), false)], vS (Instr.indexAt 22 (.slice A2 r5.length c2) (.int .i64 to1)), .pointer (some (sAddr A2 to1))⟩, ⟨false, [((r1.2 != 0), false)], vS (Instr.loadAt 3 (.pointer (some (sAddr A2 to1)))), .int .i64 (geti r5 to1)⟩] [none, some (.pointer (some (sAddr A2 to1))), some (.int .i64 (geti r5 to1)), none, none] [0, 1, 2, 13, 14, 15, 16, 17, 18, 127] [pl 0 (.int .i64 w1), pl 1 (.int .i64 h1), pl 2 (.int .i64 from1), pl 13 (.int .i64 r2.1), pl 14 (.int .i64 r2.2.1), pl 15 (.int .i64 r2.2.2), pl 16 (.slice A1 r3.1.length c1), pl 17 (.int .i64 r3.2), pl 18 (.bool ((decide ((0 : Int) ≤ from1)) && (decide (from1 < (w64 (w1 * h1)))))), pl 127 (.bool ((r1.2 != 0) || (r1.1 != (geti r5 to1))))] hF hS (by kernel_rfl) (by kernel_rfl) ?_ (fun a w hF hS => ?_)
              · exact obs_cons (ob_ix1 (f := (Value.int .i64)) (m := r5) Und22 hi3 hs3 (hS.at_ 0 rfl).rd rfl (fun hy => hp2 (hy ((r1.2 != 0), false) (by simp)))) <| obs_cons (ob_get1 (n := r5.length) (m := r5) (Value.int .i64) (0 : Int) Agg3 (fun _ hS => ⟨_, (hS.at_ 0 rfl).rd⟩) (fun _ hS => rfl) (fun hy => hp2 hg1)) <| obs_nil
              refine at_end [0, 1, 2, 13, 14, 15, 16, 17, 18, 127] [pl 0 (.int .i64 w1), pl 1 (.int .i64 h1), pl 2 (.int .i64 from1), pl 13 (.int .i64 r2.1), pl 14 (.int .i64 r2.2.1), pl 15 (.int .i64 r2.2.2), pl 16 (.slice A1 r3.1.length c1), pl 17 (.int .i64 r3.2), pl 18 (.bool ((decide ((0 : Int) ≤ from1)) && (decide (from1 < (w64 (w1 * h1)))))), pl 127 (.bool ((r1.2 != 0) || (r1.1 != (geti r5 to1))))] hF rfl (by kernel_rfl) (fun hF => ?_)
              refine then_n ?_
              have hS := hS.pickN 2 [1] (by decide)
              exact ⟨((r1.2 != 0) || (r1.1 != (geti r5 to1))), hF.weak [0, 1, 2, 13, 14, 15, 16, 17, 18, 127] (by kernel_rfl), hS, hm⟩
    · refine reg [] [] [0, 1, 2, 3, 4, 11, 12, 13, 14, 15, 16, 17, 18, 19, 98] [pl 0 (.int .i64 w1), pl 1 (.int .i64 h1), pl 2 (.int .i64 from1), pl 3 (.int .i64 to1), pl 4 (.int .i64 steps1), pl 11 (.int .i64 r1.1), pl 12 (.int .i64 r1.2), pl 13 (.int .i64 r2.1), pl 14 (.int .i64 r2.2.1), pl 15 (.int .i64 r2.2.2), pl 16 (.slice A1 r3.1.length c1), pl 17 (.int .i64 r3.2), pl 18 (.bool ((decide ((0 : Int) ≤ from1)) && (decide (from1 < (w64 (w1 * h1)))))), pl 19 (.int .i64 0), pl 98 (.bool (((!((decide ((0 : Int) ≤ from1)) && (decide (from1 < (w64 (w1 * h1)))))) || (decide (to1 < 0))) || (decide ((w64 (w1 * h1)) ≤ to1))))] hF hS Fol (by kernel_rfl) (by kernel_rfl) (by kernel_rfl) ?_ (fun a w hF hS => ?_)
      · exact obs_nil
      refine cond_ev (t := 98) (b := ((!((decide ((0 : Int) ≤ from1)) && (decide (from1 < (w64 (w1 * h1)))))) || (decide (to1 < 0))) || (decide ((w64 (w1 * h1)) ≤ to1))) hF (by kernel_rfl) (fun hb => ?_) (fun hb => ?_)
      · replace hm := if_t hm hb
        refine reg1 [] [] [0, 1, 2, 3, 4, 11, 12, 13, 14, 15, 16, 17, 18, 19] [pl 0 (.int .i64 w1), pl 1 (.int .i64 h1), pl 2 (.int .i64 from1), pl 3 (.int .i64 to1), pl 4 (.int .i64 steps1), pl 11 (.int .i64 r1.1), pl 12 (.int .i64 r1.2), pl 13 (.int .i64 r2.1), pl 14 (.int .i64 r2.2.1), pl 15 (.int .i64 r2.2.2), pl 16 (.slice A1 r3.1.length c1), pl 17 (.int .i64 r3.2), pl 18 (.bool ((decide ((0 : Int) ≤ from1)) && (decide (from1 < (w64 (w1 * h1)))))), pl 19 (.int .i64 5)] hF hS Fol (by kernel_rfl) (by kernel_rfl) (by kernel_rfl) ?_ (fun a w hF hS => ?_)
        · exact obs_nil
        refine then_n ?_
        exact ⟨5, hF.weak [0, 1, 2, 3, 4, 11, 12, 13, 14, 15, 16, 17, 18, 19] (by kernel_rfl), hS, hm⟩
      · replace hm := if_f hm hb
        refine reg [] [] [0, 1, 2, 3, 4, 11, 12, 13, 14, 15, 16, 17, 18, 19, 104] [pl 0 (.int .i64 w1), pl 1 (.int .i64 h1), pl 2 (.int .i64 from1), pl 3 (.int .i64 to1), pl 4 (.int .i64 steps1), pl 11 (.int .i64 r1.1), pl 12 (.int .i64 r1.2), pl 13 (.int .i64 r2.1), pl 14 (.int .i64 r2.2.1), pl 15 (.int .i64 r2.2.2), pl 16 (.slice A1 r3.1.length c1), pl 17 (.int .i64 r3.2), pl 18 (.bool ((decide ((0 : Int) ≤ from1)) && (decide (from1 < (w64 (w1 * h1)))))), pl 19 (.int .i64 0), pl 104 (.bool ((decide (steps1 < 0)) || (decide ((12 : Int) < steps1))))] hF hS Fol (by kernel_rfl) (by kernel_rfl) (by kernel_rfl) ?_ (fun a w hF hS => ?_)
        · exact obs_nil
        refine cond_ev (t := 104) (b := (decide (steps1 < 0)) || (decide ((12 : Int) < steps1))) hF (by kernel_rfl) (fun hb => ?_) (fun hb => ?_)
        · replace hm := if_t hm hb
          refine reg1 [] [] [0, 1, 2, 3, 4, 11, 12, 13, 14, 15, 16, 17, 18, 19] [pl 0 (.int .i64 w1), pl 1 (.int .i64 h1), pl 2 (.int .i64 from1), pl 3 (.int .i64 to1), pl 4 (.int .i64 steps1), pl 11 (.int .i64 r1.1), pl 12 (.int .i64 r1.2), pl 13 (.int .i64 r2.1), pl 14 (.int .i64 r2.2.1), pl 15 (.int .i64 r2.2.2), pl 16 (.slice A1 r3.1.length c1), pl 17 (.int .i64 r3.2), pl 18 (.bool ((decide ((0 : Int) ≤ from1)) && (decide (from1 < (w64 (w1 * h1)))))), pl 19 (.int .i64 11)] hF hS Fol (by kernel_rfl) (by kernel_rfl) (by kernel_rfl) ?_ (fun a w hF hS => ?_)
          · exact obs_nil
          refine then_n ?_
          exact ⟨11, hF.weak [0, 1, 2, 3, 4, 11, 12, 13, 14, 15, 16, 17, 18, 19] (by kernel_rfl), hS, hm⟩
        · replace hm := if_f hm hb
          refine wpIn_skip ?_
          refine then_n ?_
          exact ⟨0, hF.weak [0, 1, 2, 3, 4, 11, 12, 13, 14, 15, 16, 17, 18, 19] (by kernel_rfl), hS, hm⟩
  · obtain ⟨r4, hr4, hm⟩ := call_b hm
    refine reg [⟨false, [], callFunc 10 #[.int .i64 w1, .int .i64 h1], .bool r4⟩] [none, none, some (.bool r4), none] [0, 1, 2, 3, 4, 11, 12, 13, 14, 15, 16, 17, 49] [pl 0 (.int .i64 w1), pl 1 (.int .i64 h1), pl 2 (.int .i64 from1), pl 3 (.int .i64 to1), pl 4 (.int .i64 steps1), pl 11 (.int .i64 r1.1), pl 12 (.int .i64 r1.2), pl 13 (.int .i64 r2.1), pl 14 (.int .i64 r2.2.1), pl 15 (.int .i64 r2.2.2), pl 16 (.slice A1 r3.1.length c1), pl 17 (.int .i64 r3.2), pl 49 (.bool (!r4))] hF hS Fol (by kernel_rfl) (by kernel_rfl) (by kernel_rfl) ?_ (fun a w hF hS => ?_)
    · exact obs_cons (ob_call Tryd.func10 (by kernel_rfl) rfl (fun _ _ hS => gameroomlaw_board_w hr4 hS )) <| obs_nil
    refine cond_ev (t := 49) (b := !r4) hF (by kernel_rfl) (fun hb => ?_) (fun hb => ?_)
    · replace hm := if_t hm hb
      refine reg [] [] [10] [pl 10 (.bool (((((((r1.2 == 3) && (r2.2.2 == 3)) && (r3.2 == 3)) && (r1.1 == 0)) && (r2.1 == 0)) && (r2.2.1 == 0)) && ((r3.1.length : Int) == 0)))] hF hS Fol (by kernel_rfl) (by kernel_rfl) (by kernel_rfl) ?_ (fun a w hF hS => ?_)
      · exact obs_nil
      refine wpIn_ret ?_
      refine then_r ?_
      have hS := hS.pickN 1 [] (by decide)
      have hm : some (((((((r1.2 == 3) && (r2.2.2 == 3)) && (r3.2 == 3)) && (r1.1 == 0)) && (r2.1 == 0)) && (r2.2.1 == 0)) && ((r3.1.length : Int) == 0)) = some r := hm
      obtain rfl := Option.some.inj hm
      exact retV (rs := [.tmp 10]) (vs := [.bool (((((((r1.2 == 3) && (r2.2.2 == 3)) && (r3.2 == 3)) && (r1.1 == 0)) && (r2.1 == 0)) && (r2.2.1 == 0)) && ((r3.1.length : Int) == 0))]) hF rfl (rv_t (by kernel_rfl) <| rv_nil) rfl ⟨rfl, hS⟩
    · replace hm := if_f hm hb
      refine wpIn_skip ?_
      refine then_n ?_
      exact ⟨hF.weak [0, 1, 2, 3, 4, 11, 12, 13, 14, 15, 16, 17] (by kernel_rfl), hS, hm⟩

end Go.Proofs.YtlpaklmfgldkoaaDoor
