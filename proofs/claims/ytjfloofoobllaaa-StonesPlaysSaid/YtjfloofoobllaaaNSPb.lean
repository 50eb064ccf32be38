/-
  Models and walks, printed by our own program (wip/gen).
-/
import Derived.Test.YtjfloofoobllaaaFB
import Derived.Test.YtjfloofoobllaaaFE
import Derived.Test.YtjfloofoobllaaaLibPl
import Derived.Test.YtjfloofoobllaaaLibSu
import Derived.Test.YtjfloofoobllaaaFM
import Derived.Test.YtjfloofoobllaaaLibSt
import Derived.Test.YtjfloofoobllaaaSH
import Derived.Test.YtjfloofoobllaaaNSPa
namespace Go.Proofs.Ytjfloofoobllaaa
open Go Go.GL Go.RowKit

noncomputable def stones_Play_m  (g1 : Int) (g2 : Int) (g3 : List Int) (moves1 : List Int) : Option (Int × Int × List Int × List Int × Int × Int) :=
  (rows_May_m g1 g2 g3).bind fun r1 => if (!r1) then (stones_Play_J2) else (if (decide ((200 : Int) < (moves1.length : Int))) then (stones_Play_J3) else ((stones_Play_J1 g1 g2 g3 moves1)))

set_option maxRecDepth 100000 in
set_option maxHeartbeats 4000000 in
theorem stones_Play_w  {g1 : Int} {g2 : Int} {A1 : Option Addr} {c1 : Nat} {n1 : Nat} {g3 : List Int} {A2 : Option Addr} {c2 : Nat} {n2 : Nat} {moves1 : List Int} {r : (Int × Int × List Int × List Int × Int × Int)} {w0 w : World} {B : Nat} {fs : List HP} (hm : stones_Play_m g1 g2 g3 moves1 = some r) (hS : Sep w0 B w (fs)) (hr_g3 : RdF w0 B fs A1 (vI g3)) (_hc_g3 : g3.length ≤ c1) (_hn_g3 : n1 = g3.length) (hr_moves1 : RdF w0 B fs A2 (vI moves1)) (_hc_moves1 : moves1.length ≤ c2) (_hn_moves1 : n2 = moves1.length) :
    Calls Try.prog 8 #[.agg #[.int .i64 g1, .int .i64 g2, .slice A1 n1 c1], .slice A2 n2 c2] w fun e w' => ∃ v, e = .returned v ∧ ∃ (A8 : Option Addr) (c8 : Nat), v = .tuple #[.agg #[.int .i64 r.1, .int .i64 r.2.1, .slice A8 r.2.2.1.length c8], .agg (List.toArray (([] : List Value) ++ (arr1 (Value.int .i64) (0 : Int) 2 r.2.2.2.1 ++ ([] : List Value)))), .int .i64 r.2.2.2.2.1, .int .i64 r.2.2.2.2.2] ∧ Sep w0 B w' (own 3 (.slice A8 r.2.2.1.length c8) (vI r.2.2.1) :: fs) := by
  obtain ⟨i3, hi3, hz3, hs3, hb3⟩ := info_parts Info3
  obtain ⟨i22, hi22, hz22, hs22, hb22⟩ := info_parts Info22
  obtain rfl := _hn_g3
  obtain rfl := _hn_moves1
  unfold stones_Play_m at hm
  replace hm := start_b hm
  refine enter (l := [.agg #[.int .i64 g1, .int .i64 g2, .slice A1 g3.length c1], .slice A2 moves1.length c2]) (n := 89) Try.func8 rfl rfl (by simp) (fun a hF => ?_)
  refine seqR ?_
  refine at_do (d := 2) (s := vS (Instr.box 24 (.agg #[.int .i64 g1, .int .i64 g2, .slice A1 g3.length c1]))) (v := .pointer (some ⟨w.heap.size, 0, none⟩)) (w' := w.alloc (.cells #[.int .i64 g1, .int .i64 g2, .slice A1 g3.length c1] 24)) hF (by kernel_rfl) (by kernel_rfl) (by kernel_rfl) (fun a hF => ?_)
  have hS : Sep w0 B (w.alloc (.cells #[.int .i64 g1, .int .i64 g2, .slice A1 g3.length c1] 24)) (blk w.heap.size 24 #[.int .i64 g1, .int .i64 g2, .slice A1 g3.length c1] :: (fs)) := hS.box 24 #[.int .i64 g1, .int .i64 g2, .slice A1 g3.length c1]
  generalize w.heap.size = g4 at hF hS
  generalize w.alloc (.cells #[.int .i64 g1, .int .i64 g2, .slice A1 g3.length c1] 24) = w at hS ⊢
  refine at_do (d := 4) (s := vS (Instr.alloc 24 true (.tuple #[]))) (v := .pointer (some ⟨w.heap.size, 0, none⟩)) (w' := w.alloc (.cells #[.int .i64 0, .int .i64 0, .slice none 0 0] 24)) hF (by kernel_rfl) (by kernel_rfl) (by kernel_rfl) (fun a hF => ?_)
  have hS : Sep w0 B (w.alloc (.cells #[.int .i64 0, .int .i64 0, .slice none 0 0] 24)) (blk w.heap.size 24 #[.int .i64 0, .int .i64 0, .slice none 0 0] :: (blk g4 24 #[.int .i64 g1, .int .i64 g2, .slice A1 g3.length c1] :: fs)) := hS.box 24 #[.int .i64 0, .int .i64 0, .slice none 0 0]
  generalize w.heap.size = g5 at hF hS
  generalize w.alloc (.cells #[.int .i64 0, .int .i64 0, .slice none 0 0] 24) = w at hS ⊢
  refine at_do (d := 5) (s := vS (Instr.alloc 25 true (.tuple #[]))) (v := .pointer (some ⟨w.heap.size, 0, none⟩)) (w' := w.alloc (.cells (List.toArray (([] : List Value) ++ (arr1 (Value.int .i64) (0 : Int) 2 (List.replicate 2 (0 : Int)) ++ ([] : List Value)))) 25)) hF (by kernel_rfl) (by kernel_rfl) (by kernel_rfl) (fun a hF => ?_)
  have hS : Sep w0 B (w.alloc (.cells (List.toArray (([] : List Value) ++ (arr1 (Value.int .i64) (0 : Int) 2 (List.replicate 2 (0 : Int)) ++ ([] : List Value)))) 25)) (blk w.heap.size 25 (List.toArray (([] : List Value) ++ (arr1 (Value.int .i64) (0 : Int) 2 (List.replicate 2 (0 : Int)) ++ ([] : List Value)))) :: (blk g5 24 #[.int .i64 0, .int .i64 0, .slice none 0 0] :: blk g4 24 #[.int .i64 g1, .int .i64 g2, .slice A1 g3.length c1] :: fs)) := hS.box 25 (List.toArray (([] : List Value) ++ (arr1 (Value.int .i64) (0 : Int) 2 (List.replicate 2 (0 : Int)) ++ ([] : List Value))))
  generalize w.heap.size = g6 at hF hS
  generalize w.alloc (.cells (List.toArray (([] : List Value) ++ (arr1 (Value.int .i64) (0 : Int) 2 (List.replicate 2 (0 : Int)) ++ ([] : List Value)))) 25) = w at hS ⊢
  refine at_run 2 [] [] [1, 2, 4, 5] [pl 1 (.slice A2 moves1.length c2), pl 2 (.pointer (some ⟨g4, 0, none⟩)), pl 4 (.pointer (some ⟨g5, 0, none⟩)), pl 5 (.pointer (some ⟨g6, 0, none⟩))] hF hS (by kernel_rfl) (by kernel_rfl) ?_ (fun a w hF hS => ?_)
  · exact obs_nil
  refine at_end [1, 2, 4, 5] [pl 1 (.slice A2 moves1.length c2), pl 2 (.pointer (some ⟨g4, 0, none⟩)), pl 4 (.pointer (some ⟨g5, 0, none⟩)), pl 5 (.pointer (some ⟨g6, 0, none⟩))] hF rfl (by kernel_rfl) (fun hF => ?_)
  refine then_n ?_
  refine seqR ?_
  refine at_do (d := 8) (s := vS (Instr.alloc 25 true (.tuple #[]))) (v := .pointer (some ⟨w.heap.size, 0, none⟩)) (w' := w.alloc (.cells (List.toArray (([] : List Value) ++ (arr1 (Value.int .i64) (0 : Int) 2 (List.replicate 2 (0 : Int)) ++ ([] : List Value)))) 25)) hF (by kernel_rfl) (by kernel_rfl) (by kernel_rfl) (fun a hF => ?_)
  have hS : Sep w0 B (w.alloc (.cells (List.toArray (([] : List Value) ++ (arr1 (Value.int .i64) (0 : Int) 2 (List.replicate 2 (0 : Int)) ++ ([] : List Value)))) 25)) (blk w.heap.size 25 (List.toArray (([] : List Value) ++ (arr1 (Value.int .i64) (0 : Int) 2 (List.replicate 2 (0 : Int)) ++ ([] : List Value)))) :: (blk g6 25 (List.toArray (([] : List Value) ++ (arr1 (Value.int .i64) (0 : Int) 2 (List.replicate 2 (0 : Int)) ++ ([] : List Value)))) :: blk g5 24 #[.int .i64 0, .int .i64 0, .slice none 0 0] :: blk g4 24 #[.int .i64 g1, .int .i64 g2, .slice A1 g3.length c1] :: fs)) := hS.box 25 (List.toArray (([] : List Value) ++ (arr1 (Value.int .i64) (0 : Int) 2 (List.replicate 2 (0 : Int)) ++ ([] : List Value))))
  generalize w.heap.size = g7 at hF hS
  generalize w.alloc (.cells (List.toArray (([] : List Value) ++ (arr1 (Value.int .i64) (0 : Int) 2 (List.replicate 2 (0 : Int)) ++ ([] : List Value)))) 25) = w at hS ⊢
  refine at_end [1, 2, 4, 5, 8] [pl 1 (.slice A2 moves1.length c2), pl 2 (.pointer (some ⟨g4, 0, none⟩)), pl 4 (.pointer (some ⟨g5, 0, none⟩)), pl 5 (.pointer (some ⟨g6, 0, none⟩)), pl 8 (.pointer (some ⟨g7, 0, none⟩))] hF rfl (by kernel_rfl) (fun hF => ?_)
  refine then_n ?_
  refine seq_cut (fun a w => Fr 89 [pl 1 (.slice A2 moves1.length c2), pl 2 (.pointer (some ⟨g4, 0, none⟩)), pl 4 (.pointer (some ⟨g5, 0, none⟩)), pl 5 (.pointer (some ⟨g6, 0, none⟩)), pl 8 (.pointer (some ⟨g7, 0, none⟩))] a ∧ Sep w0 B w (blk g4 24 #[.int .i64 g1, .int .i64 g2, .slice A1 g3.length c1] :: blk g5 24 #[.int .i64 0, .int .i64 0, .slice none 0 0] :: blk g6 25 (List.toArray (([] : List Value) ++ (arr1 (Value.int .i64) (0 : Int) 2 (List.replicate 2 (0 : Int)) ++ ([] : List Value)))) :: blk g7 25 (List.toArray (([] : List Value) ++ (arr1 (Value.int .i64) (0 : Int) 2 (List.replicate 2 (0 : Int)) ++ ([] : List Value)))) :: fs) ∧ ((stones_Play_J1 g1 g2 g3 moves1)).bind some = some r) ?_ ?_
  · rintro a w ⟨hF, hS, hm⟩
    unfold stones_Play_J1 at hm
    refine seqR ?_
    obtain ⟨r2, hr2, hm⟩ := call_b hm
    refine at_run 2 [⟨false, [], vS (Instr.loadAt 22 (.pointer (some ⟨g4, 2, none⟩))), .slice A1 g3.length c1⟩] [none, some (.slice A1 g3.length c1)] [1, 2, 4, 5, 8, 29] [pl 1 (.slice A2 moves1.length c2), pl 2 (.pointer (some ⟨g4, 0, none⟩)), pl 4 (.pointer (some ⟨g5, 0, none⟩)), pl 5 (.pointer (some ⟨g6, 0, none⟩)), pl 8 (.pointer (some ⟨g7, 0, none⟩)), pl 29 (.slice A1 g3.length c1)] hF hS (by kernel_rfl) (by kernel_rfl) ?_ (fun a w hF hS => ?_)
    · exact obs_cons (ob_load Agg22 (fun _ _ hS => (hS.at_ 0 rfl).cell rfl)) <| obs_nil
    refine at_call (f := 39) (args := #[.slice A1 g3.length c1]) (d := 30) hF (by kernel_rfl) (by kernel_rfl) Try.func39 (by kernel_rfl) rfl (slices_Clone_w hr2 hS (fun _ hS => (hr_g3 _ (hS.dropN 4))) _hc_g3 rfl) (fun v a w hR hF => ?_)
    clear hS
    obtain ⟨A3, c3, rfl, hS⟩ := hR
    have hS : Sep w0 B w (own 3 (.slice A3 r2.length c3) (vI r2) :: blk g4 24 #[.int .i64 g1, .int .i64 g2, .slice A1 g3.length c1] :: blk g5 24 #[.int .i64 0, .int .i64 0, .slice none 0 0] :: blk g6 25 (List.toArray (([] : List Value) ++ (arr1 (Value.int .i64) (0 : Int) 2 (List.replicate 2 (0 : Int)) ++ ([] : List Value)))) :: blk g7 25 (List.toArray (([] : List Value) ++ (arr1 (Value.int .i64) (0 : Int) 2 (List.replicate 2 (0 : Int)) ++ ([] : List Value)))) :: fs) := hS
    refine at_run 1 [] [] [1, 2, 4, 5, 8, 30, 31] [pl 1 (.slice A2 moves1.length c2), pl 2 (.pointer (some ⟨g4, 0, none⟩)), pl 4 (.pointer (some ⟨g5, 0, none⟩)), pl 5 (.pointer (some ⟨g6, 0, none⟩)), pl 8 (.pointer (some ⟨g7, 0, none⟩)), pl 30 (.slice A3 r2.length c3), pl 31 (.pointer (some ⟨g4, 2, none⟩))] hF hS (by kernel_rfl) (by kernel_rfl) ?_ (fun a w hF hS => ?_)
    · exact obs_nil
    obtain ⟨w, hrun, hS⟩ := run_put (P := Try.prog) (t := 22) (u := .slice A3 r2.length c3) (i := 2) (hS.at_ 1 rfl) hi22 hs22 rfl (Nat.lt_of_lt_of_eq (Nat.lt_of_succ_le (Nat.le_of_ble_eq_true (by kernel_rfl))) rfl)
    refine at_skip hF (by kernel_rfl) hrun ?_
    have hS : Sep w0 B w (own 3 (.slice A3 r2.length c3) (vI r2) :: blk g4 24 #[.int .i64 g1, .int .i64 g2, .slice A3 r2.length c3] :: blk g5 24 #[.int .i64 0, .int .i64 0, .slice none 0 0] :: blk g6 25 (List.toArray (([] : List Value) ++ (arr1 (Value.int .i64) (0 : Int) 2 (List.replicate 2 (0 : Int)) ++ ([] : List Value)))) :: blk g7 25 (List.toArray (([] : List Value) ++ (arr1 (Value.int .i64) (0 : Int) 2 (List.replicate 2 (0 : Int)) ++ ([] : List Value)))) :: fs) := hS
    refine at_end [1, 2, 4, 5, 8] [pl 1 (.slice A2 moves1.length c2), pl 2 (.pointer (some ⟨g4, 0, none⟩)), pl 4 (.pointer (some ⟨g5, 0, none⟩)), pl 5 (.pointer (some ⟨g6, 0, none⟩)), pl 8 (.pointer (some ⟨g7, 0, none⟩))] hF rfl (by kernel_rfl) (fun hF => ?_)
    refine then_n ?_
    refine seqR ?_
    refine at_do (d := 32) (s := vS (Instr.makeMap 76 none)) (v := .map (some w.heap.size)) (w' := w.alloc (.map #[] 0)) hF (by kernel_rfl) (by kernel_rfl) (by kernel_rfl) (fun a hF => ?_)
    have hS : Sep w0 B (w.alloc (.map #[] 0)) (mapH kf9 (Value.int .i64) w.heap.size ([] : List (List UInt8 × Int)) :: (own 3 (.slice A3 r2.length c3) (vI r2) :: blk g4 24 #[.int .i64 g1, .int .i64 g2, .slice A3 r2.length c3] :: blk g5 24 #[.int .i64 0, .int .i64 0, .slice none 0 0] :: blk g6 25 (List.toArray (([] : List Value) ++ (arr1 (Value.int .i64) (0 : Int) 2 (List.replicate 2 (0 : Int)) ++ ([] : List Value)))) :: blk g7 25 (List.toArray (([] : List Value) ++ (arr1 (Value.int .i64) (0 : Int) 2 (List.replicate 2 (0 : Int)) ++ ([] : List Value)))) :: fs)) := hS.mapNew _ _
    generalize w.heap.size = g8 at hF hS
    generalize w.alloc (.map #[] 0) = w at hS ⊢
    refine at_run 1 [] [] [1, 2, 4, 5, 8, 9] [pl 1 (.slice A2 moves1.length c2), pl 2 (.pointer (some ⟨g4, 0, none⟩)), pl 4 (.pointer (some ⟨g5, 0, none⟩)), pl 5 (.pointer (some ⟨g6, 0, none⟩)), pl 8 (.pointer (some ⟨g7, 0, none⟩)), pl 9 (.map (some g8))] hF hS (by kernel_rfl) (by kernel_rfl) ?_ (fun a w hF hS => ?_)
    · exact obs_nil
    refine at_end [1, 2, 4, 5, 8, 9] [pl 1 (.slice A2 moves1.length c2), pl 2 (.pointer (some ⟨g4, 0, none⟩)), pl 4 (.pointer (some ⟨g5, 0, none⟩)), pl 5 (.pointer (some ⟨g6, 0, none⟩)), pl 8 (.pointer (some ⟨g7, 0, none⟩)), pl 9 (.map (some g8))] hF rfl (by kernel_rfl) (fun hF => ?_)
    refine then_n ?_
    refine seqR ?_
    obtain ⟨r3, hr3, hm⟩ := call_b hm
    refine at_run 2 [⟨false, [], vS (Instr.loadAt 24 (.pointer (some ⟨g4, 0, none⟩))), .agg #[.int .i64 g1, .int .i64 g2, .slice A3 r2.length c3]⟩] [none, some (.agg #[.int .i64 g1, .int .i64 g2, .slice A3 r2.length c3])] [1, 2, 4, 5, 8, 9, 33, 34] [pl 1 (.slice A2 moves1.length c2), pl 2 (.pointer (some ⟨g4, 0, none⟩)), pl 4 (.pointer (some ⟨g5, 0, none⟩)), pl 5 (.pointer (some ⟨g6, 0, none⟩)), pl 8 (.pointer (some ⟨g7, 0, none⟩)), pl 9 (.map (some g8)), pl 33 (.map (some g8)), pl 34 (.agg #[.int .i64 g1, .int .i64 g2, .slice A3 r2.length c3])] hF hS (by kernel_rfl) (by kernel_rfl) ?_ (fun a w hF hS => ?_)
    · exact obs_cons (ob_loadA (cs := #[.int .i64 g1, .int .i64 g2, .slice A3 r2.length c3]) (by kernel_rfl) (by kernel_rfl) (fun _ _ hS => (hS.at_ 2 rfl).cellsAt 0 (by rfl))) <| obs_nil
    refine at_call (f := 40) (args := #[.map (some g8), .agg #[.int .i64 g1, .int .i64 g2, .slice A3 r2.length c3]]) (d := 35) hF (by kernel_rfl) (by kernel_rfl) Try.func40 (by kernel_rfl) rfl (stones_seen_add_w hr3 hS (fun _ hS => (hS.at_ 0 rfl).rd) (((hS.dropN 1).at_ 0 rfl).cap1) rfl) (fun v a w hR hF => ?_)
    clear hS
    obtain ⟨rfl, hS⟩ := hR
    have hS : Sep w0 B w (mapH kf9 (Value.int .i64) g8 r3.2 :: own 3 (.slice A3 r2.length c3) (vI r2) :: blk g4 24 #[.int .i64 g1, .int .i64 g2, .slice A3 r2.length c3] :: blk g5 24 #[.int .i64 0, .int .i64 0, .slice none 0 0] :: blk g6 25 (List.toArray (([] : List Value) ++ (arr1 (Value.int .i64) (0 : Int) 2 (List.replicate 2 (0 : Int)) ++ ([] : List Value)))) :: blk g7 25 (List.toArray (([] : List Value) ++ (arr1 (Value.int .i64) (0 : Int) 2 (List.replicate 2 (0 : Int)) ++ ([] : List Value)))) :: fs) := hS
    refine at_end [1, 2, 4, 5, 8, 9] [pl 1 (.slice A2 moves1.length c2), pl 2 (.pointer (some ⟨g4, 0, none⟩)), pl 4 (.pointer (some ⟨g5, 0, none⟩)), pl 5 (.pointer (some ⟨g6, 0, none⟩)), pl 8 (.pointer (some ⟨g7, 0, none⟩)), pl 9 (.map (some g8))] hF rfl (by kernel_rfl) (fun hF => ?_)
    refine then_n ?_
    refine reg [] [] [1, 2, 4, 5, 8, 9, 10] [pl 1 (.slice A2 moves1.length c2), pl 2 (.pointer (some ⟨g4, 0, none⟩)), pl 4 (.pointer (some ⟨g5, 0, none⟩)), pl 5 (.pointer (some ⟨g6, 0, none⟩)), pl 8 (.pointer (some ⟨g7, 0, none⟩)), pl 9 (.map (some g8)), pl 10 (.int .i64 0)] hF hS Fol (by kernel_rfl) (by kernel_rfl) (by kernel_rfl) ?_ (fun a w hF hS => ?_)
    · exact obs_nil
    refine seq_cut (fun a w => ∃ (g12 : Int) (g13 : Int) (g14 : List Int) (taken2 : List Int) (A5 : Option Addr) (c5 : Nat), Fr 89 [pl 1 (.slice A2 moves1.length c2), pl 2 (.pointer (some ⟨g4, 0, none⟩)), pl 4 (.pointer (some ⟨g5, 0, none⟩)), pl 5 (.pointer (some ⟨g6, 0, none⟩)), pl 8 (.pointer (some ⟨g7, 0, none⟩))] a ∧ Sep w0 B w (blk g4 24 #[.int .i64 g12, .int .i64 g13, .slice A5 g14.length c5] :: own 3 (.slice A5 g14.length c5) (vI g14) :: blk g5 24 #[.int .i64 0, .int .i64 0, .slice none 0 0] :: blk g6 25 (List.toArray (([] : List Value) ++ (arr1 (Value.int .i64) (0 : Int) 2 (List.replicate 2 (0 : Int)) ++ ([] : List Value)))) :: blk g7 25 (List.toArray (([] : List Value) ++ (arr1 (Value.int .i64) (0 : Int) 2 taken2 ++ ([] : List Value)))) :: fs) ∧ ((stones_Play_J4 moves1) g12 g13 g14 taken2).bind some = some r) ?_ ?_
    · rintro a w ⟨g12, g13, g14, taken2, A5, c5, hF, hS, hm⟩
      unfold stones_Play_J4 at hm
      refine seq_cut (fun a w => Fr 89 [pl 4 (.pointer (some ⟨g5, 0, none⟩)), pl 5 (.pointer (some ⟨g6, 0, none⟩)), pl 6 (.int .i64 (moves1.length : Int)), pl 7 (.int .i64 0)] a ∧ Sep w0 B w (blk g5 24 #[.int .i64 g12, .int .i64 g13, .slice A5 g14.length c5] :: own 3 (.slice A5 g14.length c5) (vI g14) :: blk g6 25 (List.toArray (([] : List Value) ++ (arr1 (Value.int .i64) (0 : Int) 2 taken2 ++ ([] : List Value)))) :: fs) ∧ ((stones_Play_J14 moves1 g12 g13 g14 taken2)).bind some = some r) ?_ ?_
      · rintro a w ⟨hF, hS, hm⟩
        unfold stones_Play_J14 at hm
        refine wpIn_ret ?_
        have hld0 := run_loadVarA (P := Try.prog) (t := 24) (cs := #[.int .i64 g12, .int .i64 g13, .slice A5 g14.length c5]) (by kernel_rfl) (by kernel_rfl) ((hS.at_ 0 rfl).cellsAt 0 (by rfl))
        have hld1 := run_loadVarA (P := Try.prog) (t := 25) (cs := (List.toArray (([] : List Value) ++ (arr1 (Value.int .i64) (0 : Int) 2 taken2 ++ ([] : List Value))))) (by kernel_rfl) (by kernel_rfl) ((hS.at_ 2 rfl).cellsAt 0 (by rfl))
        have hS := hS.pickN 3 [1] (by decide)
        have hm : some (g12, g13, g14, taken2, (moves1.length : Int), 0) = some r := hm
        obtain rfl := Option.some.inj hm
        exact retV (rs := [.cell 4 24, .cell 5 25, .tmp 6, .tmp 7]) (vs := [.agg #[.int .i64 g12, .int .i64 g13, .slice A5 g14.length c5], .agg (List.toArray (([] : List Value) ++ (arr1 (Value.int .i64) (0 : Int) 2 taken2 ++ ([] : List Value)))), .int .i64 (moves1.length : Int), .int .i64 0]) hF rfl (rv_c (by kernel_rfl) hld0 <| rv_c (by kernel_rfl) hld1 <| rv_t (by kernel_rfl) <| rv_t (by kernel_rfl) <| rv_nil) rfl ⟨_, rfl, A5, c5, rfl, hS⟩
      · refine regMix5 [0, 2, 3] [4, 5] 5 #[true, false, true, true, false, false, false, false] [⟨false, [], vS (Instr.loadAt 24 (.pointer (some ⟨g4, 0, none⟩))), .agg #[.int .i64 g12, .int .i64 g13, .slice A5 g14.length c5]⟩] [some (.agg #[.int .i64 g12, .int .i64 g13, .slice A5 g14.length c5]), none, none] [4, 5, 8, 85, 88] [pl 4 (.pointer (some ⟨g5, 0, none⟩)), pl 5 (.pointer (some ⟨g6, 0, none⟩)), pl 8 (.pointer (some ⟨g7, 0, none⟩)), pl 85 (.agg #[.int .i64 g12, .int .i64 g13, .slice A5 g14.length c5]), pl 88 (.int .i64 (moves1.length : Int))] hF hS Fol (by kernel_rfl) (by kernel_rfl) (by kernel_rfl) (by kernel_rfl) ?_ (fun a w hF hS => ?_)
        · exact obs_cons (ob_loadA (cs := #[.int .i64 g12, .int .i64 g13, .slice A5 g14.length c5]) (by kernel_rfl) (by kernel_rfl) (fun _ _ hS => (hS.at_ 0 rfl).cellsAt 0 (by rfl))) <| obs_nil
        refine any_share 3 #[true, true, true, true, true, false, false, false] (fun a w => Fr 89 [pl 4 (.pointer (some ⟨g5, 0, none⟩)), pl 5 (.pointer (some ⟨g6, 0, none⟩)), pl 86 (.agg (List.toArray (([] : List Value) ++ (arr1 (Value.int .i64) (0 : Int) 2 taken2 ++ ([] : List Value))))), pl 88 (.int .i64 (moves1.length : Int))] a ∧ Sep w0 B w (blk g4 24 #[.int .i64 g12, .int .i64 g13, .slice A5 g14.length c5] :: own 3 (.slice A5 g14.length c5) (vI g14) :: blk g5 24 #[.int .i64 g12, .int .i64 g13, .slice A5 g14.length c5] :: blk g6 25 (List.toArray (([] : List Value) ++ (arr1 (Value.int .i64) (0 : Int) 2 (List.replicate 2 (0 : Int)) ++ ([] : List Value)))) :: blk g7 25 (List.toArray (([] : List Value) ++ (arr1 (Value.int .i64) (0 : Int) 2 taken2 ++ ([] : List Value)))) :: fs)) (fun a w hI => ?_) (fun sh5 => ?_)
        · obtain ⟨hF, hS⟩ := hI
          refine any_step [5] (by kernel_rfl) rfl ?_
          refine (all_cons ?_ all_nil)
          · refine any_op (listed' := #[true, true, true, true, true, true, false, false]) (by kernel_rfl) (by kernel_rfl) ?_
            obtain ⟨w, hrun, hS⟩ := run_putA (P := Try.prog) (t := 25) (us := (List.toArray (([] : List Value) ++ (arr1 (Value.int .i64) (0 : Int) 2 taken2 ++ ([] : List Value))))) (o := 0) (hS.at_ 3 rfl) (by kernel_rfl) (all_one (by kernel_rfl)) (Nat.le_of_ble_eq_true (by kernel_rfl))
            refine at_skip hF (by kernel_rfl) hrun ?_
            have hS : Sep w0 B w (blk g4 24 #[.int .i64 g12, .int .i64 g13, .slice A5 g14.length c5] :: own 3 (.slice A5 g14.length c5) (vI g14) :: blk g5 24 #[.int .i64 g12, .int .i64 g13, .slice A5 g14.length c5] :: blk g6 25 (List.toArray (([] : List Value) ++ (arr1 (Value.int .i64) (0 : Int) 2 taken2 ++ ([] : List Value)))) :: blk g7 25 (List.toArray (([] : List Value) ++ (arr1 (Value.int .i64) (0 : Int) 2 taken2 ++ ([] : List Value)))) :: fs) := hS
            refine any_finE rfl (by decide) ?_
            refine any_step [6] (by kernel_rfl) rfl ?_
            refine (all_cons ?_ all_nil)
            · refine any_op (listed' := #[true, true, true, true, true, true, true, false]) (by kernel_rfl) (by kernel_rfl) ?_
              refine at_runW 1 [] [] [4, 5, 6] [pl 4 (.pointer (some ⟨g5, 0, none⟩)), pl 5 (.pointer (some ⟨g6, 0, none⟩)), pl 6 (.int .i64 (moves1.length : Int))] hF hS (by kernel_rfl) (by kernel_rfl) ?_ (fun a hF => ?_)
              · exact obs_nil
              refine any_finI rfl (fun h => h) ?_
              refine any_step [7] (by kernel_rfl) rfl ?_
              refine (all_cons ?_ all_nil)
              · refine any_op (listed' := #[true, true, true, true, true, true, true, true]) (by kernel_rfl) (by kernel_rfl) ?_
                refine at_runW 1 [] [] [4, 5, 6, 7] [pl 4 (.pointer (some ⟨g5, 0, none⟩)), pl 5 (.pointer (some ⟨g6, 0, none⟩)), pl 6 (.int .i64 (moves1.length : Int)), pl 7 (.int .i64 0)] hF hS (by kernel_rfl) (by kernel_rfl) ?_ (fun a hF => ?_)
                · exact obs_nil
                refine any_finI rfl (fun h => h) ?_
                refine any_end (by kernel_rfl) ?_
                refine np_n ?_
                refine then_n ?_
                have hS := hS.pickN 5 [2, 1, 3] (by decide)
                exact ⟨hF.weak [4, 5, 6, 7] (by kernel_rfl), hS, hm⟩
        refine any_step [1, 4] (by kernel_rfl) rfl ?_
        refine (all_cons ?_ (all_cons ?_ all_nil))
        · refine any_op (listed' := #[true, true, true, true, false, false, false, false]) (by kernel_rfl) (by kernel_rfl) ?_
          refine at_runW 1 [⟨false, [], vS (Instr.loadAt 25 (.pointer (some ⟨g7, 0, none⟩))), .agg (List.toArray (([] : List Value) ++ (arr1 (Value.int .i64) (0 : Int) 2 taken2 ++ ([] : List Value))))⟩] [some (.agg (List.toArray (([] : List Value) ++ (arr1 (Value.int .i64) (0 : Int) 2 taken2 ++ ([] : List Value)))))] [4, 5, 85, 86, 88] [pl 4 (.pointer (some ⟨g5, 0, none⟩)), pl 5 (.pointer (some ⟨g6, 0, none⟩)), pl 85 (.agg #[.int .i64 g12, .int .i64 g13, .slice A5 g14.length c5]), pl 86 (.agg (List.toArray (([] : List Value) ++ (arr1 (Value.int .i64) (0 : Int) 2 taken2 ++ ([] : List Value))))), pl 88 (.int .i64 (moves1.length : Int))] hF hS (by kernel_rfl) (by kernel_rfl) ?_ (fun a hF => ?_)
          · exact obs_cons (ob_loadA (cs := (List.toArray (([] : List Value) ++ (arr1 (Value.int .i64) (0 : Int) 2 taken2 ++ ([] : List Value))))) (by kernel_rfl) (by kernel_rfl) (fun _ _ hS => (hS.at_ 4 rfl).cellsAt 0 (by rfl))) <| obs_nil
          refine any_finI rfl (fun h => h) ?_
          refine any_step [4] (by kernel_rfl) rfl ?_
          refine (all_cons ?_ all_nil)
          · refine any_op (listed' := #[true, true, true, true, true, false, false, false]) (by kernel_rfl) (by kernel_rfl) ?_
            obtain ⟨w, hrun, hS⟩ := run_putA (P := Try.prog) (t := 24) (us := #[.int .i64 g12, .int .i64 g13, .slice A5 g14.length c5]) (o := 0) (hS.at_ 2 rfl) (by kernel_rfl) (all_one (by kernel_rfl)) (Nat.le_of_ble_eq_true (by kernel_rfl))
            refine at_skip hF (by kernel_rfl) hrun ?_
            have hS : Sep w0 B w (blk g4 24 #[.int .i64 g12, .int .i64 g13, .slice A5 g14.length c5] :: own 3 (.slice A5 g14.length c5) (vI g14) :: blk g5 24 #[.int .i64 g12, .int .i64 g13, .slice A5 g14.length c5] :: blk g6 25 (List.toArray (([] : List Value) ++ (arr1 (Value.int .i64) (0 : Int) 2 (List.replicate 2 (0 : Int)) ++ ([] : List Value)))) :: blk g7 25 (List.toArray (([] : List Value) ++ (arr1 (Value.int .i64) (0 : Int) 2 taken2 ++ ([] : List Value)))) :: fs) := hS
            refine any_finE rfl (by decide) ?_
            exact sh5 _ _ ⟨hF.weak [4, 5, 86, 88] (by kernel_rfl), hS⟩
        · refine any_op (listed' := #[true, false, true, true, true, false, false, false]) (by kernel_rfl) (by kernel_rfl) ?_
          obtain ⟨w, hrun, hS⟩ := run_putA (P := Try.prog) (t := 24) (us := #[.int .i64 g12, .int .i64 g13, .slice A5 g14.length c5]) (o := 0) (hS.at_ 2 rfl) (by kernel_rfl) (all_one (by kernel_rfl)) (Nat.le_of_ble_eq_true (by kernel_rfl))
          refine at_skip hF (by kernel_rfl) hrun ?_
          have hS : Sep w0 B w (blk g4 24 #[.int .i64 g12, .int .i64 g13, .slice A5 g14.length c5] :: own 3 (.slice A5 g14.length c5) (vI g14) :: blk g5 24 #[.int .i64 g12, .int .i64 g13, .slice A5 g14.length c5] :: blk g6 25 (List.toArray (([] : List Value) ++ (arr1 (Value.int .i64) (0 : Int) 2 (List.replicate 2 (0 : Int)) ++ ([] : List Value)))) :: blk g7 25 (List.toArray (([] : List Value) ++ (arr1 (Value.int .i64) (0 : Int) 2 taken2 ++ ([] : List Value)))) :: fs) := hS
          refine any_finE rfl (by decide) ?_
          refine any_step [1] (by kernel_rfl) rfl ?_
          refine (all_cons ?_ all_nil)
          · refine any_op (listed' := #[true, true, true, true, true, false, false, false]) (by kernel_rfl) (by kernel_rfl) ?_
            refine at_runW 1 [⟨false, [], vS (Instr.loadAt 25 (.pointer (some ⟨g7, 0, none⟩))), .agg (List.toArray (([] : List Value) ++ (arr1 (Value.int .i64) (0 : Int) 2 taken2 ++ ([] : List Value))))⟩] [some (.agg (List.toArray (([] : List Value) ++ (arr1 (Value.int .i64) (0 : Int) 2 taken2 ++ ([] : List Value)))))] [4, 5, 86, 88] [pl 4 (.pointer (some ⟨g5, 0, none⟩)), pl 5 (.pointer (some ⟨g6, 0, none⟩)), pl 86 (.agg (List.toArray (([] : List Value) ++ (arr1 (Value.int .i64) (0 : Int) 2 taken2 ++ ([] : List Value))))), pl 88 (.int .i64 (moves1.length : Int))] hF hS (by kernel_rfl) (by kernel_rfl) ?_ (fun a hF => ?_)
            · exact obs_cons (ob_loadA (cs := (List.toArray (([] : List Value) ++ (arr1 (Value.int .i64) (0 : Int) 2 taken2 ++ ([] : List Value))))) (by kernel_rfl) (by kernel_rfl) (fun _ _ hS => (hS.at_ 4 rfl).cellsAt 0 (by rfl))) <| obs_nil
            refine any_finI rfl (fun h => h) ?_
            exact sh5 _ _ ⟨hF.weak [4, 5, 86, 88] (by kernel_rfl), hS⟩
    · refine reg [] [] [1, 2, 4, 5, 8, 9, 10, 36, 37, 38] [pl 1 (.slice A2 moves1.length c2), pl 2 (.pointer (some ⟨g4, 0, none⟩)), pl 4 (.pointer (some ⟨g5, 0, none⟩)), pl 5 (.pointer (some ⟨g6, 0, none⟩)), pl 8 (.pointer (some ⟨g7, 0, none⟩)), pl 9 (.map (some g8)), pl 10 (.int .i64 0), pl 36 (.slice A2 moves1.length c2), pl 37 (.int .i64 (moves1.length : Int)), pl 38 (.int .i64 0)] hF hS Fol (by kernel_rfl) (by kernel_rfl) (by kernel_rfl) ?_ (fun a w hF hS => ?_)
      · exact obs_nil
      refine wpIn_block ?_
      have hS := hS.pickN 6 [2, 1, 3, 4, 5, 0] (by decide)
      refine wp_loop_model (S := (Int × Int × List Int × List Int × List (List UInt8 × Int) × Int × Int)) (R := (Fl (Int × Int × List Int × List Int) (Int × Int × List Int × List Int × Int × Int))) (stones_Play_L1 moves1) (fun x => ((stones_Play_K1 moves1) x).bind some) r (fun (x : (Int × Int × List Int × List Int × List (List UInt8 × Int) × Int × Int)) a w => ∃ (A4 : Option Addr) (c4 : Nat), Fr 89 [pl 1 (.slice A2 moves1.length c2), pl 2 (.pointer (some ⟨g4, 0, none⟩)), pl 4 (.pointer (some ⟨g5, 0, none⟩)), pl 5 (.pointer (some ⟨g6, 0, none⟩)), pl 8 (.pointer (some ⟨g7, 0, none⟩)), pl 9 (.map (some g8)), pl 10 (.int .i64 x.2.2.2.2.2.1), pl 36 (.slice A2 moves1.length c2), pl 37 (.int .i64 (moves1.length : Int)), pl 38 (.int .i64 x.2.2.2.2.2.2)] a ∧ Sep w0 B w (blk g4 24 #[.int .i64 x.1, .int .i64 x.2.1, .slice A4 x.2.2.1.length c4] :: own 3 (.slice A4 x.2.2.1.length c4) (vI x.2.2.1) :: blk g5 24 #[.int .i64 0, .int .i64 0, .slice none 0 0] :: blk g6 25 (List.toArray (([] : List Value) ++ (arr1 (Value.int .i64) (0 : Int) 2 (List.replicate 2 (0 : Int)) ++ ([] : List Value)))) :: blk g7 25 (List.toArray (([] : List Value) ++ (arr1 (Value.int .i64) (0 : Int) 2 x.2.2.2.1 ++ ([] : List Value)))) :: mapH kf9 (Value.int .i64) g8 x.2.2.2.2.1 :: fs)) (assoc_b hm) ⟨A3, c3, hF.weak [1, 2, 4, 5, 8, 9, 10, 36, 37, 38] (by kernel_rfl), hS⟩ ?_
      clear hF hS hm
      rintro nn1 ⟨g9, g10, g11, taken1, boards1, passes1, z1⟩ a w ⟨A4, c4, hF, hS⟩ hm
      generalize hφ1 : stK (stones_Play_L1 moves1) nn1 (fun x => ((stones_Play_K1 moves1) x).bind some) = φ1 at hm
      unfold stones_Play_L1 at hm
      dsimp only at hF hS hm
      refine reg [] [] [1, 2, 4, 5, 8, 9, 10, 36, 37, 38, 39] [pl 1 (.slice A2 moves1.length c2), pl 2 (.pointer (some ⟨g4, 0, none⟩)), pl 4 (.pointer (some ⟨g5, 0, none⟩)), pl 5 (.pointer (some ⟨g6, 0, none⟩)), pl 8 (.pointer (some ⟨g7, 0, none⟩)), pl 9 (.map (some g8)), pl 10 (.int .i64 passes1), pl 36 (.slice A2 moves1.length c2), pl 37 (.int .i64 (moves1.length : Int)), pl 38 (.int .i64 z1), pl 39 (.bool (decide (z1 < (moves1.length : Int))))] hF hS Fol (by kernel_rfl) (by kernel_rfl) (by kernel_rfl) ?_ (fun a w hF hS => ?_)
      · exact obs_nil
      refine seq_cut (fun a w => Fr 89 [pl 1 (.slice A2 moves1.length c2), pl 2 (.pointer (some ⟨g4, 0, none⟩)), pl 4 (.pointer (some ⟨g5, 0, none⟩)), pl 5 (.pointer (some ⟨g6, 0, none⟩)), pl 8 (.pointer (some ⟨g7, 0, none⟩)), pl 9 (.map (some g8)), pl 10 (.int .i64 passes1), pl 36 (.slice A2 moves1.length c2), pl 37 (.int .i64 (moves1.length : Int)), pl 38 (.int .i64 z1)] a ∧ Sep w0 B w (blk g4 24 #[.int .i64 g9, .int .i64 g10, .slice A4 g11.length c4] :: own 3 (.slice A4 g11.length c4) (vI g11) :: blk g5 24 #[.int .i64 0, .int .i64 0, .slice none 0 0] :: blk g6 25 (List.toArray (([] : List Value) ++ (arr1 (Value.int .i64) (0 : Int) 2 (List.replicate 2 (0 : Int)) ++ ([] : List Value)))) :: blk g7 25 (List.toArray (([] : List Value) ++ (arr1 (Value.int .i64) (0 : Int) 2 taken1 ++ ([] : List Value)))) :: mapH kf9 (Value.int .i64) g8 boards1 :: fs) ∧ ((stones_Play_J5 moves1 g9 g10 g11 taken1 boards1 passes1 z1)).bind φ1 = some r) ?_ ?_
      · rintro a w ⟨hF, hS, hm⟩
        unfold stones_Play_J5 at hm
        refine seq_cut (fun a w => ∃ (g15 : Int) (g16 : Int) (g17 : List Int) (taken3 : List Int) (boards2 : List (List UInt8 × Int)) (passes2 : Int) (A6 : Option Addr) (c6 : Nat), Fr 89 [pl 1 (.slice A2 moves1.length c2), pl 2 (.pointer (some ⟨g4, 0, none⟩)), pl 4 (.pointer (some ⟨g5, 0, none⟩)), pl 5 (.pointer (some ⟨g6, 0, none⟩)), pl 8 (.pointer (some ⟨g7, 0, none⟩)), pl 9 (.map (some g8)), pl 10 (.int .i64 passes2), pl 36 (.slice A2 moves1.length c2), pl 37 (.int .i64 (moves1.length : Int)), pl 38 (.int .i64 z1)] a ∧ Sep w0 B w (blk g4 24 #[.int .i64 g15, .int .i64 g16, .slice A6 g17.length c6] :: own 3 (.slice A6 g17.length c6) (vI g17) :: blk g5 24 #[.int .i64 0, .int .i64 0, .slice none 0 0] :: blk g6 25 (List.toArray (([] : List Value) ++ (arr1 (Value.int .i64) (0 : Int) 2 (List.replicate 2 (0 : Int)) ++ ([] : List Value)))) :: blk g7 25 (List.toArray (([] : List Value) ++ (arr1 (Value.int .i64) (0 : Int) 2 taken3 ++ ([] : List Value)))) :: mapH kf9 (Value.int .i64) g8 boards2 :: fs) ∧ ((stones_Play_J6 z1) g15 g16 g17 taken3 boards2 passes2).bind φ1 = some r) ?_ ?_
        · rintro a w ⟨g15, g16, g17, taken3, boards2, passes2, A6, c6, hF, hS, hm⟩
          unfold stones_Play_J6 at hm
          refine reg1 [] [] [1, 2, 4, 5, 8, 9, 10, 36, 37, 38] [pl 1 (.slice A2 moves1.length c2), pl 2 (.pointer (some ⟨g4, 0, none⟩)), pl 4 (.pointer (some ⟨g5, 0, none⟩)), pl 5 (.pointer (some ⟨g6, 0, none⟩)), pl 8 (.pointer (some ⟨g7, 0, none⟩)), pl 9 (.map (some g8)), pl 10 (.int .i64 passes2), pl 36 (.slice A2 moves1.length c2), pl 37 (.int .i64 (moves1.length : Int)), pl 38 (.int .i64 (w64 (z1 + 1)))] hF hS Fol (by kernel_rfl) (by kernel_rfl) (by kernel_rfl) ?_ (fun a w hF hS => ?_)
          · exact obs_nil
          refine then_n ?_
          rw [← hφ1] at hm
          exact ⟨(g15, g16, g17, taken3, boards2, passes2, (w64 (z1 + 1))), ⟨A6, c6, hF.weak [1, 2, 4, 5, 8, 9, 10, 36, 37, 38] (by kernel_rfl), hS⟩, hm⟩
        · refine wpIn_block ?_
          obtain ⟨hp1, hm⟩ := asrt_b hm
          refine reg [⟨true, [], vS (Instr.indexAt 22 (.slice A2 moves1.length c2) (.int .i64 z1)), .pointer (some (sAddr A2 z1))⟩, ⟨false, [], vS (Instr.loadAt 3 (.pointer (some (sAddr A2 z1)))), .int .i64 (geti moves1 z1)⟩] [none, some (.pointer (some (sAddr A2 z1))), some (.int .i64 (geti moves1 z1)), none, none] [1, 2, 4, 5, 8, 9, 10, 11, 12, 36, 37, 38] [pl 1 (.slice A2 moves1.length c2), pl 2 (.pointer (some ⟨g4, 0, none⟩)), pl 4 (.pointer (some ⟨g5, 0, none⟩)), pl 5 (.pointer (some ⟨g6, 0, none⟩)), pl 8 (.pointer (some ⟨g7, 0, none⟩)), pl 9 (.map (some g8)), pl 10 (.int .i64 passes1), pl 11 (.int .i64 z1), pl 12 (.int .i64 (geti moves1 z1)), pl 36 (.slice A2 moves1.length c2), pl 37 (.int .i64 (moves1.length : Int)), pl 38 (.int .i64 z1)] hF hS Fol (by kernel_rfl) (by kernel_rfl) (by kernel_rfl) ?_ (fun a w hF hS => ?_)
          · exact obs_cons (ob_ix1 (f := (Value.int .i64)) (m := moves1) Und22 hi3 hs3 (hr_moves1 _ (hS.dropN 6)) rfl (fun _ => hp1)) <| obs_cons (ob_get1 (n := moves1.length) (m := moves1) (Value.int .i64) (0 : Int) Agg3 (fun _ hS => ⟨_, (hr_moves1 _ (hS.dropN 6))⟩) (fun _ hS => rfl) (fun _ => hp1)) <| obs_nil
          refine seq_cut (fun a w => Fr 89 [pl 1 (.slice A2 moves1.length c2), pl 2 (.pointer (some ⟨g4, 0, none⟩)), pl 4 (.pointer (some ⟨g5, 0, none⟩)), pl 5 (.pointer (some ⟨g6, 0, none⟩)), pl 8 (.pointer (some ⟨g7, 0, none⟩)), pl 9 (.map (some g8)), pl 10 (.int .i64 passes1), pl 11 (.int .i64 z1), pl 12 (.int .i64 (geti moves1 z1)), pl 36 (.slice A2 moves1.length c2), pl 37 (.int .i64 (moves1.length : Int)), pl 38 (.int .i64 z1)] a ∧ Sep w0 B w (blk g4 24 #[.int .i64 g9, .int .i64 g10, .slice A4 g11.length c4] :: own 3 (.slice A4 g11.length c4) (vI g11) :: blk g5 24 #[.int .i64 0, .int .i64 0, .slice none 0 0] :: blk g6 25 (List.toArray (([] : List Value) ++ (arr1 (Value.int .i64) (0 : Int) 2 (List.replicate 2 (0 : Int)) ++ ([] : List Value)))) :: blk g7 25 (List.toArray (([] : List Value) ++ (arr1 (Value.int .i64) (0 : Int) 2 taken1 ++ ([] : List Value)))) :: mapH kf9 (Value.int .i64) g8 boards1 :: fs) ∧ ((stones_Play_J7 moves1 g9 g10 g11 taken1 boards1 passes1 z1)).bind φ1 = some r) ?_ ?_
          · rintro a w ⟨hF, hS, hm⟩
            unfold stones_Play_J7 at hm
            refine seq_cut (fun a w => Fr 89 [pl 1 (.slice A2 moves1.length c2), pl 2 (.pointer (some ⟨g4, 0, none⟩)), pl 4 (.pointer (some ⟨g5, 0, none⟩)), pl 5 (.pointer (some ⟨g6, 0, none⟩)), pl 8 (.pointer (some ⟨g7, 0, none⟩)), pl 9 (.map (some g8)), pl 11 (.int .i64 z1), pl 12 (.int .i64 (geti moves1 z1)), pl 36 (.slice A2 moves1.length c2), pl 37 (.int .i64 (moves1.length : Int)), pl 38 (.int .i64 z1)] a ∧ Sep w0 B w (blk g4 24 #[.int .i64 g9, .int .i64 g10, .slice A4 g11.length c4] :: own 3 (.slice A4 g11.length c4) (vI g11) :: blk g5 24 #[.int .i64 0, .int .i64 0, .slice none 0 0] :: blk g6 25 (List.toArray (([] : List Value) ++ (arr1 (Value.int .i64) (0 : Int) 2 (List.replicate 2 (0 : Int)) ++ ([] : List Value)))) :: blk g7 25 (List.toArray (([] : List Value) ++ (arr1 (Value.int .i64) (0 : Int) 2 taken1 ++ ([] : List Value)))) :: mapH kf9 (Value.int .i64) g8 boards1 :: fs) ∧ ((stones_Play_J9 moves1 g9 g10 g11 taken1 boards1 z1)).bind φ1 = some r) ?_ ?_
            · rintro a w ⟨hF, hS, hm⟩
              unfold stones_Play_J9 at hm
              refine seqR ?_
              obtain ⟨r4, hr4, hm⟩ := call_b hm
              refine at_run 5 [⟨false, [], vS (Instr.loadAt 24 (.pointer (some ⟨g4, 0, none⟩))), .agg #[.int .i64 g9, .int .i64 g10, .slice A4 g11.length c4]⟩] [some (.agg #[.int .i64 g9, .int .i64 g10, .slice A4 g11.length c4]), none, none, none, none] [1, 2, 4, 5, 8, 9, 11, 36, 37, 38, 53, 56, 57] [pl 1 (.slice A2 moves1.length c2), pl 2 (.pointer (some ⟨g4, 0, none⟩)), pl 4 (.pointer (some ⟨g5, 0, none⟩)), pl 5 (.pointer (some ⟨g6, 0, none⟩)), pl 8 (.pointer (some ⟨g7, 0, none⟩)), pl 9 (.map (some g8)), pl 11 (.int .i64 z1), pl 36 (.slice A2 moves1.length c2), pl 37 (.int .i64 (moves1.length : Int)), pl 38 (.int .i64 z1), pl 53 (.agg #[.int .i64 g9, .int .i64 g10, .slice A4 g11.length c4]), pl 56 (.int .i64 (w64 (1 + (bAnd z1 1)))), pl 57 (.int .i64 (geti moves1 z1))] hF hS (by kernel_rfl) (by kernel_rfl) ?_ (fun a w hF hS => ?_)
              · exact obs_cons (ob_loadA (cs := #[.int .i64 g9, .int .i64 g10, .slice A4 g11.length c4]) (by kernel_rfl) (by kernel_rfl) (fun _ _ hS => (hS.at_ 0 rfl).cellsAt 0 (by rfl))) <| obs_nil
              refine at_call (f := 41) (args := #[.agg #[.int .i64 g9, .int .i64 g10, .slice A4 g11.length c4], .int .i64 (w64 (1 + (bAnd z1 1))), .int .i64 (geti moves1 z1)]) (d := 58) hF (by kernel_rfl) (by kernel_rfl) Try.func41 (by kernel_rfl) rfl (stones_put_w hr4 hS (fun _ hS => (hS.at_ 1 rfl).rd) ((hS.at_ 1 rfl).cap1) rfl) (fun v a w hR hF => ?_)
              clear hS
              obtain ⟨A7, c7, rfl, hS⟩ := hR
              have hS : Sep w0 B w (own 3 (.slice A7 r4.2.2.1.length c7) (vI r4.2.2.1) :: blk g4 24 #[.int .i64 g9, .int .i64 g10, .slice A4 g11.length c4] :: own 3 (.slice A4 g11.length c4) (vI g11) :: blk g5 24 #[.int .i64 0, .int .i64 0, .slice none 0 0] :: blk g6 25 (List.toArray (([] : List Value) ++ (arr1 (Value.int .i64) (0 : Int) 2 (List.replicate 2 (0 : Int)) ++ ([] : List Value)))) :: blk g7 25 (List.toArray (([] : List Value) ++ (arr1 (Value.int .i64) (0 : Int) 2 taken1 ++ ([] : List Value)))) :: mapH kf9 (Value.int .i64) g8 boards1 :: fs) := hS
              refine at_run 4 [] [] [1, 2, 4, 5, 8, 9, 11, 36, 37, 38, 59, 60, 61] [pl 1 (.slice A2 moves1.length c2), pl 2 (.pointer (some ⟨g4, 0, none⟩)), pl 4 (.pointer (some ⟨g5, 0, none⟩)), pl 5 (.pointer (some ⟨g6, 0, none⟩)), pl 8 (.pointer (some ⟨g7, 0, none⟩)), pl 9 (.map (some g8)), pl 11 (.int .i64 z1), pl 36 (.slice A2 moves1.length c2), pl 37 (.int .i64 (moves1.length : Int)), pl 38 (.int .i64 z1), pl 59 (.agg #[.int .i64 r4.1, .int .i64 r4.2.1, .slice A7 r4.2.2.1.length c7]), pl 60 (.int .i64 r4.2.2.2.1), pl 61 (.int .i64 r4.2.2.2.2)] hF hS (by kernel_rfl) (by kernel_rfl) ?_ (fun a w hF hS => ?_)
              · exact obs_nil
              refine at_do (d := 13) (s := vS (Instr.alloc 24 true (.tuple #[]))) (v := .pointer (some ⟨w.heap.size, 0, none⟩)) (w' := w.alloc (.cells #[.int .i64 0, .int .i64 0, .slice none 0 0] 24)) hF (by kernel_rfl) (by kernel_rfl) (by kernel_rfl) (fun a hF => ?_)
              have hS : Sep w0 B (w.alloc (.cells #[.int .i64 0, .int .i64 0, .slice none 0 0] 24)) (blk w.heap.size 24 #[.int .i64 0, .int .i64 0, .slice none 0 0] :: (own 3 (.slice A7 r4.2.2.1.length c7) (vI r4.2.2.1) :: blk g4 24 #[.int .i64 g9, .int .i64 g10, .slice A4 g11.length c4] :: own 3 (.slice A4 g11.length c4) (vI g11) :: blk g5 24 #[.int .i64 0, .int .i64 0, .slice none 0 0] :: blk g6 25 (List.toArray (([] : List Value) ++ (arr1 (Value.int .i64) (0 : Int) 2 (List.replicate 2 (0 : Int)) ++ ([] : List Value)))) :: blk g7 25 (List.toArray (([] : List Value) ++ (arr1 (Value.int .i64) (0 : Int) 2 taken1 ++ ([] : List Value)))) :: mapH kf9 (Value.int .i64) g8 boards1 :: fs)) := hS.box 24 #[.int .i64 0, .int .i64 0, .slice none 0 0]
              generalize w.heap.size = g18 at hF hS
              generalize w.alloc (.cells #[.int .i64 0, .int .i64 0, .slice none 0 0] 24) = w at hS ⊢
              obtain ⟨w, hrun, hS⟩ := run_putA (P := Try.prog) (t := 24) (us := #[.int .i64 r4.1, .int .i64 r4.2.1, .slice A7 r4.2.2.1.length c7]) (o := 0) (hS.at_ 0 rfl) (by kernel_rfl) (all_one (by kernel_rfl)) (Nat.le_of_ble_eq_true (by kernel_rfl))
              refine at_skip hF (by kernel_rfl) hrun ?_
              have hS : Sep w0 B w (blk g18 24 #[.int .i64 r4.1, .int .i64 r4.2.1, .slice A7 r4.2.2.1.length c7] :: own 3 (.slice A7 r4.2.2.1.length c7) (vI r4.2.2.1) :: blk g4 24 #[.int .i64 g9, .int .i64 g10, .slice A4 g11.length c4] :: own 3 (.slice A4 g11.length c4) (vI g11) :: blk g5 24 #[.int .i64 0, .int .i64 0, .slice none 0 0] :: blk g6 25 (List.toArray (([] : List Value) ++ (arr1 (Value.int .i64) (0 : Int) 2 (List.replicate 2 (0 : Int)) ++ ([] : List Value)))) :: blk g7 25 (List.toArray (([] : List Value) ++ (arr1 (Value.int .i64) (0 : Int) 2 taken1 ++ ([] : List Value)))) :: mapH kf9 (Value.int .i64) g8 boards1 :: fs) := hS
              refine at_run 2 [] [] [1, 2, 4, 5, 8, 9, 11, 13, 14, 15, 36, 37, 38] [pl 1 (.slice A2 moves1.length c2), pl 2 (.pointer (some ⟨g4, 0, none⟩)), pl 4 (.pointer (some ⟨g5, 0, none⟩)), pl 5 (.pointer (some ⟨g6, 0, none⟩)), pl 8 (.pointer (some ⟨g7, 0, none⟩)), pl 9 (.map (some g8)), pl 11 (.int .i64 z1), pl 13 (.pointer (some ⟨g18, 0, none⟩)), pl 14 (.int .i64 r4.2.2.2.1), pl 15 (.int .i64 r4.2.2.2.2), pl 36 (.slice A2 moves1.length c2), pl 37 (.int .i64 (moves1.length : Int)), pl 38 (.int .i64 z1)] hF hS (by kernel_rfl) (by kernel_rfl) ?_ (fun a w hF hS => ?_)
              · exact obs_nil
              refine at_end [1, 2, 4, 5, 8, 9, 11, 13, 14, 15, 36, 37, 38] [pl 1 (.slice A2 moves1.length c2), pl 2 (.pointer (some ⟨g4, 0, none⟩)), pl 4 (.pointer (some ⟨g5, 0, none⟩)), pl 5 (.pointer (some ⟨g6, 0, none⟩)), pl 8 (.pointer (some ⟨g7, 0, none⟩)), pl 9 (.map (some g8)), pl 11 (.int .i64 z1), pl 13 (.pointer (some ⟨g18, 0, none⟩)), pl 14 (.int .i64 r4.2.2.2.1), pl 15 (.int .i64 r4.2.2.2.2), pl 36 (.slice A2 moves1.length c2), pl 37 (.int .i64 (moves1.length : Int)), pl 38 (.int .i64 z1)] hF rfl (by kernel_rfl) (fun hF => ?_)
              refine then_n ?_
              refine seq_cut (fun a w => ∃ (boards4 : List (List UInt8 × Int)) (e1 : Int), Fr 89 [pl 1 (.slice A2 moves1.length c2), pl 2 (.pointer (some ⟨g4, 0, none⟩)), pl 4 (.pointer (some ⟨g5, 0, none⟩)), pl 5 (.pointer (some ⟨g6, 0, none⟩)), pl 8 (.pointer (some ⟨g7, 0, none⟩)), pl 9 (.map (some g8)), pl 11 (.int .i64 z1), pl 13 (.pointer (some ⟨g18, 0, none⟩)), pl 14 (.int .i64 r4.2.2.2.1), pl 15 (.int .i64 e1), pl 36 (.slice A2 moves1.length c2), pl 37 (.int .i64 (moves1.length : Int)), pl 38 (.int .i64 z1)] a ∧ Sep w0 B w (blk g4 24 #[.int .i64 g9, .int .i64 g10, .slice A4 g11.length c4] :: own 3 (.slice A4 g11.length c4) (vI g11) :: blk g5 24 #[.int .i64 0, .int .i64 0, .slice none 0 0] :: blk g6 25 (List.toArray (([] : List Value) ++ (arr1 (Value.int .i64) (0 : Int) 2 (List.replicate 2 (0 : Int)) ++ ([] : List Value)))) :: blk g7 25 (List.toArray (([] : List Value) ++ (arr1 (Value.int .i64) (0 : Int) 2 taken1 ++ ([] : List Value)))) :: mapH kf9 (Value.int .i64) g8 boards4 :: blk g18 24 #[.int .i64 r4.1, .int .i64 r4.2.1, .slice A7 r4.2.2.1.length c7] :: own 3 (.slice A7 r4.2.2.1.length c7) (vI r4.2.2.1) :: fs) ∧ ((stones_Play_J10 g9 g10 g11 taken1 z1 r4) boards4 e1).bind φ1 = some r) ?_ ?_
              · rintro a w ⟨boards4, e1, hF, hS, hm⟩
                unfold stones_Play_J10 at hm
                refine seq_cut (fun a w => Fr 89 [pl 1 (.slice A2 moves1.length c2), pl 2 (.pointer (some ⟨g4, 0, none⟩)), pl 4 (.pointer (some ⟨g5, 0, none⟩)), pl 5 (.pointer (some ⟨g6, 0, none⟩)), pl 8 (.pointer (some ⟨g7, 0, none⟩)), pl 9 (.map (some g8)), pl 11 (.int .i64 z1), pl 13 (.pointer (some ⟨g18, 0, none⟩)), pl 14 (.int .i64 r4.2.2.2.1), pl 36 (.slice A2 moves1.length c2), pl 37 (.int .i64 (moves1.length : Int)), pl 38 (.int .i64 z1)] a ∧ Sep w0 B w (blk g4 24 #[.int .i64 g9, .int .i64 g10, .slice A4 g11.length c4] :: own 3 (.slice A4 g11.length c4) (vI g11) :: blk g5 24 #[.int .i64 0, .int .i64 0, .slice none 0 0] :: blk g6 25 (List.toArray (([] : List Value) ++ (arr1 (Value.int .i64) (0 : Int) 2 (List.replicate 2 (0 : Int)) ++ ([] : List Value)))) :: blk g7 25 (List.toArray (([] : List Value) ++ (arr1 (Value.int .i64) (0 : Int) 2 taken1 ++ ([] : List Value)))) :: mapH kf9 (Value.int .i64) g8 boards4 :: blk g18 24 #[.int .i64 r4.1, .int .i64 r4.2.1, .slice A7 r4.2.2.1.length c7] :: own 3 (.slice A7 r4.2.2.1.length c7) (vI r4.2.2.1) :: fs) ∧ ((stones_Play_J12 taken1 z1 r4 boards4)).bind φ1 = some r) ?_ ?_
                · rintro a w ⟨hF, hS, hm⟩
                  unfold stones_Play_J12 at hm
                  refine seqR ?_
                  refine at_run 1 [⟨false, [], vS (Instr.loadAt 24 (.pointer (some ⟨g18, 0, none⟩))), .agg #[.int .i64 r4.1, .int .i64 r4.2.1, .slice A7 r4.2.2.1.length c7]⟩] [some (.agg #[.int .i64 r4.1, .int .i64 r4.2.1, .slice A7 r4.2.2.1.length c7])] [1, 2, 4, 5, 8, 9, 11, 14, 36, 37, 38, 76] [pl 1 (.slice A2 moves1.length c2), pl 2 (.pointer (some ⟨g4, 0, none⟩)), pl 4 (.pointer (some ⟨g5, 0, none⟩)), pl 5 (.pointer (some ⟨g6, 0, none⟩)), pl 8 (.pointer (some ⟨g7, 0, none⟩)), pl 9 (.map (some g8)), pl 11 (.int .i64 z1), pl 14 (.int .i64 r4.2.2.2.1), pl 36 (.slice A2 moves1.length c2), pl 37 (.int .i64 (moves1.length : Int)), pl 38 (.int .i64 z1), pl 76 (.agg #[.int .i64 r4.1, .int .i64 r4.2.1, .slice A7 r4.2.2.1.length c7])] hF hS (by kernel_rfl) (by kernel_rfl) ?_ (fun a w hF hS => ?_)
                  · exact obs_cons (ob_loadA (cs := #[.int .i64 r4.1, .int .i64 r4.2.1, .slice A7 r4.2.2.1.length c7]) (by kernel_rfl) (by kernel_rfl) (fun _ _ hS => (hS.at_ 6 rfl).cellsAt 0 (by rfl))) <| obs_nil
                  obtain ⟨w, hrun, hS⟩ := run_putA (P := Try.prog) (t := 24) (us := #[.int .i64 r4.1, .int .i64 r4.2.1, .slice A7 r4.2.2.1.length c7]) (o := 0) (hS.at_ 0 rfl) (by kernel_rfl) (all_one (by kernel_rfl)) (Nat.le_of_ble_eq_true (by kernel_rfl))
                  refine at_skip hF (by kernel_rfl) hrun ?_
                  have hS : Sep w0 B w (blk g4 24 #[.int .i64 r4.1, .int .i64 r4.2.1, .slice A7 r4.2.2.1.length c7] :: own 3 (.slice A4 g11.length c4) (vI g11) :: blk g5 24 #[.int .i64 0, .int .i64 0, .slice none 0 0] :: blk g6 25 (List.toArray (([] : List Value) ++ (arr1 (Value.int .i64) (0 : Int) 2 (List.replicate 2 (0 : Int)) ++ ([] : List Value)))) :: blk g7 25 (List.toArray (([] : List Value) ++ (arr1 (Value.int .i64) (0 : Int) 2 taken1 ++ ([] : List Value)))) :: mapH kf9 (Value.int .i64) g8 boards4 :: blk g18 24 #[.int .i64 r4.1, .int .i64 r4.2.1, .slice A7 r4.2.2.1.length c7] :: own 3 (.slice A7 r4.2.2.1.length c7) (vI r4.2.2.1) :: fs) := hS
                  refine at_end [1, 2, 4, 5, 8, 9, 11, 14, 36, 37, 38] [pl 1 (.slice A2 moves1.length c2), pl 2 (.pointer (some ⟨g4, 0, none⟩)), pl 4 (.pointer (some ⟨g5, 0, none⟩)), pl 5 (.pointer (some ⟨g6, 0, none⟩)), pl 8 (.pointer (some ⟨g7, 0, none⟩)), pl 9 (.map (some g8)), pl 11 (.int .i64 z1), pl 14 (.int .i64 r4.2.2.2.1), pl 36 (.slice A2 moves1.length c2), pl 37 (.int .i64 (moves1.length : Int)), pl 38 (.int .i64 z1)] hF rfl (by kernel_rfl) (fun hF => ?_)
                  refine then_n ?_
                  refine seqR ?_
                  obtain ⟨hp2, hm⟩ := asrt_b hm
                  obtain ⟨hp3, hm⟩ := asrt_b hm
                  obtain ⟨hp4, hm⟩ := asrt_b hm
                  refine at_run 7 [⟨true, [], vS (Instr.indexAt 25 (.pointer (some ⟨g7, 0, none⟩)) (.int .i64 (bAnd z1 1))), .pointer (some ((⟨g7, 0, none⟩ : Addr).add (Int.toNat (bAnd z1 1) * 1)))⟩, ⟨false, [], vS (Instr.loadAt 3 (.pointer (some ((⟨g7, 0, none⟩ : Addr).add (Int.toNat (bAnd z1 1) * 1))))), .int .i64 (geti taken1 (bAnd z1 1))⟩, ⟨true, [], vS (Instr.indexAt 25 (.pointer (some ⟨g7, 0, none⟩)) (.int .i64 (bAnd z1 1))), .pointer (some ((⟨g7, 0, none⟩ : Addr).add (Int.toNat (bAnd z1 1) * 1)))⟩] [none, none, some (.pointer (some ((⟨g7, 0, none⟩ : Addr).add (Int.toNat (bAnd z1 1) * 1)))), some (.int .i64 (geti taken1 (bAnd z1 1))), none, none, some (.pointer (some ((⟨g7, 0, none⟩ : Addr).add (Int.toNat (bAnd z1 1) * 1))))] [1, 2, 4, 5, 8, 9, 36, 37, 38, 82, 83] [pl 1 (.slice A2 moves1.length c2), pl 2 (.pointer (some ⟨g4, 0, none⟩)), pl 4 (.pointer (some ⟨g5, 0, none⟩)), pl 5 (.pointer (some ⟨g6, 0, none⟩)), pl 8 (.pointer (some ⟨g7, 0, none⟩)), pl 9 (.map (some g8)), pl 36 (.slice A2 moves1.length c2), pl 37 (.int .i64 (moves1.length : Int)), pl 38 (.int .i64 z1), pl 82 (.int .i64 (w64 ((geti taken1 (bAnd z1 1)) + r4.2.2.2.1))), pl 83 (.pointer (some ((⟨g7, 0, none⟩ : Addr).add (Int.toNat (bAnd z1 1) * 1))))] hF hS (by kernel_rfl) (by kernel_rfl) ?_ (fun a w hF hS => ?_)
                  · exact obs_cons (ob_ixA UndA25 hi3 hs3 (fun _ => hp2)) <| obs_cons (ob_getA (m := taken1) (Value.int .i64) (0 : Int) 2 ([] : List Value) ([] : List Value) (bAnd z1 1) Agg3 rfl (fun _ hS => ⟨_, _, _, _, _, hS.at_ 4 rfl⟩) (fun hy => by have h0 := hp2; omega)) <| obs_cons (ob_ixA UndA25 hi3 hs3 (fun _ => hp3)) <| obs_nil
                  obtain ⟨w, hrun, hS⟩ := run_setA (P := Try.prog) (t := 3) (x := (w64 ((geti taken1 (bAnd z1 1)) + r4.2.2.2.1))) (i := (bAnd z1 1)) (m := taken1) (d := Int.toNat (bAnd z1 1) * 1) (Value.int .i64) (0 : Int) 2 ([] : List Value) ([] : List Value) (hS.at_ 4 rfl) rfl hi3 hs3 rfl (by have h0 := hp3; omega) (by have h0 := hp3; have h9 := hp4; omega)
                  refine at_skip hF (by kernel_rfl) hrun ?_
                  have hS : Sep w0 B w (blk g4 24 #[.int .i64 r4.1, .int .i64 r4.2.1, .slice A7 r4.2.2.1.length c7] :: own 3 (.slice A4 g11.length c4) (vI g11) :: blk g5 24 #[.int .i64 0, .int .i64 0, .slice none 0 0] :: blk g6 25 (List.toArray (([] : List Value) ++ (arr1 (Value.int .i64) (0 : Int) 2 (List.replicate 2 (0 : Int)) ++ ([] : List Value)))) :: blk g7 25 (List.toArray (([] : List Value) ++ (arr1 (Value.int .i64) (0 : Int) 2 (taken1.set (Int.toNat (bAnd z1 1)) (w64 ((geti taken1 (bAnd z1 1)) + r4.2.2.2.1))) ++ ([] : List Value)))) :: mapH kf9 (Value.int .i64) g8 boards4 :: blk g18 24 #[.int .i64 r4.1, .int .i64 r4.2.1, .slice A7 r4.2.2.1.length c7] :: own 3 (.slice A7 r4.2.2.1.length c7) (vI r4.2.2.1) :: fs) := hS
                  refine at_end [1, 2, 4, 5, 8, 9, 36, 37, 38] [pl 1 (.slice A2 moves1.length c2), pl 2 (.pointer (some ⟨g4, 0, none⟩)), pl 4 (.pointer (some ⟨g5, 0, none⟩)), pl 5 (.pointer (some ⟨g6, 0, none⟩)), pl 8 (.pointer (some ⟨g7, 0, none⟩)), pl 9 (.map (some g8)), pl 36 (.slice A2 moves1.length c2), pl 37 (.int .i64 (moves1.length : Int)), pl 38 (.int .i64 z1)] hF rfl (by kernel_rfl) (fun hF => ?_)
                  refine then_n ?_
                  refine reg1 [] [] [1, 2, 4, 5, 8, 9, 10, 36, 37, 38] [pl 1 (.slice A2 moves1.length c2), pl 2 (.pointer (some ⟨g4, 0, none⟩)), pl 4 (.pointer (some ⟨g5, 0, none⟩)), pl 5 (.pointer (some ⟨g6, 0, none⟩)), pl 8 (.pointer (some ⟨g7, 0, none⟩)), pl 9 (.map (some g8)), pl 10 (.int .i64 0), pl 36 (.slice A2 moves1.length c2), pl 37 (.int .i64 (moves1.length : Int)), pl 38 (.int .i64 z1)] hF hS Fol (by kernel_rfl) (by kernel_rfl) (by kernel_rfl) ?_ (fun a w hF hS => ?_)
                  · exact obs_nil
                  refine block_n ?_
                  refine then_n ?_
                  have hS := hS.pickN 8 [0, 7, 2, 3, 4, 5] (by decide)
                  exact ⟨r4.1, r4.2.1, r4.2.2.1, (taken1.set (Int.toNat (bAnd z1 1)) (w64 ((geti taken1 (bAnd z1 1)) + r4.2.2.2.1))), boards4, 0, A7, c7, hF.weak [1, 2, 4, 5, 8, 9, 10, 36, 37, 38] (by kernel_rfl), hS, hm⟩
                · refine reg [] [] [1, 2, 4, 5, 8, 9, 11, 13, 14, 15, 36, 37, 38, 71] [pl 1 (.slice A2 moves1.length c2), pl 2 (.pointer (some ⟨g4, 0, none⟩)), pl 4 (.pointer (some ⟨g5, 0, none⟩)), pl 5 (.pointer (some ⟨g6, 0, none⟩)), pl 8 (.pointer (some ⟨g7, 0, none⟩)), pl 9 (.map (some g8)), pl 11 (.int .i64 z1), pl 13 (.pointer (some ⟨g18, 0, none⟩)), pl 14 (.int .i64 r4.2.2.2.1), pl 15 (.int .i64 e1), pl 36 (.slice A2 moves1.length c2), pl 37 (.int .i64 (moves1.length : Int)), pl 38 (.int .i64 z1), pl 71 (.bool (e1 != 0))] hF hS Fol (by kernel_rfl) (by kernel_rfl) (by kernel_rfl) ?_ (fun a w hF hS => ?_)
                  · exact obs_nil
                  refine cond_ev (t := 71) (b := (e1 != 0)) hF (by kernel_rfl) (fun hb => ?_) (fun hb => ?_)
                  · replace hm := if_t hm hb
                    refine seq_cut (fun a w => Fr 89 [pl 4 (.pointer (some ⟨g5, 0, none⟩)), pl 5 (.pointer (some ⟨g6, 0, none⟩)), pl 6 (.int .i64 z1), pl 7 (.int .i64 e1)] a ∧ Sep w0 B w (blk g5 24 #[.int .i64 g9, .int .i64 g10, .slice A4 g11.length c4] :: own 3 (.slice A4 g11.length c4) (vI g11) :: blk g6 25 (List.toArray (([] : List Value) ++ (arr1 (Value.int .i64) (0 : Int) 2 taken1 ++ ([] : List Value)))) :: fs) ∧ ((stones_Play_J13 g9 g10 g11 taken1 z1 e1)).bind φ1 = some r) ?_ ?_
                    · rintro a w ⟨hF, hS, hm⟩
                      unfold stones_Play_J13 at hm
                      refine wpIn_ret ?_
                      refine then_r (block_r (then_r (then_r (block_r (then_r ?_)))))
                      rw [← hφ1] at hm
                      replace hm := done_b hm
                      unfold stones_Play_K1 at hm
                      try dsimp only at hm
                      have hld0 := run_loadVarA (P := Try.prog) (t := 24) (cs := #[.int .i64 g9, .int .i64 g10, .slice A4 g11.length c4]) (by kernel_rfl) (by kernel_rfl) ((hS.at_ 0 rfl).cellsAt 0 (by rfl))
                      have hld1 := run_loadVarA (P := Try.prog) (t := 25) (cs := (List.toArray (([] : List Value) ++ (arr1 (Value.int .i64) (0 : Int) 2 taken1 ++ ([] : List Value))))) (by kernel_rfl) (by kernel_rfl) ((hS.at_ 2 rfl).cellsAt 0 (by rfl))
                      have hS := hS.pickN 3 [1] (by decide)
                      have hm : some (g9, g10, g11, taken1, z1, e1) = some r := hm
                      obtain rfl := Option.some.inj hm
                      exact retV (rs := [.cell 4 24, .cell 5 25, .tmp 6, .tmp 7]) (vs := [.agg #[.int .i64 g9, .int .i64 g10, .slice A4 g11.length c4], .agg (List.toArray (([] : List Value) ++ (arr1 (Value.int .i64) (0 : Int) 2 taken1 ++ ([] : List Value)))), .int .i64 z1, .int .i64 e1]) hF rfl (rv_c (by kernel_rfl) hld0 <| rv_c (by kernel_rfl) hld1 <| rv_t (by kernel_rfl) <| rv_t (by kernel_rfl) <| rv_nil) rfl ⟨_, rfl, A4, c4, rfl, hS⟩
                    · refine regMix5 [0, 2, 3] [4, 5] 5 #[true, false, true, true, false, false, false, false] [⟨false, [], vS (Instr.loadAt 24 (.pointer (some ⟨g4, 0, none⟩))), .agg #[.int .i64 g9, .int .i64 g10, .slice A4 g11.length c4]⟩] [some (.agg #[.int .i64 g9, .int .i64 g10, .slice A4 g11.length c4]), none, none] [4, 5, 8, 72, 74, 75] [pl 4 (.pointer (some ⟨g5, 0, none⟩)), pl 5 (.pointer (some ⟨g6, 0, none⟩)), pl 8 (.pointer (some ⟨g7, 0, none⟩)), pl 72 (.agg #[.int .i64 g9, .int .i64 g10, .slice A4 g11.length c4]), pl 74 (.int .i64 z1), pl 75 (.int .i64 e1)] hF hS Fol (by kernel_rfl) (by kernel_rfl) (by kernel_rfl) (by kernel_rfl) ?_ (fun a w hF hS => ?_)
                      · exact obs_cons (ob_loadA (cs := #[.int .i64 g9, .int .i64 g10, .slice A4 g11.length c4]) (by kernel_rfl) (by kernel_rfl) (fun _ _ hS => (hS.at_ 0 rfl).cellsAt 0 (by rfl))) <| obs_nil
                      refine any_share 3 #[true, true, true, true, true, false, false, false] (fun a w => Fr 89 [pl 4 (.pointer (some ⟨g5, 0, none⟩)), pl 5 (.pointer (some ⟨g6, 0, none⟩)), pl 73 (.agg (List.toArray (([] : List Value) ++ (arr1 (Value.int .i64) (0 : Int) 2 taken1 ++ ([] : List Value))))), pl 74 (.int .i64 z1), pl 75 (.int .i64 e1)] a ∧ Sep w0 B w (blk g4 24 #[.int .i64 g9, .int .i64 g10, .slice A4 g11.length c4] :: own 3 (.slice A4 g11.length c4) (vI g11) :: blk g5 24 #[.int .i64 g9, .int .i64 g10, .slice A4 g11.length c4] :: blk g6 25 (List.toArray (([] : List Value) ++ (arr1 (Value.int .i64) (0 : Int) 2 (List.replicate 2 (0 : Int)) ++ ([] : List Value)))) :: blk g7 25 (List.toArray (([] : List Value) ++ (arr1 (Value.int .i64) (0 : Int) 2 taken1 ++ ([] : List Value)))) :: mapH kf9 (Value.int .i64) g8 boards4 :: blk g18 24 #[.int .i64 r4.1, .int .i64 r4.2.1, .slice A7 r4.2.2.1.length c7] :: own 3 (.slice A7 r4.2.2.1.length c7) (vI r4.2.2.1) :: fs)) (fun a w hI => ?_) (fun sh4 => ?_)
                      · obtain ⟨hF, hS⟩ := hI
                        refine any_step [5] (by kernel_rfl) rfl ?_
                        refine (all_cons ?_ all_nil)
                        · refine any_op (listed' := #[true, true, true, true, true, true, false, false]) (by kernel_rfl) (by kernel_rfl) ?_
                          obtain ⟨w, hrun, hS⟩ := run_putA (P := Try.prog) (t := 25) (us := (List.toArray (([] : List Value) ++ (arr1 (Value.int .i64) (0 : Int) 2 taken1 ++ ([] : List Value))))) (o := 0) (hS.at_ 3 rfl) (by kernel_rfl) (all_one (by kernel_rfl)) (Nat.le_of_ble_eq_true (by kernel_rfl))
                          refine at_skip hF (by kernel_rfl) hrun ?_
                          have hS : Sep w0 B w (blk g4 24 #[.int .i64 g9, .int .i64 g10, .slice A4 g11.length c4] :: own 3 (.slice A4 g11.length c4) (vI g11) :: blk g5 24 #[.int .i64 g9, .int .i64 g10, .slice A4 g11.length c4] :: blk g6 25 (List.toArray (([] : List Value) ++ (arr1 (Value.int .i64) (0 : Int) 2 taken1 ++ ([] : List Value)))) :: blk g7 25 (List.toArray (([] : List Value) ++ (arr1 (Value.int .i64) (0 : Int) 2 taken1 ++ ([] : List Value)))) :: mapH kf9 (Value.int .i64) g8 boards4 :: blk g18 24 #[.int .i64 r4.1, .int .i64 r4.2.1, .slice A7 r4.2.2.1.length c7] :: own 3 (.slice A7 r4.2.2.1.length c7) (vI r4.2.2.1) :: fs) := hS
                          refine any_finE rfl (by decide) ?_
                          refine any_step [6] (by kernel_rfl) rfl ?_
                          refine (all_cons ?_ all_nil)
                          · refine any_op (listed' := #[true, true, true, true, true, true, true, false]) (by kernel_rfl) (by kernel_rfl) ?_
                            refine at_runW 1 [] [] [4, 5, 6, 75] [pl 4 (.pointer (some ⟨g5, 0, none⟩)), pl 5 (.pointer (some ⟨g6, 0, none⟩)), pl 6 (.int .i64 z1), pl 75 (.int .i64 e1)] hF hS (by kernel_rfl) (by kernel_rfl) ?_ (fun a hF => ?_)
                            · exact obs_nil
                            refine any_finI rfl (fun h => h) ?_
                            refine any_step [7] (by kernel_rfl) rfl ?_
                            refine (all_cons ?_ all_nil)
                            · refine any_op (listed' := #[true, true, true, true, true, true, true, true]) (by kernel_rfl) (by kernel_rfl) ?_
                              refine at_runW 1 [] [] [4, 5, 6, 7] [pl 4 (.pointer (some ⟨g5, 0, none⟩)), pl 5 (.pointer (some ⟨g6, 0, none⟩)), pl 6 (.int .i64 z1), pl 7 (.int .i64 e1)] hF hS (by kernel_rfl) (by kernel_rfl) ?_ (fun a hF => ?_)
                              · exact obs_nil
                              refine any_finI rfl (fun h => h) ?_
                              refine any_end (by kernel_rfl) ?_
                              refine np_n ?_
                              refine then_n ?_
                              have hS := hS.pickN 8 [2, 1, 3] (by decide)
                              exact ⟨hF.weak [4, 5, 6, 7] (by kernel_rfl), hS, hm⟩
                      refine any_step [1, 4] (by kernel_rfl) rfl ?_
                      refine (all_cons ?_ (all_cons ?_ all_nil))
                      · refine any_op (listed' := #[true, true, true, true, false, false, false, false]) (by kernel_rfl) (by kernel_rfl) ?_
                        refine at_runW 1 [⟨false, [], vS (Instr.loadAt 25 (.pointer (some ⟨g7, 0, none⟩))), .agg (List.toArray (([] : List Value) ++ (arr1 (Value.int .i64) (0 : Int) 2 taken1 ++ ([] : List Value))))⟩] [some (.agg (List.toArray (([] : List Value) ++ (arr1 (Value.int .i64) (0 : Int) 2 taken1 ++ ([] : List Value)))))] [4, 5, 72, 73, 74, 75] [pl 4 (.pointer (some ⟨g5, 0, none⟩)), pl 5 (.pointer (some ⟨g6, 0, none⟩)), pl 72 (.agg #[.int .i64 g9, .int .i64 g10, .slice A4 g11.length c4]), pl 73 (.agg (List.toArray (([] : List Value) ++ (arr1 (Value.int .i64) (0 : Int) 2 taken1 ++ ([] : List Value))))), pl 74 (.int .i64 z1), pl 75 (.int .i64 e1)] hF hS (by kernel_rfl) (by kernel_rfl) ?_ (fun a hF => ?_)
                        · exact obs_cons (ob_loadA (cs := (List.toArray (([] : List Value) ++ (arr1 (Value.int .i64) (0 : Int) 2 taken1 ++ ([] : List Value))))) (by kernel_rfl) (by kernel_rfl) (fun _ _ hS => (hS.at_ 4 rfl).cellsAt 0 (by rfl))) <| obs_nil
                        refine any_finI rfl (fun h => h) ?_
                        refine any_step [4] (by kernel_rfl) rfl ?_
                        refine (all_cons ?_ all_nil)
                        · refine any_op (listed' := #[true, true, true, true, true, false, false, false]) (by kernel_rfl) (by kernel_rfl) ?_
                          obtain ⟨w, hrun, hS⟩ := run_putA (P := Try.prog) (t := 24) (us := #[.int .i64 g9, .int .i64 g10, .slice A4 g11.length c4]) (o := 0) (hS.at_ 2 rfl) (by kernel_rfl) (all_one (by kernel_rfl)) (Nat.le_of_ble_eq_true (by kernel_rfl))
                          refine at_skip hF (by kernel_rfl) hrun ?_
                          have hS : Sep w0 B w (blk g4 24 #[.int .i64 g9, .int .i64 g10, .slice A4 g11.length c4] :: own 3 (.slice A4 g11.length c4) (vI g11) :: blk g5 24 #[.int .i64 g9, .int .i64 g10, .slice A4 g11.length c4] :: blk g6 25 (List.toArray (([] : List Value) ++ (arr1 (Value.int .i64) (0 : Int) 2 (List.replicate 2 (0 : Int)) ++ ([] : List Value)))) :: blk g7 25 (List.toArray (([] : List Value) ++ (arr1 (Value.int .i64) (0 : Int) 2 taken1 ++ ([] : List Value)))) :: mapH kf9 (Value.int .i64) g8 boards4 :: blk g18 24 #[.int .i64 r4.1, .int .i64 r4.2.1, .slice A7 r4.2.2.1.length c7] :: own 3 (.slice A7 r4.2.2.1.length c7) (vI r4.2.2.1) :: fs) := hS
                          refine any_finE rfl (by decide) ?_
                          exact sh4 _ _ ⟨hF.weak [4, 5, 73, 74, 75] (by kernel_rfl), hS⟩
                      · refine any_op (listed' := #[true, false, true, true, true, false, false, false]) (by kernel_rfl) (by kernel_rfl) ?_
                        obtain ⟨w, hrun, hS⟩ := run_putA (P := Try.prog) (t := 24) (us := #[.int .i64 g9, .int .i64 g10, .slice A4 g11.length c4]) (o := 0) (hS.at_ 2 rfl) (by kernel_rfl) (all_one (by kernel_rfl)) (Nat.le_of_ble_eq_true (by kernel_rfl))
                        refine at_skip hF (by kernel_rfl) hrun ?_
                        have hS : Sep w0 B w (blk g4 24 #[.int .i64 g9, .int .i64 g10, .slice A4 g11.length c4] :: own 3 (.slice A4 g11.length c4) (vI g11) :: blk g5 24 #[.int .i64 g9, .int .i64 g10, .slice A4 g11.length c4] :: blk g6 25 (List.toArray (([] : List Value) ++ (arr1 (Value.int .i64) (0 : Int) 2 (List.replicate 2 (0 : Int)) ++ ([] : List Value)))) :: blk g7 25 (List.toArray (([] : List Value) ++ (arr1 (Value.int .i64) (0 : Int) 2 taken1 ++ ([] : List Value)))) :: mapH kf9 (Value.int .i64) g8 boards4 :: blk g18 24 #[.int .i64 r4.1, .int .i64 r4.2.1, .slice A7 r4.2.2.1.length c7] :: own 3 (.slice A7 r4.2.2.1.length c7) (vI r4.2.2.1) :: fs) := hS
                        refine any_finE rfl (by decide) ?_
                        refine any_step [1] (by kernel_rfl) rfl ?_
                        refine (all_cons ?_ all_nil)
                        · refine any_op (listed' := #[true, true, true, true, true, false, false, false]) (by kernel_rfl) (by kernel_rfl) ?_
                          refine at_runW 1 [⟨false, [], vS (Instr.loadAt 25 (.pointer (some ⟨g7, 0, none⟩))), .agg (List.toArray (([] : List Value) ++ (arr1 (Value.int .i64) (0 : Int) 2 taken1 ++ ([] : List Value))))⟩] [some (.agg (List.toArray (([] : List Value) ++ (arr1 (Value.int .i64) (0 : Int) 2 taken1 ++ ([] : List Value)))))] [4, 5, 73, 74, 75] [pl 4 (.pointer (some ⟨g5, 0, none⟩)), pl 5 (.pointer (some ⟨g6, 0, none⟩)), pl 73 (.agg (List.toArray (([] : List Value) ++ (arr1 (Value.int .i64) (0 : Int) 2 taken1 ++ ([] : List Value))))), pl 74 (.int .i64 z1), pl 75 (.int .i64 e1)] hF hS (by kernel_rfl) (by kernel_rfl) ?_ (fun a hF => ?_)
                          · exact obs_cons (ob_loadA (cs := (List.toArray (([] : List Value) ++ (arr1 (Value.int .i64) (0 : Int) 2 taken1 ++ ([] : List Value))))) (by kernel_rfl) (by kernel_rfl) (fun _ _ hS => (hS.at_ 4 rfl).cellsAt 0 (by rfl))) <| obs_nil
                          refine any_finI rfl (fun h => h) ?_
                          exact sh4 _ _ ⟨hF.weak [4, 5, 73, 74, 75] (by kernel_rfl), hS⟩
                  · replace hm := if_f hm hb
                    refine wpIn_skip ?_
                    refine then_n ?_
                    exact ⟨hF.weak [1, 2, 4, 5, 8, 9, 11, 13, 14, 36, 37, 38] (by kernel_rfl), hS, hm⟩
              · refine seq_cut (fun a w => ∃ (boards3 : List (List UInt8 × Int)) (z2 : Bool), Fr 89 [pl 1 (.slice A2 moves1.length c2), pl 2 (.pointer (some ⟨g4, 0, none⟩)), pl 4 (.pointer (some ⟨g5, 0, none⟩)), pl 5 (.pointer (some ⟨g6, 0, none⟩)), pl 8 (.pointer (some ⟨g7, 0, none⟩)), pl 9 (.map (some g8)), pl 11 (.int .i64 z1), pl 13 (.pointer (some ⟨g18, 0, none⟩)), pl 14 (.int .i64 r4.2.2.2.1), pl 15 (.int .i64 r4.2.2.2.2), pl 36 (.slice A2 moves1.length c2), pl 37 (.int .i64 (moves1.length : Int)), pl 38 (.int .i64 z1), pl 69 (.bool z2)] a ∧ Sep w0 B w (blk g4 24 #[.int .i64 g9, .int .i64 g10, .slice A4 g11.length c4] :: own 3 (.slice A4 g11.length c4) (vI g11) :: blk g5 24 #[.int .i64 0, .int .i64 0, .slice none 0 0] :: blk g6 25 (List.toArray (([] : List Value) ++ (arr1 (Value.int .i64) (0 : Int) 2 (List.replicate 2 (0 : Int)) ++ ([] : List Value)))) :: blk g7 25 (List.toArray (([] : List Value) ++ (arr1 (Value.int .i64) (0 : Int) 2 taken1 ++ ([] : List Value)))) :: mapH kf9 (Value.int .i64) g8 boards3 :: blk g18 24 #[.int .i64 r4.1, .int .i64 r4.2.1, .slice A7 r4.2.2.1.length c7] :: own 3 (.slice A7 r4.2.2.1.length c7) (vI r4.2.2.1) :: fs) ∧ ((stones_Play_J11 g9 g10 g11 taken1 z1 r4) boards3 z2).bind φ1 = some r) ?_ ?_
                · rintro a w ⟨boards3, z2, hF, hS, hm⟩
                  unfold stones_Play_J11 at hm
                  refine cond_ev (t := 69) (b := z2) hF (by kernel_rfl) (fun hb => ?_) (fun hb => ?_)
                  · replace hm := if_t hm hb
                    refine reg1 [] [] [1, 2, 4, 5, 8, 9, 11, 13, 14, 15, 36, 37, 38] [pl 1 (.slice A2 moves1.length c2), pl 2 (.pointer (some ⟨g4, 0, none⟩)), pl 4 (.pointer (some ⟨g5, 0, none⟩)), pl 5 (.pointer (some ⟨g6, 0, none⟩)), pl 8 (.pointer (some ⟨g7, 0, none⟩)), pl 9 (.map (some g8)), pl 11 (.int .i64 z1), pl 13 (.pointer (some ⟨g18, 0, none⟩)), pl 14 (.int .i64 r4.2.2.2.1), pl 15 (.int .i64 8), pl 36 (.slice A2 moves1.length c2), pl 37 (.int .i64 (moves1.length : Int)), pl 38 (.int .i64 z1)] hF hS Fol (by kernel_rfl) (by kernel_rfl) (by kernel_rfl) ?_ (fun a w hF hS => ?_)
                    · exact obs_nil
                    refine then_n ?_
                    exact ⟨boards3, 8, hF.weak [1, 2, 4, 5, 8, 9, 11, 13, 14, 15, 36, 37, 38] (by kernel_rfl), hS, hm⟩
                  · replace hm := if_f hm hb
                    refine wpIn_skip ?_
                    refine then_n ?_
                    exact ⟨boards3, r4.2.2.2.2, hF.weak [1, 2, 4, 5, 8, 9, 11, 13, 14, 15, 36, 37, 38] (by kernel_rfl), hS, hm⟩
                · refine oneR ?_
                  refine at_run 5 [⟨false, [((r4.2.2.2.2 == 0), true)], vS (Instr.loadAt 24 (.pointer (some ⟨g18, 0, none⟩))), .agg #[.int .i64 r4.1, .int .i64 r4.2.1, .slice A7 r4.2.2.1.length c7]⟩] [none, none, none, none, some (.agg #[.int .i64 r4.1, .int .i64 r4.2.1, .slice A7 r4.2.2.1.length c7])] [1, 2, 4, 5, 8, 9, 11, 13, 14, 15, 36, 37, 38, 64, 65, 66] [pl 1 (.slice A2 moves1.length c2), pl 2 (.pointer (some ⟨g4, 0, none⟩)), pl 4 (.pointer (some ⟨g5, 0, none⟩)), pl 5 (.pointer (some ⟨g6, 0, none⟩)), pl 8 (.pointer (some ⟨g7, 0, none⟩)), pl 9 (.map (some g8)), pl 11 (.int .i64 z1), pl 13 (.pointer (some ⟨g18, 0, none⟩)), pl 14 (.int .i64 r4.2.2.2.1), pl 15 (.int .i64 r4.2.2.2.2), pl 36 (.slice A2 moves1.length c2), pl 37 (.int .i64 (moves1.length : Int)), pl 38 (.int .i64 z1), pl 64 (.bool (r4.2.2.2.2 == 0)), ⟨65, [(64, true)], .map (some g8)⟩, ⟨66, [(64, true)], .agg #[.int .i64 r4.1, .int .i64 r4.2.1, .slice A7 r4.2.2.1.length c7]⟩] hF hS (by kernel_rfl) (by kernel_rfl) ?_ (fun a w hF hS => ?_)
                  · exact obs_cons (ob_loadA (cs := #[.int .i64 r4.1, .int .i64 r4.2.1, .slice A7 r4.2.2.1.length c7]) (by kernel_rfl) (by kernel_rfl) (fun _ _ hS => (hS.at_ 0 rfl).cellsAt 0 (by rfl))) <| obs_nil
                  rcases Bool.eq_false_or_eq_true (r4.2.2.2.2 == 0) with hg1 | hg1
                  · replace hm := if_t hm hg1
                    obtain ⟨r5, hr5, hm⟩ := call_b hm
                    have hS : Sep w0 B w (mapH kf9 (Value.int .i64) g8 boards1 :: blk g18 24 #[.int .i64 r4.1, .int .i64 r4.2.1, .slice A7 r4.2.2.1.length c7] :: own 3 (.slice A7 r4.2.2.1.length c7) (vI r4.2.2.1) :: blk g4 24 #[.int .i64 g9, .int .i64 g10, .slice A4 g11.length c4] :: own 3 (.slice A4 g11.length c4) (vI g11) :: blk g5 24 #[.int .i64 0, .int .i64 0, .slice none 0 0] :: blk g6 25 (List.toArray (([] : List Value) ++ (arr1 (Value.int .i64) (0 : Int) 2 (List.replicate 2 (0 : Int)) ++ ([] : List Value)))) :: blk g7 25 (List.toArray (([] : List Value) ++ (arr1 (Value.int .i64) (0 : Int) 2 taken1 ++ ([] : List Value)))) :: fs) := hS.pickN 8 [7, 0, 1, 2, 3, 4, 5, 6] (by decide)
                    refine at_gcall (hs := [((r4.2.2.2.2 == 0), true)]) (fun y hy => by simp only [List.mem_cons, List.not_mem_nil, or_false] at hy; subst hy; first | exact hg1) (f := 40) (args := #[.map (some g8), .agg #[.int .i64 r4.1, .int .i64 r4.2.1, .slice A7 r4.2.2.1.length c7]]) (d := 67) hF (by kernel_rfl) (by kernel_rfl) Try.func40 (by kernel_rfl) rfl (stones_seen_add_w hr5 hS (fun _ hS => (hS.at_ 1 rfl).rd) (((hS.dropN 1).at_ 1 rfl).cap1) rfl) (fun v a w hR hF => ?_)
                    clear hS
                    obtain ⟨rfl, hS⟩ := hR
                    have hS : Sep w0 B w (mapH kf9 (Value.int .i64) g8 r5.2 :: blk g18 24 #[.int .i64 r4.1, .int .i64 r4.2.1, .slice A7 r4.2.2.1.length c7] :: own 3 (.slice A7 r4.2.2.1.length c7) (vI r4.2.2.1) :: blk g4 24 #[.int .i64 g9, .int .i64 g10, .slice A4 g11.length c4] :: own 3 (.slice A4 g11.length c4) (vI g11) :: blk g5 24 #[.int .i64 0, .int .i64 0, .slice none 0 0] :: blk g6 25 (List.toArray (([] : List Value) ++ (arr1 (Value.int .i64) (0 : Int) 2 (List.replicate 2 (0 : Int)) ++ ([] : List Value)))) :: blk g7 25 (List.toArray (([] : List Value) ++ (arr1 (Value.int .i64) (0 : Int) 2 taken1 ++ ([] : List Value)))) :: fs) := hS
                    refine at_run 2 [] [] [1, 2, 4, 5, 8, 9, 11, 13, 14, 15, 36, 37, 38, 69] [pl 1 (.slice A2 moves1.length c2), pl 2 (.pointer (some ⟨g4, 0, none⟩)), pl 4 (.pointer (some ⟨g5, 0, none⟩)), pl 5 (.pointer (some ⟨g6, 0, none⟩)), pl 8 (.pointer (some ⟨g7, 0, none⟩)), pl 9 (.map (some g8)), pl 11 (.int .i64 z1), pl 13 (.pointer (some ⟨g18, 0, none⟩)), pl 14 (.int .i64 r4.2.2.2.1), pl 15 (.int .i64 r4.2.2.2.2), pl 36 (.slice A2 moves1.length c2), pl 37 (.int .i64 (moves1.length : Int)), pl 38 (.int .i64 z1), pl 69 (.bool ((r4.2.2.2.2 == 0) && (decide ((1 : Int) < r5.1))))] hF hS (by kernel_rfl) (by kernel_rfl) ?_ (fun a w hF hS => ?_)
                    · exact obs_nil
                    refine at_end [1, 2, 4, 5, 8, 9, 11, 13, 14, 15, 36, 37, 38, 69] [pl 1 (.slice A2 moves1.length c2), pl 2 (.pointer (some ⟨g4, 0, none⟩)), pl 4 (.pointer (some ⟨g5, 0, none⟩)), pl 5 (.pointer (some ⟨g6, 0, none⟩)), pl 8 (.pointer (some ⟨g7, 0, none⟩)), pl 9 (.map (some g8)), pl 11 (.int .i64 z1), pl 13 (.pointer (some ⟨g18, 0, none⟩)), pl 14 (.int .i64 r4.2.2.2.1), pl 15 (.int .i64 r4.2.2.2.2), pl 36 (.slice A2 moves1.length c2), pl 37 (.int .i64 (moves1.length : Int)), pl 38 (.int .i64 z1), pl 69 (.bool ((r4.2.2.2.2 == 0) && (decide ((1 : Int) < r5.1))))] hF rfl (by kernel_rfl) (fun hF => ?_)
                    refine then_n ?_
                    have hS := hS.pickN 8 [3, 4, 5, 6, 7, 0, 1, 2] (by decide)
                    exact ⟨r5.2, ((r4.2.2.2.2 == 0) && (decide ((1 : Int) < r5.1))), hF.weak [1, 2, 4, 5, 8, 9, 11, 13, 14, 15, 36, 37, 38, 69] (by kernel_rfl), hS, hm⟩
                  · replace hm := if_f hm hg1
                    refine at_gskip (d := 67) (v := .int .i64 0) (hs := [((r4.2.2.2.2 == 0), true)]) (ctx := [(64, true)]) hF (by kernel_rfl) (by kernel_rfl) (fun h => absurd (h ((r4.2.2.2.2 == 0), true) (by simp)) (by simp [hg1])) (fun a hF => ?_)
                    refine at_run 2 [] [] [1, 2, 4, 5, 8, 9, 11, 13, 14, 15, 36, 37, 38, 69] [pl 1 (.slice A2 moves1.length c2), pl 2 (.pointer (some ⟨g4, 0, none⟩)), pl 4 (.pointer (some ⟨g5, 0, none⟩)), pl 5 (.pointer (some ⟨g6, 0, none⟩)), pl 8 (.pointer (some ⟨g7, 0, none⟩)), pl 9 (.map (some g8)), pl 11 (.int .i64 z1), pl 13 (.pointer (some ⟨g18, 0, none⟩)), pl 14 (.int .i64 r4.2.2.2.1), pl 15 (.int .i64 r4.2.2.2.2), pl 36 (.slice A2 moves1.length c2), pl 37 (.int .i64 (moves1.length : Int)), pl 38 (.int .i64 z1), pl 69 (.bool ((r4.2.2.2.2 == 0) && (decide ((1 : Int) < 0))))] hF hS (by kernel_rfl) (by kernel_rfl) ?_ (fun a w hF hS => ?_)
                    · exact obs_nil
                    refine at_end [1, 2, 4, 5, 8, 9, 11, 13, 14, 15, 36, 37, 38, 69] [pl 1 (.slice A2 moves1.length c2), pl 2 (.pointer (some ⟨g4, 0, none⟩)), pl 4 (.pointer (some ⟨g5, 0, none⟩)), pl 5 (.pointer (some ⟨g6, 0, none⟩)), pl 8 (.pointer (some ⟨g7, 0, none⟩)), pl 9 (.map (some g8)), pl 11 (.int .i64 z1), pl 13 (.pointer (some ⟨g18, 0, none⟩)), pl 14 (.int .i64 r4.2.2.2.1), pl 15 (.int .i64 r4.2.2.2.2), pl 36 (.slice A2 moves1.length c2), pl 37 (.int .i64 (moves1.length : Int)), pl 38 (.int .i64 z1), pl 69 (.bool ((r4.2.2.2.2 == 0) && (decide ((1 : Int) < 0))))] hF rfl (by kernel_rfl) (fun hF => ?_)
                    refine then_n ?_
                    have hS := hS.pickN 8 [2, 3, 4, 5, 6, 7, 0, 1] (by decide)
                    exact ⟨boards1, ((r4.2.2.2.2 == 0) && (decide ((1 : Int) < 0))), hF.weak [1, 2, 4, 5, 8, 9, 11, 13, 14, 15, 36, 37, 38, 69] (by kernel_rfl), hS, hm⟩
            · refine reg [] [] [1, 2, 4, 5, 8, 9, 10, 11, 12, 36, 37, 38, 49] [pl 1 (.slice A2 moves1.length c2), pl 2 (.pointer (some ⟨g4, 0, none⟩)), pl 4 (.pointer (some ⟨g5, 0, none⟩)), pl 5 (.pointer (some ⟨g6, 0, none⟩)), pl 8 (.pointer (some ⟨g7, 0, none⟩)), pl 9 (.map (some g8)), pl 10 (.int .i64 passes1), pl 11 (.int .i64 z1), pl 12 (.int .i64 (geti moves1 z1)), pl 36 (.slice A2 moves1.length c2), pl 37 (.int .i64 (moves1.length : Int)), pl 38 (.int .i64 z1), pl 49 (.bool ((geti moves1 z1) == (-1)))] hF hS Fol (by kernel_rfl) (by kernel_rfl) (by kernel_rfl) ?_ (fun a w hF hS => ?_)
              · exact obs_nil
              refine cond_ev (t := 49) (b := ((geti moves1 z1) == (-1))) hF (by kernel_rfl) (fun hb => ?_) (fun hb => ?_)
              · replace hm := if_t hm hb
                refine reg [] [] [1, 2, 4, 5, 8, 9, 10, 36, 37, 38] [pl 1 (.slice A2 moves1.length c2), pl 2 (.pointer (some ⟨g4, 0, none⟩)), pl 4 (.pointer (some ⟨g5, 0, none⟩)), pl 5 (.pointer (some ⟨g6, 0, none⟩)), pl 8 (.pointer (some ⟨g7, 0, none⟩)), pl 9 (.map (some g8)), pl 10 (.int .i64 (w64 (passes1 + 1))), pl 36 (.slice A2 moves1.length c2), pl 37 (.int .i64 (moves1.length : Int)), pl 38 (.int .i64 z1)] hF hS Fol (by kernel_rfl) (by kernel_rfl) (by kernel_rfl) ?_ (fun a w hF hS => ?_)
                · exact obs_nil
                refine wpIn_exit ?_
                refine then_e (block_e (then_n ?_))
                exact ⟨g9, g10, g11, taken1, boards1, (w64 (passes1 + 1)), A4, c4, hF.weak [1, 2, 4, 5, 8, 9, 10, 36, 37, 38] (by kernel_rfl), hS, hm⟩
              · replace hm := if_f hm hb
                refine wpIn_skip ?_
                refine then_n ?_
                exact ⟨hF.weak [1, 2, 4, 5, 8, 9, 11, 12, 36, 37, 38] (by kernel_rfl), hS, hm⟩
          · refine reg [] [] [1, 2, 4, 5, 8, 9, 10, 11, 12, 36, 37, 38, 44] [pl 1 (.slice A2 moves1.length c2), pl 2 (.pointer (some ⟨g4, 0, none⟩)), pl 4 (.pointer (some ⟨g5, 0, none⟩)), pl 5 (.pointer (some ⟨g6, 0, none⟩)), pl 8 (.pointer (some ⟨g7, 0, none⟩)), pl 9 (.map (some g8)), pl 10 (.int .i64 passes1), pl 11 (.int .i64 z1), pl 12 (.int .i64 (geti moves1 z1)), pl 36 (.slice A2 moves1.length c2), pl 37 (.int .i64 (moves1.length : Int)), pl 38 (.int .i64 z1), pl 44 (.bool (passes1 == 2))] hF hS Fol (by kernel_rfl) (by kernel_rfl) (by kernel_rfl) ?_ (fun a w hF hS => ?_)
            · exact obs_nil
            refine cond_ev (t := 44) (b := (passes1 == 2)) hF (by kernel_rfl) (fun hb => ?_) (fun hb => ?_)
            · replace hm := if_t hm hb
              refine seq_cut (fun a w => Fr 89 [pl 4 (.pointer (some ⟨g5, 0, none⟩)), pl 5 (.pointer (some ⟨g6, 0, none⟩)), pl 6 (.int .i64 z1), pl 7 (.int .i64 9)] a ∧ Sep w0 B w (blk g5 24 #[.int .i64 g9, .int .i64 g10, .slice A4 g11.length c4] :: own 3 (.slice A4 g11.length c4) (vI g11) :: blk g6 25 (List.toArray (([] : List Value) ++ (arr1 (Value.int .i64) (0 : Int) 2 taken1 ++ ([] : List Value)))) :: fs) ∧ ((stones_Play_J8 g9 g10 g11 taken1 z1)).bind φ1 = some r) ?_ ?_
              · rintro a w ⟨hF, hS, hm⟩
                unfold stones_Play_J8 at hm
                refine wpIn_ret ?_
                refine then_r (block_r (then_r (then_r (block_r (then_r ?_)))))
                rw [← hφ1] at hm
                replace hm := done_b hm
                unfold stones_Play_K1 at hm
                try dsimp only at hm
                have hld0 := run_loadVarA (P := Try.prog) (t := 24) (cs := #[.int .i64 g9, .int .i64 g10, .slice A4 g11.length c4]) (by kernel_rfl) (by kernel_rfl) ((hS.at_ 0 rfl).cellsAt 0 (by rfl))
                have hld1 := run_loadVarA (P := Try.prog) (t := 25) (cs := (List.toArray (([] : List Value) ++ (arr1 (Value.int .i64) (0 : Int) 2 taken1 ++ ([] : List Value))))) (by kernel_rfl) (by kernel_rfl) ((hS.at_ 2 rfl).cellsAt 0 (by rfl))
                have hS := hS.pickN 3 [1] (by decide)
                have hm : some (g9, g10, g11, taken1, z1, 9) = some r := hm
                obtain rfl := Option.some.inj hm
                exact retV (rs := [.cell 4 24, .cell 5 25, .tmp 6, .tmp 7]) (vs := [.agg #[.int .i64 g9, .int .i64 g10, .slice A4 g11.length c4], .agg (List.toArray (([] : List Value) ++ (arr1 (Value.int .i64) (0 : Int) 2 taken1 ++ ([] : List Value)))), .int .i64 z1, .int .i64 9]) hF rfl (rv_c (by kernel_rfl) hld0 <| rv_c (by kernel_rfl) hld1 <| rv_t (by kernel_rfl) <| rv_t (by kernel_rfl) <| rv_nil) rfl ⟨_, rfl, A4, c4, rfl, hS⟩
              · refine regMix5 [0, 2] [3, 4] 5 #[true, false, true, false, false, false, false] [⟨false, [], vS (Instr.loadAt 24 (.pointer (some ⟨g4, 0, none⟩))), .agg #[.int .i64 g9, .int .i64 g10, .slice A4 g11.length c4]⟩] [some (.agg #[.int .i64 g9, .int .i64 g10, .slice A4 g11.length c4]), none] [4, 5, 8, 45, 47] [pl 4 (.pointer (some ⟨g5, 0, none⟩)), pl 5 (.pointer (some ⟨g6, 0, none⟩)), pl 8 (.pointer (some ⟨g7, 0, none⟩)), pl 45 (.agg #[.int .i64 g9, .int .i64 g10, .slice A4 g11.length c4]), pl 47 (.int .i64 z1)] hF hS Fol (by kernel_rfl) (by kernel_rfl) (by kernel_rfl) (by kernel_rfl) ?_ (fun a w hF hS => ?_)
                · exact obs_cons (ob_loadA (cs := #[.int .i64 g9, .int .i64 g10, .slice A4 g11.length c4]) (by kernel_rfl) (by kernel_rfl) (fun _ _ hS => (hS.at_ 0 rfl).cellsAt 0 (by rfl))) <| obs_nil
                refine any_share 3 #[true, true, true, true, false, false, false] (fun a w => Fr 89 [pl 4 (.pointer (some ⟨g5, 0, none⟩)), pl 5 (.pointer (some ⟨g6, 0, none⟩)), pl 46 (.agg (List.toArray (([] : List Value) ++ (arr1 (Value.int .i64) (0 : Int) 2 taken1 ++ ([] : List Value))))), pl 47 (.int .i64 z1)] a ∧ Sep w0 B w (blk g4 24 #[.int .i64 g9, .int .i64 g10, .slice A4 g11.length c4] :: own 3 (.slice A4 g11.length c4) (vI g11) :: blk g5 24 #[.int .i64 g9, .int .i64 g10, .slice A4 g11.length c4] :: blk g6 25 (List.toArray (([] : List Value) ++ (arr1 (Value.int .i64) (0 : Int) 2 (List.replicate 2 (0 : Int)) ++ ([] : List Value)))) :: blk g7 25 (List.toArray (([] : List Value) ++ (arr1 (Value.int .i64) (0 : Int) 2 taken1 ++ ([] : List Value)))) :: mapH kf9 (Value.int .i64) g8 boards1 :: fs)) (fun a w hI => ?_) (fun sh3 => ?_)
                · obtain ⟨hF, hS⟩ := hI
                  refine any_step [4] (by kernel_rfl) rfl ?_
                  refine (all_cons ?_ all_nil)
                  · refine any_op (listed' := #[true, true, true, true, true, false, false]) (by kernel_rfl) (by kernel_rfl) ?_
                    obtain ⟨w, hrun, hS⟩ := run_putA (P := Try.prog) (t := 25) (us := (List.toArray (([] : List Value) ++ (arr1 (Value.int .i64) (0 : Int) 2 taken1 ++ ([] : List Value))))) (o := 0) (hS.at_ 3 rfl) (by kernel_rfl) (all_one (by kernel_rfl)) (Nat.le_of_ble_eq_true (by kernel_rfl))
                    refine at_skip hF (by kernel_rfl) hrun ?_
                    have hS : Sep w0 B w (blk g4 24 #[.int .i64 g9, .int .i64 g10, .slice A4 g11.length c4] :: own 3 (.slice A4 g11.length c4) (vI g11) :: blk g5 24 #[.int .i64 g9, .int .i64 g10, .slice A4 g11.length c4] :: blk g6 25 (List.toArray (([] : List Value) ++ (arr1 (Value.int .i64) (0 : Int) 2 taken1 ++ ([] : List Value)))) :: blk g7 25 (List.toArray (([] : List Value) ++ (arr1 (Value.int .i64) (0 : Int) 2 taken1 ++ ([] : List Value)))) :: mapH kf9 (Value.int .i64) g8 boards1 :: fs) := hS
                    refine any_finE rfl (by decide) ?_
                    refine any_step [5] (by kernel_rfl) rfl ?_
                    refine (all_cons ?_ all_nil)
                    · refine any_op (listed' := #[true, true, true, true, true, true, false]) (by kernel_rfl) (by kernel_rfl) ?_
                      refine at_runW 1 [] [] [4, 5, 6] [pl 4 (.pointer (some ⟨g5, 0, none⟩)), pl 5 (.pointer (some ⟨g6, 0, none⟩)), pl 6 (.int .i64 z1)] hF hS (by kernel_rfl) (by kernel_rfl) ?_ (fun a hF => ?_)
                      · exact obs_nil
                      refine any_finI rfl (fun h => h) ?_
                      refine any_step [6] (by kernel_rfl) rfl ?_
                      refine (all_cons ?_ all_nil)
                      · refine any_op (listed' := #[true, true, true, true, true, true, true]) (by kernel_rfl) (by kernel_rfl) ?_
                        refine at_runW 1 [] [] [4, 5, 6, 7] [pl 4 (.pointer (some ⟨g5, 0, none⟩)), pl 5 (.pointer (some ⟨g6, 0, none⟩)), pl 6 (.int .i64 z1), pl 7 (.int .i64 9)] hF hS (by kernel_rfl) (by kernel_rfl) ?_ (fun a hF => ?_)
                        · exact obs_nil
                        refine any_finI rfl (fun h => h) ?_
                        refine any_end (by kernel_rfl) ?_
                        refine np_n ?_
                        refine then_n ?_
                        have hS := hS.pickN 6 [2, 1, 3] (by decide)
                        exact ⟨hF.weak [4, 5, 6, 7] (by kernel_rfl), hS, hm⟩
                refine any_step [1, 3] (by kernel_rfl) rfl ?_
                refine (all_cons ?_ (all_cons ?_ all_nil))
                · refine any_op (listed' := #[true, true, true, false, false, false, false]) (by kernel_rfl) (by kernel_rfl) ?_
                  refine at_runW 1 [⟨false, [], vS (Instr.loadAt 25 (.pointer (some ⟨g7, 0, none⟩))), .agg (List.toArray (([] : List Value) ++ (arr1 (Value.int .i64) (0 : Int) 2 taken1 ++ ([] : List Value))))⟩] [some (.agg (List.toArray (([] : List Value) ++ (arr1 (Value.int .i64) (0 : Int) 2 taken1 ++ ([] : List Value)))))] [4, 5, 45, 46, 47] [pl 4 (.pointer (some ⟨g5, 0, none⟩)), pl 5 (.pointer (some ⟨g6, 0, none⟩)), pl 45 (.agg #[.int .i64 g9, .int .i64 g10, .slice A4 g11.length c4]), pl 46 (.agg (List.toArray (([] : List Value) ++ (arr1 (Value.int .i64) (0 : Int) 2 taken1 ++ ([] : List Value))))), pl 47 (.int .i64 z1)] hF hS (by kernel_rfl) (by kernel_rfl) ?_ (fun a hF => ?_)
                  · exact obs_cons (ob_loadA (cs := (List.toArray (([] : List Value) ++ (arr1 (Value.int .i64) (0 : Int) 2 taken1 ++ ([] : List Value))))) (by kernel_rfl) (by kernel_rfl) (fun _ _ hS => (hS.at_ 4 rfl).cellsAt 0 (by rfl))) <| obs_nil
                  refine any_finI rfl (fun h => h) ?_
                  refine any_step [3] (by kernel_rfl) rfl ?_
                  refine (all_cons ?_ all_nil)
                  · refine any_op (listed' := #[true, true, true, true, false, false, false]) (by kernel_rfl) (by kernel_rfl) ?_
                    obtain ⟨w, hrun, hS⟩ := run_putA (P := Try.prog) (t := 24) (us := #[.int .i64 g9, .int .i64 g10, .slice A4 g11.length c4]) (o := 0) (hS.at_ 2 rfl) (by kernel_rfl) (all_one (by kernel_rfl)) (Nat.le_of_ble_eq_true (by kernel_rfl))
                    refine at_skip hF (by kernel_rfl) hrun ?_
                    have hS : Sep w0 B w (blk g4 24 #[.int .i64 g9, .int .i64 g10, .slice A4 g11.length c4] :: own 3 (.slice A4 g11.length c4) (vI g11) :: blk g5 24 #[.int .i64 g9, .int .i64 g10, .slice A4 g11.length c4] :: blk g6 25 (List.toArray (([] : List Value) ++ (arr1 (Value.int .i64) (0 : Int) 2 (List.replicate 2 (0 : Int)) ++ ([] : List Value)))) :: blk g7 25 (List.toArray (([] : List Value) ++ (arr1 (Value.int .i64) (0 : Int) 2 taken1 ++ ([] : List Value)))) :: mapH kf9 (Value.int .i64) g8 boards1 :: fs) := hS
                    refine any_finE rfl (by decide) ?_
                    exact sh3 _ _ ⟨hF.weak [4, 5, 46, 47] (by kernel_rfl), hS⟩
                · refine any_op (listed' := #[true, false, true, true, false, false, false]) (by kernel_rfl) (by kernel_rfl) ?_
                  obtain ⟨w, hrun, hS⟩ := run_putA (P := Try.prog) (t := 24) (us := #[.int .i64 g9, .int .i64 g10, .slice A4 g11.length c4]) (o := 0) (hS.at_ 2 rfl) (by kernel_rfl) (all_one (by kernel_rfl)) (Nat.le_of_ble_eq_true (by kernel_rfl))
                  refine at_skip hF (by kernel_rfl) hrun ?_
                  have hS : Sep w0 B w (blk g4 24 #[.int .i64 g9, .int .i64 g10, .slice A4 g11.length c4] :: own 3 (.slice A4 g11.length c4) (vI g11) :: blk g5 24 #[.int .i64 g9, .int .i64 g10, .slice A4 g11.length c4] :: blk g6 25 (List.toArray (([] : List Value) ++ (arr1 (Value.int .i64) (0 : Int) 2 (List.replicate 2 (0 : Int)) ++ ([] : List Value)))) :: blk g7 25 (List.toArray (([] : List Value) ++ (arr1 (Value.int .i64) (0 : Int) 2 taken1 ++ ([] : List Value)))) :: mapH kf9 (Value.int .i64) g8 boards1 :: fs) := hS
                  refine any_finE rfl (by decide) ?_
                  refine any_step [1] (by kernel_rfl) rfl ?_
                  refine (all_cons ?_ all_nil)
                  · refine any_op (listed' := #[true, true, true, true, false, false, false]) (by kernel_rfl) (by kernel_rfl) ?_
                    refine at_runW 1 [⟨false, [], vS (Instr.loadAt 25 (.pointer (some ⟨g7, 0, none⟩))), .agg (List.toArray (([] : List Value) ++ (arr1 (Value.int .i64) (0 : Int) 2 taken1 ++ ([] : List Value))))⟩] [some (.agg (List.toArray (([] : List Value) ++ (arr1 (Value.int .i64) (0 : Int) 2 taken1 ++ ([] : List Value)))))] [4, 5, 46, 47] [pl 4 (.pointer (some ⟨g5, 0, none⟩)), pl 5 (.pointer (some ⟨g6, 0, none⟩)), pl 46 (.agg (List.toArray (([] : List Value) ++ (arr1 (Value.int .i64) (0 : Int) 2 taken1 ++ ([] : List Value))))), pl 47 (.int .i64 z1)] hF hS (by kernel_rfl) (by kernel_rfl) ?_ (fun a hF => ?_)
                    · exact obs_cons (ob_loadA (cs := (List.toArray (([] : List Value) ++ (arr1 (Value.int .i64) (0 : Int) 2 taken1 ++ ([] : List Value))))) (by kernel_rfl) (by kernel_rfl) (fun _ _ hS => (hS.at_ 4 rfl).cellsAt 0 (by rfl))) <| obs_nil
                    refine any_finI rfl (fun h => h) ?_
                    exact sh3 _ _ ⟨hF.weak [4, 5, 46, 47] (by kernel_rfl), hS⟩
            · replace hm := if_f hm hb
              refine wpIn_skip ?_
              refine then_n ?_
              exact ⟨hF.weak [1, 2, 4, 5, 8, 9, 10, 11, 12, 36, 37, 38] (by kernel_rfl), hS, hm⟩
      · refine cond_ev (t := 39) (b := decide (z1 < (moves1.length : Int))) hF (by kernel_rfl) (fun hb => ?_) (fun hb => ?_)
        · replace hm := if_t hm hb
          refine wpIn_skip ?_
          refine then_n ?_
          exact ⟨hF.weak [1, 2, 4, 5, 8, 9, 10, 36, 37, 38] (by kernel_rfl), hS, hm⟩
        · replace hm := if_f hm hb
          refine wpIn_exit ?_
          refine then_e (then_e (block_e (then_n ?_)))
          have hS := hS.pickN 6 [0, 1, 2, 3, 4] (by decide)
          rw [← hφ1] at hm
          replace hm := done_b hm
          unfold stones_Play_K1 at hm
          try dsimp only at hm
          have hm : ((stones_Play_J4 moves1) g9 g10 g11 taken1).bind some = some r := hm
          exact ⟨g9, g10, g11, taken1, A4, c4, hF.weak [1, 2, 4, 5, 8] (by kernel_rfl), hS, hm⟩
  · refine wpIn_block ?_
    obtain ⟨r1, hr1, hm⟩ := call_b hm
    refine reg [⟨false, [], vS (Instr.loadAt 24 (.pointer (some ⟨g4, 0, none⟩))), .agg #[.int .i64 g1, .int .i64 g2, .slice A1 g3.length c1]⟩, ⟨false, [], callFunc 38 #[.agg #[.int .i64 g1, .int .i64 g2, .slice A1 g3.length c1]], .bool r1⟩] [some (.agg #[.int .i64 g1, .int .i64 g2, .slice A1 g3.length c1]), some (.bool r1), none, none] [1, 2, 4, 5, 8, 16] [pl 1 (.slice A2 moves1.length c2), pl 2 (.pointer (some ⟨g4, 0, none⟩)), pl 4 (.pointer (some ⟨g5, 0, none⟩)), pl 5 (.pointer (some ⟨g6, 0, none⟩)), pl 8 (.pointer (some ⟨g7, 0, none⟩)), pl 16 (.bool (!r1))] hF hS Fol (by kernel_rfl) (by kernel_rfl) (by kernel_rfl) ?_ (fun a w hF hS => ?_)
    · exact obs_cons (ob_loadA (cs := #[.int .i64 g1, .int .i64 g2, .slice A1 g3.length c1]) (by kernel_rfl) (by kernel_rfl) (fun _ _ hS => (hS.at_ 3 rfl).cellsAt 0 (by rfl))) <| obs_cons (ob_call Try.func38 (by kernel_rfl) rfl (fun _ _ hS => rows_May_w hr1 hS (fun _ hS => (hr_g3 _ (hS.dropN 4))) _hc_g3 rfl)) <| obs_nil
    refine cond_ev (t := 16) (b := !r1) hF (by kernel_rfl) (fun hb => ?_) (fun hb => ?_)
    · replace hm := if_t hm hb
      refine seq_cut (fun a w => Fr 89 [pl 4 (.pointer (some ⟨g5, 0, none⟩)), pl 5 (.pointer (some ⟨g6, 0, none⟩)), pl 6 (.int .i64 0), pl 7 (.int .i64 12)] a ∧ Sep w0 B w (blk g5 24 #[.int .i64 0, .int .i64 0, .slice none 0 0] :: blk g6 25 (List.toArray (([] : List Value) ++ (arr1 (Value.int .i64) (0 : Int) 2 (List.replicate 2 (0 : Int)) ++ ([] : List Value)))) :: fs) ∧ (stones_Play_J2).bind some = some r) ?_ ?_
      · rintro a w ⟨hF, hS, hm⟩
        unfold stones_Play_J2 at hm
        refine wpIn_ret ?_
        refine block_r (then_r ?_)
        have hS : Sep w0 B w (own 3 (.slice none 0 0) (vI ([] : List Int)) :: blk g5 24 #[.int .i64 0, .int .i64 0, .slice none 0 0] :: blk g6 25 (List.toArray (([] : List Value) ++ (arr1 (Value.int .i64) (0 : Int) 2 (List.replicate 2 (0 : Int)) ++ ([] : List Value)))) :: fs) := hS.nil 3
        have hl1 := (hS.at_ 0 rfl).len1
        have hS := (hS.at_ 0 rfl).reN hl1
        have hS : Sep w0 B w (own 3 (.slice none (([] : List Int).length) 0) (vI ([] : List Int)) :: blk g5 24 #[.int .i64 0, .int .i64 0, .slice none 0 0] :: blk g6 25 (List.toArray (([] : List Value) ++ (arr1 (Value.int .i64) (0 : Int) 2 (List.replicate 2 (0 : Int)) ++ ([] : List Value)))) :: fs) := hS
        have hld0 := run_loadVarA (P := Try.prog) (t := 24) (cs := #[.int .i64 0, .int .i64 0, .slice none (([] : List Int).length) 0]) (by kernel_rfl) (by kernel_rfl) ((hS.at_ 1 rfl).cellsAt 0 (by rfl))
        have hld1 := run_loadVarA (P := Try.prog) (t := 25) (cs := (List.toArray (([] : List Value) ++ (arr1 (Value.int .i64) (0 : Int) 2 (List.replicate 2 (0 : Int)) ++ ([] : List Value))))) (by kernel_rfl) (by kernel_rfl) ((hS.at_ 2 rfl).cellsAt 0 (by rfl))
        have hS := hS.pickN 3 [0] (by decide)
        have hm : some (0, 0, ([] : List Int), (List.replicate 2 (0 : Int)), 0, 12) = some r := hm
        obtain rfl := Option.some.inj hm
        exact retV (rs := [.cell 4 24, .cell 5 25, .tmp 6, .tmp 7]) (vs := [.agg #[.int .i64 0, .int .i64 0, .slice none (([] : List Int).length) 0], .agg (List.toArray (([] : List Value) ++ (arr1 (Value.int .i64) (0 : Int) 2 (List.replicate 2 (0 : Int)) ++ ([] : List Value)))), .int .i64 0, .int .i64 12]) hF rfl (rv_c (by kernel_rfl) hld0 <| rv_c (by kernel_rfl) hld1 <| rv_t (by kernel_rfl) <| rv_t (by kernel_rfl) <| rv_nil) rfl ⟨_, rfl, none, 0, rfl, hS⟩
      · refine regMix5 [0] [] 5 #[true, false, false, false, false, false] [] [] [4, 5, 8, 20] [pl 4 (.pointer (some ⟨g5, 0, none⟩)), pl 5 (.pointer (some ⟨g6, 0, none⟩)), pl 8 (.pointer (some ⟨g7, 0, none⟩)), pl 20 (.agg #[.int .i64 0, .int .i64 0, .slice none 0 0])] hF hS Fol (by kernel_rfl) (by kernel_rfl) (by kernel_rfl) (by kernel_rfl) ?_ (fun a w hF hS => ?_)
        · exact obs_nil
        refine any_share 3 #[true, true, true, false, false, false] (fun a w => Fr 89 [pl 4 (.pointer (some ⟨g5, 0, none⟩)), pl 5 (.pointer (some ⟨g6, 0, none⟩)), pl 21 (.agg (List.toArray (([] : List Value) ++ (arr1 (Value.int .i64) (0 : Int) 2 (List.replicate 2 (0 : Int)) ++ ([] : List Value)))))] a ∧ Sep w0 B w (blk g7 25 (List.toArray (([] : List Value) ++ (arr1 (Value.int .i64) (0 : Int) 2 (List.replicate 2 (0 : Int)) ++ ([] : List Value)))) :: blk g6 25 (List.toArray (([] : List Value) ++ (arr1 (Value.int .i64) (0 : Int) 2 (List.replicate 2 (0 : Int)) ++ ([] : List Value)))) :: blk g5 24 #[.int .i64 0, .int .i64 0, .slice none 0 0] :: blk g4 24 #[.int .i64 g1, .int .i64 g2, .slice A1 g3.length c1] :: fs)) (fun a w hI => ?_) (fun sh1 => ?_)
        · obtain ⟨hF, hS⟩ := hI
          refine any_step [3] (by kernel_rfl) rfl ?_
          refine (all_cons ?_ all_nil)
          · refine any_op (listed' := #[true, true, true, true, false, false]) (by kernel_rfl) (by kernel_rfl) ?_
            obtain ⟨w, hrun, hS⟩ := run_putA (P := Try.prog) (t := 25) (us := (List.toArray (([] : List Value) ++ (arr1 (Value.int .i64) (0 : Int) 2 (List.replicate 2 (0 : Int)) ++ ([] : List Value))))) (o := 0) (hS.at_ 1 rfl) (by kernel_rfl) (all_one (by kernel_rfl)) (Nat.le_of_ble_eq_true (by kernel_rfl))
            refine at_skip hF (by kernel_rfl) hrun ?_
            have hS : Sep w0 B w (blk g7 25 (List.toArray (([] : List Value) ++ (arr1 (Value.int .i64) (0 : Int) 2 (List.replicate 2 (0 : Int)) ++ ([] : List Value)))) :: blk g6 25 (List.toArray (([] : List Value) ++ (arr1 (Value.int .i64) (0 : Int) 2 (List.replicate 2 (0 : Int)) ++ ([] : List Value)))) :: blk g5 24 #[.int .i64 0, .int .i64 0, .slice none 0 0] :: blk g4 24 #[.int .i64 g1, .int .i64 g2, .slice A1 g3.length c1] :: fs) := hS
            refine any_fin rfl hS ?_
            refine any_step [4] (by kernel_rfl) rfl ?_
            refine (all_cons ?_ all_nil)
            · refine any_op (listed' := #[true, true, true, true, true, false]) (by kernel_rfl) (by kernel_rfl) ?_
              refine at_runW 1 [] [] [4, 5, 6] [pl 4 (.pointer (some ⟨g5, 0, none⟩)), pl 5 (.pointer (some ⟨g6, 0, none⟩)), pl 6 (.int .i64 0)] hF hS (by kernel_rfl) (by kernel_rfl) ?_ (fun a hF => ?_)
              · exact obs_nil
              refine any_finI rfl (fun h => h) ?_
              refine any_step [5] (by kernel_rfl) rfl ?_
              refine (all_cons ?_ all_nil)
              · refine any_op (listed' := #[true, true, true, true, true, true]) (by kernel_rfl) (by kernel_rfl) ?_
                refine at_runW 1 [] [] [4, 5, 6, 7] [pl 4 (.pointer (some ⟨g5, 0, none⟩)), pl 5 (.pointer (some ⟨g6, 0, none⟩)), pl 6 (.int .i64 0), pl 7 (.int .i64 12)] hF hS (by kernel_rfl) (by kernel_rfl) ?_ (fun a hF => ?_)
                · exact obs_nil
                refine any_finI rfl (fun h => h) ?_
                refine any_end (by kernel_rfl) ?_
                refine np_n ?_
                refine then_n ?_
                have hS := hS.pickN 4 [2, 1] (by decide)
                exact ⟨hF.weak [4, 5, 6, 7] (by kernel_rfl), hS, hm⟩
        refine any_step [1, 2] (by kernel_rfl) rfl ?_
        refine (all_cons ?_ (all_cons ?_ all_nil))
        · refine any_op (listed' := #[true, true, false, false, false, false]) (by kernel_rfl) (by kernel_rfl) ?_
          refine at_runW 1 [⟨false, [], vS (Instr.loadAt 25 (.pointer (some ⟨g7, 0, none⟩))), .agg (List.toArray (([] : List Value) ++ (arr1 (Value.int .i64) (0 : Int) 2 (List.replicate 2 (0 : Int)) ++ ([] : List Value))))⟩] [some (.agg (List.toArray (([] : List Value) ++ (arr1 (Value.int .i64) (0 : Int) 2 (List.replicate 2 (0 : Int)) ++ ([] : List Value)))))] [4, 5, 20, 21] [pl 4 (.pointer (some ⟨g5, 0, none⟩)), pl 5 (.pointer (some ⟨g6, 0, none⟩)), pl 20 (.agg #[.int .i64 0, .int .i64 0, .slice none 0 0]), pl 21 (.agg (List.toArray (([] : List Value) ++ (arr1 (Value.int .i64) (0 : Int) 2 (List.replicate 2 (0 : Int)) ++ ([] : List Value)))))] hF hS (by kernel_rfl) (by kernel_rfl) ?_ (fun a hF => ?_)
          · exact obs_cons (ob_loadA (cs := (List.toArray (([] : List Value) ++ (arr1 (Value.int .i64) (0 : Int) 2 (List.replicate 2 (0 : Int)) ++ ([] : List Value))))) (by kernel_rfl) (by kernel_rfl) (fun _ _ hS => (hS.at_ 0 rfl).cellsAt 0 (by rfl))) <| obs_nil
          refine any_finI rfl (fun h => h) ?_
          refine any_step [2] (by kernel_rfl) rfl ?_
          refine (all_cons ?_ all_nil)
          · refine any_op (listed' := #[true, true, true, false, false, false]) (by kernel_rfl) (by kernel_rfl) ?_
            obtain ⟨w, hrun, hS⟩ := run_putA (P := Try.prog) (t := 24) (us := #[.int .i64 0, .int .i64 0, .slice none 0 0]) (o := 0) (hS.at_ 2 rfl) (by kernel_rfl) (all_one (by kernel_rfl)) (Nat.le_of_ble_eq_true (by kernel_rfl))
            refine at_skip hF (by kernel_rfl) hrun ?_
            have hS : Sep w0 B w (blk g7 25 (List.toArray (([] : List Value) ++ (arr1 (Value.int .i64) (0 : Int) 2 (List.replicate 2 (0 : Int)) ++ ([] : List Value)))) :: blk g6 25 (List.toArray (([] : List Value) ++ (arr1 (Value.int .i64) (0 : Int) 2 (List.replicate 2 (0 : Int)) ++ ([] : List Value)))) :: blk g5 24 #[.int .i64 0, .int .i64 0, .slice none 0 0] :: blk g4 24 #[.int .i64 g1, .int .i64 g2, .slice A1 g3.length c1] :: fs) := hS
            refine any_fin rfl hS ?_
            exact sh1 _ _ ⟨hF.weak [4, 5, 21] (by kernel_rfl), hS⟩
        · refine any_op (listed' := #[true, false, true, false, false, false]) (by kernel_rfl) (by kernel_rfl) ?_
          obtain ⟨w, hrun, hS⟩ := run_putA (P := Try.prog) (t := 24) (us := #[.int .i64 0, .int .i64 0, .slice none 0 0]) (o := 0) (hS.at_ 2 rfl) (by kernel_rfl) (all_one (by kernel_rfl)) (Nat.le_of_ble_eq_true (by kernel_rfl))
          refine at_skip hF (by kernel_rfl) hrun ?_
          have hS : Sep w0 B w (blk g7 25 (List.toArray (([] : List Value) ++ (arr1 (Value.int .i64) (0 : Int) 2 (List.replicate 2 (0 : Int)) ++ ([] : List Value)))) :: blk g6 25 (List.toArray (([] : List Value) ++ (arr1 (Value.int .i64) (0 : Int) 2 (List.replicate 2 (0 : Int)) ++ ([] : List Value)))) :: blk g5 24 #[.int .i64 0, .int .i64 0, .slice none 0 0] :: blk g4 24 #[.int .i64 g1, .int .i64 g2, .slice A1 g3.length c1] :: fs) := hS
          refine any_fin rfl hS ?_
          refine any_step [1] (by kernel_rfl) rfl ?_
          refine (all_cons ?_ all_nil)
          · refine any_op (listed' := #[true, true, true, false, false, false]) (by kernel_rfl) (by kernel_rfl) ?_
            refine at_runW 1 [⟨false, [], vS (Instr.loadAt 25 (.pointer (some ⟨g7, 0, none⟩))), .agg (List.toArray (([] : List Value) ++ (arr1 (Value.int .i64) (0 : Int) 2 (List.replicate 2 (0 : Int)) ++ ([] : List Value))))⟩] [some (.agg (List.toArray (([] : List Value) ++ (arr1 (Value.int .i64) (0 : Int) 2 (List.replicate 2 (0 : Int)) ++ ([] : List Value)))))] [4, 5, 21] [pl 4 (.pointer (some ⟨g5, 0, none⟩)), pl 5 (.pointer (some ⟨g6, 0, none⟩)), pl 21 (.agg (List.toArray (([] : List Value) ++ (arr1 (Value.int .i64) (0 : Int) 2 (List.replicate 2 (0 : Int)) ++ ([] : List Value)))))] hF hS (by kernel_rfl) (by kernel_rfl) ?_ (fun a hF => ?_)
            · exact obs_cons (ob_loadA (cs := (List.toArray (([] : List Value) ++ (arr1 (Value.int .i64) (0 : Int) 2 (List.replicate 2 (0 : Int)) ++ ([] : List Value))))) (by kernel_rfl) (by kernel_rfl) (fun _ _ hS => (hS.at_ 0 rfl).cellsAt 0 (by rfl))) <| obs_nil
            refine any_finI rfl (fun h => h) ?_
            exact sh1 _ _ ⟨hF.weak [4, 5, 21] (by kernel_rfl), hS⟩
    · replace hm := if_f hm hb
      refine reg [] [] [1, 2, 4, 5, 8, 22] [pl 1 (.slice A2 moves1.length c2), pl 2 (.pointer (some ⟨g4, 0, none⟩)), pl 4 (.pointer (some ⟨g5, 0, none⟩)), pl 5 (.pointer (some ⟨g6, 0, none⟩)), pl 8 (.pointer (some ⟨g7, 0, none⟩)), pl 22 (.bool (decide ((200 : Int) < (moves1.length : Int))))] hF hS Fol (by kernel_rfl) (by kernel_rfl) (by kernel_rfl) ?_ (fun a w hF hS => ?_)
      · exact obs_nil
      refine cond_ev (t := 22) (b := decide ((200 : Int) < (moves1.length : Int))) hF (by kernel_rfl) (fun hb => ?_) (fun hb => ?_)
      · replace hm := if_t hm hb
        refine seq_cut (fun a w => Fr 89 [pl 4 (.pointer (some ⟨g5, 0, none⟩)), pl 5 (.pointer (some ⟨g6, 0, none⟩)), pl 6 (.int .i64 0), pl 7 (.int .i64 11)] a ∧ Sep w0 B w (blk g5 24 #[.int .i64 0, .int .i64 0, .slice none 0 0] :: blk g6 25 (List.toArray (([] : List Value) ++ (arr1 (Value.int .i64) (0 : Int) 2 (List.replicate 2 (0 : Int)) ++ ([] : List Value)))) :: fs) ∧ (stones_Play_J3).bind some = some r) ?_ ?_
        · rintro a w ⟨hF, hS, hm⟩
          unfold stones_Play_J3 at hm
          refine wpIn_ret ?_
          refine block_r (then_r ?_)
          have hS : Sep w0 B w (own 3 (.slice none 0 0) (vI ([] : List Int)) :: blk g5 24 #[.int .i64 0, .int .i64 0, .slice none 0 0] :: blk g6 25 (List.toArray (([] : List Value) ++ (arr1 (Value.int .i64) (0 : Int) 2 (List.replicate 2 (0 : Int)) ++ ([] : List Value)))) :: fs) := hS.nil 3
          have hl2 := (hS.at_ 0 rfl).len1
          have hS := (hS.at_ 0 rfl).reN hl2
          have hS : Sep w0 B w (own 3 (.slice none (([] : List Int).length) 0) (vI ([] : List Int)) :: blk g5 24 #[.int .i64 0, .int .i64 0, .slice none 0 0] :: blk g6 25 (List.toArray (([] : List Value) ++ (arr1 (Value.int .i64) (0 : Int) 2 (List.replicate 2 (0 : Int)) ++ ([] : List Value)))) :: fs) := hS
          have hld0 := run_loadVarA (P := Try.prog) (t := 24) (cs := #[.int .i64 0, .int .i64 0, .slice none (([] : List Int).length) 0]) (by kernel_rfl) (by kernel_rfl) ((hS.at_ 1 rfl).cellsAt 0 (by rfl))
          have hld1 := run_loadVarA (P := Try.prog) (t := 25) (cs := (List.toArray (([] : List Value) ++ (arr1 (Value.int .i64) (0 : Int) 2 (List.replicate 2 (0 : Int)) ++ ([] : List Value))))) (by kernel_rfl) (by kernel_rfl) ((hS.at_ 2 rfl).cellsAt 0 (by rfl))
          have hS := hS.pickN 3 [0] (by decide)
          have hm : some (0, 0, ([] : List Int), (List.replicate 2 (0 : Int)), 0, 11) = some r := hm
          obtain rfl := Option.some.inj hm
          exact retV (rs := [.cell 4 24, .cell 5 25, .tmp 6, .tmp 7]) (vs := [.agg #[.int .i64 0, .int .i64 0, .slice none (([] : List Int).length) 0], .agg (List.toArray (([] : List Value) ++ (arr1 (Value.int .i64) (0 : Int) 2 (List.replicate 2 (0 : Int)) ++ ([] : List Value)))), .int .i64 0, .int .i64 11]) hF rfl (rv_c (by kernel_rfl) hld0 <| rv_c (by kernel_rfl) hld1 <| rv_t (by kernel_rfl) <| rv_t (by kernel_rfl) <| rv_nil) rfl ⟨_, rfl, none, 0, rfl, hS⟩
        · refine regMix5 [0] [] 5 #[true, false, false, false, false, false] [] [] [4, 5, 8, 26] [pl 4 (.pointer (some ⟨g5, 0, none⟩)), pl 5 (.pointer (some ⟨g6, 0, none⟩)), pl 8 (.pointer (some ⟨g7, 0, none⟩)), pl 26 (.agg #[.int .i64 0, .int .i64 0, .slice none 0 0])] hF hS Fol (by kernel_rfl) (by kernel_rfl) (by kernel_rfl) (by kernel_rfl) ?_ (fun a w hF hS => ?_)
          · exact obs_nil
          refine any_share 3 #[true, true, true, false, false, false] (fun a w => Fr 89 [pl 4 (.pointer (some ⟨g5, 0, none⟩)), pl 5 (.pointer (some ⟨g6, 0, none⟩)), pl 27 (.agg (List.toArray (([] : List Value) ++ (arr1 (Value.int .i64) (0 : Int) 2 (List.replicate 2 (0 : Int)) ++ ([] : List Value)))))] a ∧ Sep w0 B w (blk g7 25 (List.toArray (([] : List Value) ++ (arr1 (Value.int .i64) (0 : Int) 2 (List.replicate 2 (0 : Int)) ++ ([] : List Value)))) :: blk g6 25 (List.toArray (([] : List Value) ++ (arr1 (Value.int .i64) (0 : Int) 2 (List.replicate 2 (0 : Int)) ++ ([] : List Value)))) :: blk g5 24 #[.int .i64 0, .int .i64 0, .slice none 0 0] :: blk g4 24 #[.int .i64 g1, .int .i64 g2, .slice A1 g3.length c1] :: fs)) (fun a w hI => ?_) (fun sh2 => ?_)
          · obtain ⟨hF, hS⟩ := hI
            refine any_step [3] (by kernel_rfl) rfl ?_
            refine (all_cons ?_ all_nil)
            · refine any_op (listed' := #[true, true, true, true, false, false]) (by kernel_rfl) (by kernel_rfl) ?_
              obtain ⟨w, hrun, hS⟩ := run_putA (P := Try.prog) (t := 25) (us := (List.toArray (([] : List Value) ++ (arr1 (Value.int .i64) (0 : Int) 2 (List.replicate 2 (0 : Int)) ++ ([] : List Value))))) (o := 0) (hS.at_ 1 rfl) (by kernel_rfl) (all_one (by kernel_rfl)) (Nat.le_of_ble_eq_true (by kernel_rfl))
              refine at_skip hF (by kernel_rfl) hrun ?_
              have hS : Sep w0 B w (blk g7 25 (List.toArray (([] : List Value) ++ (arr1 (Value.int .i64) (0 : Int) 2 (List.replicate 2 (0 : Int)) ++ ([] : List Value)))) :: blk g6 25 (List.toArray (([] : List Value) ++ (arr1 (Value.int .i64) (0 : Int) 2 (List.replicate 2 (0 : Int)) ++ ([] : List Value)))) :: blk g5 24 #[.int .i64 0, .int .i64 0, .slice none 0 0] :: blk g4 24 #[.int .i64 g1, .int .i64 g2, .slice A1 g3.length c1] :: fs) := hS
              refine any_fin rfl hS ?_
              refine any_step [4] (by kernel_rfl) rfl ?_
              refine (all_cons ?_ all_nil)
              · refine any_op (listed' := #[true, true, true, true, true, false]) (by kernel_rfl) (by kernel_rfl) ?_
                refine at_runW 1 [] [] [4, 5, 6] [pl 4 (.pointer (some ⟨g5, 0, none⟩)), pl 5 (.pointer (some ⟨g6, 0, none⟩)), pl 6 (.int .i64 0)] hF hS (by kernel_rfl) (by kernel_rfl) ?_ (fun a hF => ?_)
                · exact obs_nil
                refine any_finI rfl (fun h => h) ?_
                refine any_step [5] (by kernel_rfl) rfl ?_
                refine (all_cons ?_ all_nil)
                · refine any_op (listed' := #[true, true, true, true, true, true]) (by kernel_rfl) (by kernel_rfl) ?_
                  refine at_runW 1 [] [] [4, 5, 6, 7] [pl 4 (.pointer (some ⟨g5, 0, none⟩)), pl 5 (.pointer (some ⟨g6, 0, none⟩)), pl 6 (.int .i64 0), pl 7 (.int .i64 11)] hF hS (by kernel_rfl) (by kernel_rfl) ?_ (fun a hF => ?_)
                  · exact obs_nil
                  refine any_finI rfl (fun h => h) ?_
                  refine any_end (by kernel_rfl) ?_
                  refine np_n ?_
                  refine then_n ?_
                  have hS := hS.pickN 4 [2, 1] (by decide)
                  exact ⟨hF.weak [4, 5, 6, 7] (by kernel_rfl), hS, hm⟩
          refine any_step [1, 2] (by kernel_rfl) rfl ?_
          refine (all_cons ?_ (all_cons ?_ all_nil))
          · refine any_op (listed' := #[true, true, false, false, false, false]) (by kernel_rfl) (by kernel_rfl) ?_
            refine at_runW 1 [⟨false, [], vS (Instr.loadAt 25 (.pointer (some ⟨g7, 0, none⟩))), .agg (List.toArray (([] : List Value) ++ (arr1 (Value.int .i64) (0 : Int) 2 (List.replicate 2 (0 : Int)) ++ ([] : List Value))))⟩] [some (.agg (List.toArray (([] : List Value) ++ (arr1 (Value.int .i64) (0 : Int) 2 (List.replicate 2 (0 : Int)) ++ ([] : List Value)))))] [4, 5, 26, 27] [pl 4 (.pointer (some ⟨g5, 0, none⟩)), pl 5 (.pointer (some ⟨g6, 0, none⟩)), pl 26 (.agg #[.int .i64 0, .int .i64 0, .slice none 0 0]), pl 27 (.agg (List.toArray (([] : List Value) ++ (arr1 (Value.int .i64) (0 : Int) 2 (List.replicate 2 (0 : Int)) ++ ([] : List Value)))))] hF hS (by kernel_rfl) (by kernel_rfl) ?_ (fun a hF => ?_)
            · exact obs_cons (ob_loadA (cs := (List.toArray (([] : List Value) ++ (arr1 (Value.int .i64) (0 : Int) 2 (List.replicate 2 (0 : Int)) ++ ([] : List Value))))) (by kernel_rfl) (by kernel_rfl) (fun _ _ hS => (hS.at_ 0 rfl).cellsAt 0 (by rfl))) <| obs_nil
            refine any_finI rfl (fun h => h) ?_
            refine any_step [2] (by kernel_rfl) rfl ?_
            refine (all_cons ?_ all_nil)
            · refine any_op (listed' := #[true, true, true, false, false, false]) (by kernel_rfl) (by kernel_rfl) ?_
              obtain ⟨w, hrun, hS⟩ := run_putA (P := Try.prog) (t := 24) (us := #[.int .i64 0, .int .i64 0, .slice none 0 0]) (o := 0) (hS.at_ 2 rfl) (by kernel_rfl) (all_one (by kernel_rfl)) (Nat.le_of_ble_eq_true (by kernel_rfl))
              refine at_skip hF (by kernel_rfl) hrun ?_
              have hS : Sep w0 B w (blk g7 25 (List.toArray (([] : List Value) ++ (arr1 (Value.int .i64) (0 : Int) 2 (List.replicate 2 (0 : Int)) ++ ([] : List Value)))) :: blk g6 25 (List.toArray (([] : List Value) ++ (arr1 (Value.int .i64) (0 : Int) 2 (List.replicate 2 (0 : Int)) ++ ([] : List Value)))) :: blk g5 24 #[.int .i64 0, .int .i64 0, .slice none 0 0] :: blk g4 24 #[.int .i64 g1, .int .i64 g2, .slice A1 g3.length c1] :: fs) := hS
              refine any_fin rfl hS ?_
              exact sh2 _ _ ⟨hF.weak [4, 5, 27] (by kernel_rfl), hS⟩
          · refine any_op (listed' := #[true, false, true, false, false, false]) (by kernel_rfl) (by kernel_rfl) ?_
            obtain ⟨w, hrun, hS⟩ := run_putA (P := Try.prog) (t := 24) (us := #[.int .i64 0, .int .i64 0, .slice none 0 0]) (o := 0) (hS.at_ 2 rfl) (by kernel_rfl) (all_one (by kernel_rfl)) (Nat.le_of_ble_eq_true (by kernel_rfl))
            refine at_skip hF (by kernel_rfl) hrun ?_
            have hS : Sep w0 B w (blk g7 25 (List.toArray (([] : List Value) ++ (arr1 (Value.int .i64) (0 : Int) 2 (List.replicate 2 (0 : Int)) ++ ([] : List Value)))) :: blk g6 25 (List.toArray (([] : List Value) ++ (arr1 (Value.int .i64) (0 : Int) 2 (List.replicate 2 (0 : Int)) ++ ([] : List Value)))) :: blk g5 24 #[.int .i64 0, .int .i64 0, .slice none 0 0] :: blk g4 24 #[.int .i64 g1, .int .i64 g2, .slice A1 g3.length c1] :: fs) := hS
            refine any_fin rfl hS ?_
            refine any_step [1] (by kernel_rfl) rfl ?_
            refine (all_cons ?_ all_nil)
            · refine any_op (listed' := #[true, true, true, false, false, false]) (by kernel_rfl) (by kernel_rfl) ?_
              refine at_runW 1 [⟨false, [], vS (Instr.loadAt 25 (.pointer (some ⟨g7, 0, none⟩))), .agg (List.toArray (([] : List Value) ++ (arr1 (Value.int .i64) (0 : Int) 2 (List.replicate 2 (0 : Int)) ++ ([] : List Value))))⟩] [some (.agg (List.toArray (([] : List Value) ++ (arr1 (Value.int .i64) (0 : Int) 2 (List.replicate 2 (0 : Int)) ++ ([] : List Value)))))] [4, 5, 27] [pl 4 (.pointer (some ⟨g5, 0, none⟩)), pl 5 (.pointer (some ⟨g6, 0, none⟩)), pl 27 (.agg (List.toArray (([] : List Value) ++ (arr1 (Value.int .i64) (0 : Int) 2 (List.replicate 2 (0 : Int)) ++ ([] : List Value)))))] hF hS (by kernel_rfl) (by kernel_rfl) ?_ (fun a hF => ?_)
              · exact obs_cons (ob_loadA (cs := (List.toArray (([] : List Value) ++ (arr1 (Value.int .i64) (0 : Int) 2 (List.replicate 2 (0 : Int)) ++ ([] : List Value))))) (by kernel_rfl) (by kernel_rfl) (fun _ _ hS => (hS.at_ 0 rfl).cellsAt 0 (by rfl))) <| obs_nil
              refine any_finI rfl (fun h => h) ?_
              exact sh2 _ _ ⟨hF.weak [4, 5, 27] (by kernel_rfl), hS⟩
      · replace hm := if_f hm hb
        refine wpIn_skip ?_
        refine block_n ?_
        refine then_n ?_
        have hS := hS.pickN 4 [3, 2, 1, 0] (by decide)
        exact ⟨hF.weak [1, 2, 4, 5, 8] (by kernel_rfl), hS, hm⟩

noncomputable def gameroomref_within_m  (n1 : Int) (low1 : Int) (high1 : Int) : Option Bool :=
  some ((decide (low1 ≤ n1)) && (decide (n1 ≤ high1)))

set_option maxRecDepth 100000 in
set_option maxHeartbeats 4000000 in
theorem gameroomref_within_w  {n1 : Int} {low1 : Int} {high1 : Int} {r : Bool} {w0 w : World} {B : Nat} {fs : List HP} (hm : gameroomref_within_m n1 low1 high1 = some r) (hS : Sep w0 B w (fs)) :
    Calls Try.prog 43 #[.int .i64 n1, .int .i64 low1, .int .i64 high1] w fun e w' => e = .returned (.bool r) ∧ Sep w0 B w' (fs) := by
  unfold gameroomref_within_m at hm
  replace hm := start_b hm
  refine enter (l := [.int .i64 n1, .int .i64 low1, .int .i64 high1]) (n := 15) Try.func43 rfl rfl (by simp) (fun a hF => ?_)
  refine reg [] [] [0, 1, 2] [pl 0 (.int .i64 n1), pl 1 (.int .i64 low1), pl 2 (.int .i64 high1)] hF hS Fol (by kernel_rfl) (by kernel_rfl) (by kernel_rfl) ?_ (fun a w hF hS => ?_)
  · exact obs_nil
  refine reg [] [] [6] [pl 6 (.bool ((decide (low1 ≤ n1)) && (decide (n1 ≤ high1))))] hF hS Fol (by kernel_rfl) (by kernel_rfl) (by kernel_rfl) ?_ (fun a w hF hS => ?_)
  · exact obs_nil
  refine wpIn_ret ?_
  have hm : some ((decide (low1 ≤ n1)) && (decide (n1 ≤ high1))) = some r := hm
  obtain rfl := Option.some.inj hm
  exact retV (rs := [.tmp 6]) (vs := [.bool ((decide (low1 ≤ n1)) && (decide (n1 ≤ high1)))]) hF rfl (rv_t (by kernel_rfl) <| rv_nil) rfl ⟨rfl, hS⟩

noncomputable def gameroomref_GridMay_J4  (i1 : Int) : Option (St Int (Fl Unit Bool)) :=
  some (.next (w64 (i1 + 1)))

noncomputable def gameroomref_GridMay_J3  (g3 : List Int) (i1 : Int) : Option (St Int (Fl Unit Bool)) :=
  asrt (0 ≤ i1 ∧ i1 < (g3.length : Int)) <| (gameroomref_within_m (geti g3 i1) 0 2).bind fun r3 => if (!r3) then (some (.done (.ret false))) else ((gameroomref_GridMay_J4 i1))

noncomputable def gameroomref_GridMay_J2  : Option Bool :=
  some true

noncomputable def gameroomref_GridMay_K1  : (Fl Unit Bool) → Option Bool :=
  fun (x : (Fl Unit Bool)) => match x with | .go _ => gameroomref_GridMay_J2 | .ret x => some x

noncomputable def gameroomref_GridMay_L1  (g3 : List Int) : Int → Option (St Int (Fl Unit Bool)) :=
  fun (x : Int) => match x with | i1 => if (decide (i1 < (g3.length : Int))) then ((gameroomref_GridMay_J3 g3 i1)) else (some (.done (.go ())))

noncomputable def gameroomref_GridMay_J1  (g3 : List Int) : Option Bool :=
  (loop (gameroomref_GridMay_L1 g3) 0).bind gameroomref_GridMay_K1

noncomputable def gameroomref_GridMay_m  (g1 : Int) (g2 : Int) (g3 : List Int) : Option Bool :=
  (gameroomref_within_m g1 1 10).bind fun r1 => ((if (!(!r1)) then gameroomref_within_m g2 1 10 else some false)).bind fun r2 => if (((!r1) || (!r2)) || ((g3.length : Int) != (w64 (g1 * g2)))) then (some false) else ((gameroomref_GridMay_J1 g3))

set_option maxRecDepth 100000 in
set_option maxHeartbeats 4000000 in
theorem gameroomref_GridMay_w  {g1 : Int} {g2 : Int} {A1 : Option Addr} {c1 : Nat} {n1 : Nat} {g3 : List Int} {r : Bool} {w0 w : World} {B : Nat} {fs : List HP} (hm : gameroomref_GridMay_m g1 g2 g3 = some r) (hS : Sep w0 B w (fs)) (hr_g3 : RdF w0 B fs A1 (vI g3)) (_hc_g3 : g3.length ≤ c1) (_hn_g3 : n1 = g3.length) :
    Calls Try.prog 11 #[.agg #[.int .i64 g1, .int .i64 g2, .slice A1 n1 c1]] w fun e w' => e = .returned (.bool r) ∧ Sep w0 B w' (fs) := by
  obtain ⟨i3, hi3, hz3, hs3, hb3⟩ := info_parts Info3
  obtain rfl := _hn_g3
  unfold gameroomref_GridMay_m at hm
  replace hm := start_b hm
  refine enter (l := [.agg #[.int .i64 g1, .int .i64 g2, .slice A1 g3.length c1]]) (n := 39) Try.func11 rfl rfl (by simp) (fun a hF => ?_)
  refine seqR ?_
  refine at_do (d := 1) (s := vS (Instr.box 24 (.agg #[.int .i64 g1, .int .i64 g2, .slice A1 g3.length c1]))) (v := .pointer (some ⟨w.heap.size, 0, none⟩)) (w' := w.alloc (.cells #[.int .i64 g1, .int .i64 g2, .slice A1 g3.length c1] 24)) hF (by kernel_rfl) (by kernel_rfl) (by kernel_rfl) (fun a hF => ?_)
  have hS : Sep w0 B (w.alloc (.cells #[.int .i64 g1, .int .i64 g2, .slice A1 g3.length c1] 24)) (blk w.heap.size 24 #[.int .i64 g1, .int .i64 g2, .slice A1 g3.length c1] :: (fs)) := hS.box 24 #[.int .i64 g1, .int .i64 g2, .slice A1 g3.length c1]
  generalize w.heap.size = g4 at hF hS
  generalize w.alloc (.cells #[.int .i64 g1, .int .i64 g2, .slice A1 g3.length c1] 24) = w at hS ⊢
  refine at_run 1 [] [] [1] [pl 1 (.pointer (some ⟨g4, 0, none⟩))] hF hS (by kernel_rfl) (by kernel_rfl) ?_ (fun a w hF hS => ?_)
  · exact obs_nil
  refine at_end [1] [pl 1 (.pointer (some ⟨g4, 0, none⟩))] hF rfl (by kernel_rfl) (fun hF => ?_)
  refine then_n ?_
  refine seq_cut (fun a w => Fr 39 [pl 1 (.pointer (some ⟨g4, 0, none⟩))] a ∧ Sep w0 B w (blk g4 24 #[.int .i64 g1, .int .i64 g2, .slice A1 g3.length c1] :: fs) ∧ ((gameroomref_GridMay_J1 g3)).bind some = some r) ?_ ?_
  · rintro a w ⟨hF, hS, hm⟩
    unfold gameroomref_GridMay_J1 at hm
    refine seq_cut (fun a w => Fr 39 [] a ∧ Sep w0 B w (fs) ∧ (gameroomref_GridMay_J2).bind some = some r) ?_ ?_
    · rintro a w ⟨hF, hS, hm⟩
      unfold gameroomref_GridMay_J2 at hm
      refine reg [] [] [2] [pl 2 (.bool true)] hF hS Fol (by kernel_rfl) (by kernel_rfl) (by kernel_rfl) ?_ (fun a w hF hS => ?_)
      · exact obs_nil
      refine wpIn_ret ?_
      have hm : some true = some r := hm
      obtain rfl := Option.some.inj hm
      exact retV (rs := [.tmp 2]) (vs := [.bool true]) hF rfl (rv_t (by kernel_rfl) <| rv_nil) rfl ⟨rfl, hS⟩
    · refine reg [] [] [1, 3] [pl 1 (.pointer (some ⟨g4, 0, none⟩)), pl 3 (.int .i64 0)] hF hS Fol (by kernel_rfl) (by kernel_rfl) (by kernel_rfl) ?_ (fun a w hF hS => ?_)
      · exact obs_nil
      refine wpIn_block ?_
      refine wp_loop_model (S := Int) (R := (Fl Unit Bool)) (gameroomref_GridMay_L1 g3) (fun x => (gameroomref_GridMay_K1 x).bind some) r (fun (x : Int) a w => Fr 39 [pl 1 (.pointer (some ⟨g4, 0, none⟩)), pl 3 (.int .i64 x)] a ∧ Sep w0 B w (blk g4 24 #[.int .i64 g1, .int .i64 g2, .slice A1 g3.length c1] :: fs)) (assoc_b hm) ⟨hF.weak [1, 3] (by kernel_rfl), hS⟩ ?_
      clear hF hS hm
      rintro nn1 i1 a w ⟨hF, hS⟩ hm
      generalize hφ1 : stK (gameroomref_GridMay_L1 g3) nn1 (fun x => (gameroomref_GridMay_K1 x).bind some) = φ1 at hm
      unfold gameroomref_GridMay_L1 at hm
      dsimp only at hm
      refine seq_cut (fun a w => Fr 39 [pl 1 (.pointer (some ⟨g4, 0, none⟩)), pl 3 (.int .i64 i1)] a ∧ Sep w0 B w (blk g4 24 #[.int .i64 g1, .int .i64 g2, .slice A1 g3.length c1] :: fs) ∧ ((gameroomref_GridMay_J3 g3 i1)).bind φ1 = some r) ?_ ?_
      · rintro a w ⟨hF, hS, hm⟩
        unfold gameroomref_GridMay_J3 at hm
        refine seq_cut (fun a w => Fr 39 [pl 1 (.pointer (some ⟨g4, 0, none⟩)), pl 3 (.int .i64 i1)] a ∧ Sep w0 B w (blk g4 24 #[.int .i64 g1, .int .i64 g2, .slice A1 g3.length c1] :: fs) ∧ ((gameroomref_GridMay_J4 i1)).bind φ1 = some r) ?_ ?_
        · rintro a w ⟨hF, hS, hm⟩
          unfold gameroomref_GridMay_J4 at hm
          refine reg1 [] [] [1, 3] [pl 1 (.pointer (some ⟨g4, 0, none⟩)), pl 3 (.int .i64 (w64 (i1 + 1)))] hF hS Fol (by kernel_rfl) (by kernel_rfl) (by kernel_rfl) ?_ (fun a w hF hS => ?_)
          · exact obs_nil
          refine then_n ?_
          rw [← hφ1] at hm
          exact ⟨(w64 (i1 + 1)), ⟨hF.weak [1, 3] (by kernel_rfl), hS⟩, hm⟩
        · refine wpIn_block ?_
          obtain ⟨hp1, hm⟩ := asrt_b hm
          obtain ⟨r3, hr3, hm⟩ := call_b hm
          refine reg [⟨false, [], vS (Instr.loadAt 22 (.pointer (some ⟨g4, 2, none⟩))), .slice A1 g3.length c1⟩, ⟨true, [], vS (Instr.indexAt 22 (.slice A1 g3.length c1) (.int .i64 i1)), .pointer (some (sAddr A1 i1))⟩, ⟨false, [], vS (Instr.loadAt 3 (.pointer (some (sAddr A1 i1)))), .int .i64 (geti g3 i1)⟩, ⟨false, [], callFunc 43 #[.int .i64 (geti g3 i1), .int .i64 0, .int .i64 2], .bool r3⟩] [none, some (.slice A1 g3.length c1), none, some (.pointer (some (sAddr A1 i1))), some (.int .i64 (geti g3 i1)), some (.bool r3), none] [1, 3, 38] [pl 1 (.pointer (some ⟨g4, 0, none⟩)), pl 3 (.int .i64 i1), pl 38 (.bool (!r3))] hF hS Fol (by kernel_rfl) (by kernel_rfl) (by kernel_rfl) ?_ (fun a w hF hS => ?_)
          · exact obs_cons (ob_load Agg22 (fun _ _ hS => (hS.at_ 0 rfl).cell rfl)) <| obs_cons (ob_ix1 (f := (Value.int .i64)) (m := g3) Und22 hi3 hs3 (hr_g3 _ (hS.dropN 1)) rfl (fun _ => hp1)) <| obs_cons (ob_get1 (n := g3.length) (m := g3) (Value.int .i64) (0 : Int) Agg3 (fun _ hS => ⟨_, (hr_g3 _ (hS.dropN 1))⟩) (fun _ hS => rfl) (fun _ => hp1)) <| obs_cons (ob_call Try.func43 (by kernel_rfl) rfl (fun _ _ hS => gameroomref_within_w hr3 hS )) <| obs_nil
          refine cond_ev (t := 38) (b := !r3) hF (by kernel_rfl) (fun hb => ?_) (fun hb => ?_)
          · replace hm := if_t hm hb
            refine reg [] [] [2] [pl 2 (.bool false)] hF hS Fol (by kernel_rfl) (by kernel_rfl) (by kernel_rfl) ?_ (fun a w hF hS => ?_)
            · exact obs_nil
            refine wpIn_ret ?_
            refine block_r (then_r (then_r (block_r (then_r ?_))))
            rw [← hφ1] at hm
            replace hm := done_b hm
            unfold gameroomref_GridMay_K1 at hm
            try dsimp only at hm
            have hS := hS.pickN 1 [] (by decide)
            have hm : some false = some r := hm
            obtain rfl := Option.some.inj hm
            exact retV (rs := [.tmp 2]) (vs := [.bool false]) hF rfl (rv_t (by kernel_rfl) <| rv_nil) rfl ⟨rfl, hS⟩
          · replace hm := if_f hm hb
            refine wpIn_skip ?_
            refine block_n ?_
            refine then_n ?_
            exact ⟨hF.weak [1, 3] (by kernel_rfl), hS, hm⟩
      · refine reg [⟨false, [], vS (Instr.loadAt 22 (.pointer (some ⟨g4, 2, none⟩))), .slice A1 g3.length c1⟩] [none, none, some (.slice A1 g3.length c1), none, none] [1, 3, 29] [pl 1 (.pointer (some ⟨g4, 0, none⟩)), pl 3 (.int .i64 i1), pl 29 (.bool (decide (i1 < (g3.length : Int))))] hF hS Fol (by kernel_rfl) (by kernel_rfl) (by kernel_rfl) ?_ (fun a w hF hS => ?_)
        · exact obs_cons (ob_load Agg22 (fun _ _ hS => (hS.at_ 0 rfl).cell rfl)) <| obs_nil
        refine cond_ev (t := 29) (b := decide (i1 < (g3.length : Int))) hF (by kernel_rfl) (fun hb => ?_) (fun hb => ?_)
        · replace hm := if_t hm hb
          refine wpIn_skip ?_
          refine then_n ?_
          exact ⟨hF.weak [1, 3] (by kernel_rfl), hS, hm⟩
        · replace hm := if_f hm hb
          refine wpIn_exit ?_
          refine then_e (then_e (block_e (then_n ?_)))
          have hS := hS.pickN 1 [] (by decide)
          rw [← hφ1] at hm
          replace hm := done_b hm
          unfold gameroomref_GridMay_K1 at hm
          try dsimp only at hm
          have hm : (gameroomref_GridMay_J2).bind some = some r := hm
          exact ⟨hF.weak [] (by kernel_rfl), hS, hm⟩
  · obtain ⟨r1, hr1, hm⟩ := call_b hm
    obtain ⟨r2, hr2, hm⟩ := call_b hm
    refine reg [⟨false, [], vS (Instr.loadAt 3 (.pointer (some ⟨g4, 0, none⟩))), .int .i64 g1⟩, ⟨false, [], callFunc 43 #[.int .i64 g1, .int .i64 1, .int .i64 10], .bool r1⟩, ⟨false, [(!r1, false)], vS (Instr.loadAt 3 (.pointer (some ⟨g4, 1, none⟩))), .int .i64 g2⟩, ⟨false, [(!r1, false)], callFunc 43 #[.int .i64 g2, .int .i64 1, .int .i64 10], .bool r2⟩, ⟨false, [((!r1) || (!r2), false)], vS (Instr.loadAt 22 (.pointer (some ⟨g4, 2, none⟩))), .slice A1 g3.length c1⟩, ⟨false, [((!r1) || (!r2), false)], vS (Instr.loadAt 3 (.pointer (some ⟨g4, 0, none⟩))), .int .i64 g1⟩, ⟨false, [((!r1) || (!r2), false)], vS (Instr.loadAt 3 (.pointer (some ⟨g4, 1, none⟩))), .int .i64 g2⟩] [none, some (.int .i64 g1), some (.bool r1), none, none, none, some (.int .i64 g2), some (.bool r2), none, none, none, none, some (.slice A1 g3.length c1), none, none, some (.int .i64 g1), none, some (.int .i64 g2), none, none, none] [1, 24] [pl 1 (.pointer (some ⟨g4, 0, none⟩)), pl 24 (.bool (((!r1) || (!r2)) || ((g3.length : Int) != (w64 (g1 * g2)))))] hF hS Fol (by kernel_rfl) (by kernel_rfl) (by kernel_rfl) ?_ (fun a w hF hS => ?_)
    · exact obs_cons (ob_load Agg3 (fun _ _ hS => (hS.at_ 0 rfl).cell rfl)) <| obs_cons (ob_call Try.func43 (by kernel_rfl) rfl (fun _ _ hS => gameroomref_within_w hr1 hS )) <| obs_cons (ob_load Agg3 (fun _ _ hS => (hS.at_ 0 rfl).cell rfl)) <| obs_cons (ob_call Try.func43 (by kernel_rfl) rfl (fun hy _ hS => gameroomref_within_w (ite_some hr2 (by rw [show (!r1) = false from hy (!r1, false) (by simp)]; try rfl)) hS )) <| obs_cons (ob_load Agg22 (fun _ _ hS => (hS.at_ 0 rfl).cell rfl)) <| obs_cons (ob_load Agg3 (fun _ _ hS => (hS.at_ 0 rfl).cell rfl)) <| obs_cons (ob_load Agg3 (fun _ _ hS => (hS.at_ 0 rfl).cell rfl)) <| obs_nil
    refine cond_ev (t := 24) (b := ((!r1) || (!r2)) || ((g3.length : Int) != (w64 (g1 * g2)))) hF (by kernel_rfl) (fun hb => ?_) (fun hb => ?_)
    · replace hm := if_t hm hb
      refine reg [] [] [2] [pl 2 (.bool false)] hF hS Fol (by kernel_rfl) (by kernel_rfl) (by kernel_rfl) ?_ (fun a w hF hS => ?_)
      · exact obs_nil
      refine wpIn_ret ?_
      refine then_r ?_
      have hS := hS.pickN 1 [] (by decide)
      have hm : some false = some r := hm
      obtain rfl := Option.some.inj hm
      exact retV (rs := [.tmp 2]) (vs := [.bool false]) hF rfl (rv_t (by kernel_rfl) <| rv_nil) rfl ⟨rfl, hS⟩
    · replace hm := if_f hm hb
      refine wpIn_skip ?_
      refine then_n ?_
      exact ⟨hF.weak [1] (by kernel_rfl), hS, hm⟩

noncomputable def gameroomlaw_noGrid_m  (g1 : Int) (g2 : Int) (g3 : List Int) : Option Bool :=
  some (((g1 == 0) && (g2 == 0)) && ((g3.length : Int) == 0))

set_option maxRecDepth 100000 in
set_option maxHeartbeats 4000000 in
theorem gameroomlaw_noGrid_w  {g1 : Int} {g2 : Int} {A1 : Option Addr} {c1 : Nat} {n1 : Nat} {g3 : List Int} {r : Bool} {w0 w : World} {B : Nat} {fs : List HP} (hm : gameroomlaw_noGrid_m g1 g2 g3 = some r) (hS : Sep w0 B w (fs)) (hr_g3 : RdF w0 B fs A1 (vI g3)) (_hc_g3 : g3.length ≤ c1) (_hn_g3 : n1 = g3.length) :
    Calls Try.prog 12 #[.agg #[.int .i64 g1, .int .i64 g2, .slice A1 n1 c1]] w fun e w' => e = .returned (.bool r) ∧ Sep w0 B w' (fs) := by
  obtain ⟨i3, hi3, hz3, hs3, hb3⟩ := info_parts Info3
  obtain rfl := _hn_g3
  unfold gameroomlaw_noGrid_m at hm
  replace hm := start_b hm
  refine enter (l := [.agg #[.int .i64 g1, .int .i64 g2, .slice A1 g3.length c1]]) (n := 17) Try.func12 rfl rfl (by simp) (fun a hF => ?_)
  refine seqR ?_
  refine at_do (d := 1) (s := vS (Instr.box 24 (.agg #[.int .i64 g1, .int .i64 g2, .slice A1 g3.length c1]))) (v := .pointer (some ⟨w.heap.size, 0, none⟩)) (w' := w.alloc (.cells #[.int .i64 g1, .int .i64 g2, .slice A1 g3.length c1] 24)) hF (by kernel_rfl) (by kernel_rfl) (by kernel_rfl) (fun a hF => ?_)
  have hS : Sep w0 B (w.alloc (.cells #[.int .i64 g1, .int .i64 g2, .slice A1 g3.length c1] 24)) (blk w.heap.size 24 #[.int .i64 g1, .int .i64 g2, .slice A1 g3.length c1] :: (fs)) := hS.box 24 #[.int .i64 g1, .int .i64 g2, .slice A1 g3.length c1]
  generalize w.heap.size = g4 at hF hS
  generalize w.alloc (.cells #[.int .i64 g1, .int .i64 g2, .slice A1 g3.length c1] 24) = w at hS ⊢
  refine at_run 1 [] [] [1] [pl 1 (.pointer (some ⟨g4, 0, none⟩))] hF hS (by kernel_rfl) (by kernel_rfl) ?_ (fun a w hF hS => ?_)
  · exact obs_nil
  refine at_end [1] [pl 1 (.pointer (some ⟨g4, 0, none⟩))] hF rfl (by kernel_rfl) (fun hF => ?_)
  refine then_n ?_
  refine reg [⟨false, [], vS (Instr.loadAt 3 (.pointer (some ⟨g4, 0, none⟩))), .int .i64 g1⟩, ⟨false, [((g1 == 0), true)], vS (Instr.loadAt 3 (.pointer (some ⟨g4, 1, none⟩))), .int .i64 g2⟩, ⟨false, [((g1 == 0) && (g2 == 0), true)], vS (Instr.loadAt 22 (.pointer (some ⟨g4, 2, none⟩))), .slice A1 g3.length c1⟩] [none, some (.int .i64 g1), none, none, none, some (.int .i64 g2), none, none, none, none, some (.slice A1 g3.length c1), none, none, none, none] [2] [pl 2 (.bool (((g1 == 0) && (g2 == 0)) && ((g3.length : Int) == 0)))] hF hS Fol (by kernel_rfl) (by kernel_rfl) (by kernel_rfl) ?_ (fun a w hF hS => ?_)
  · exact obs_cons (ob_load Agg3 (fun _ _ hS => (hS.at_ 0 rfl).cell rfl)) <| obs_cons (ob_load Agg3 (fun _ _ hS => (hS.at_ 0 rfl).cell rfl)) <| obs_cons (ob_load Agg22 (fun _ _ hS => (hS.at_ 0 rfl).cell rfl)) <| obs_nil
  refine wpIn_ret ?_
  have hS := hS.pickN 1 [] (by decide)
  have hm : some (((g1 == 0) && (g2 == 0)) && ((g3.length : Int) == 0)) = some r := hm
  obtain rfl := Option.some.inj hm
  exact retV (rs := [.tmp 2]) (vs := [.bool (((g1 == 0) && (g2 == 0)) && ((g3.length : Int) == 0))]) hF rfl (rv_t (by kernel_rfl) <| rv_nil) rfl ⟨rfl, hS⟩

noncomputable def gameroomref_marks_J3  (g3 : List Int) (c2 : Int) (other1 : Bool) (m1 : List Bool) (i1 : Int) : Option (St (List Bool × Int) (List Bool)) :=
  some (.next ((m1.set (Int.toNat i1) (((geti g3 i1) == c2) != other1)), (w64 (i1 + 1))))

noncomputable def gameroomref_marks_J2  (g3 : List Int) (c2 : Int) (other1 : Bool) (m1 : List Bool) (i1 : Int) : Option (St (List Bool × Int) (List Bool)) :=
  asrt (0 ≤ i1 ∧ i1 < (g3.length : Int)) <| asrt (0 ≤ i1 ∧ i1 < (((Int.toNat (g3.length : Int)) : Nat) : Int)) <| (gameroomref_marks_J3 g3 c2 other1 m1 i1)

noncomputable def gameroomref_marks_J1  (m2 : List Bool) : Option (List Bool) :=
  some m2

noncomputable def gameroomref_marks_K1  : (List Bool) → Option (List Bool) :=
  fun (x : (List Bool)) => match x with | m2 => gameroomref_marks_J1 m2

noncomputable def gameroomref_marks_L1  (g3 : List Int) (c2 : Int) (other1 : Bool) : (List Bool × Int) → Option (St (List Bool × Int) (List Bool)) :=
  fun (x : (List Bool × Int)) => match x with | (m1, i1) => if (decide (i1 < (((Int.toNat (g3.length : Int)) : Nat) : Int))) then ((gameroomref_marks_J2 g3 c2 other1 m1 i1)) else (some (.done m1))

noncomputable def gameroomref_marks_m  (g1 : Int) (g2 : Int) (g3 : List Int) (c2 : Int) (other1 : Bool) : Option (List Bool) :=
  asrt ((0 : Int) ≤ (g3.length : Int) ∧ (g3.length : Int) ≤ bigN) <| (loop (gameroomref_marks_L1 g3 c2 other1) ((List.replicate (Int.toNat (g3.length : Int)) false), 0)).bind gameroomref_marks_K1

set_option maxRecDepth 100000 in
set_option maxHeartbeats 4000000 in
theorem gameroomref_marks_w  {g1 : Int} {g2 : Int} {A1 : Option Addr} {c1 : Nat} {n1 : Nat} {g3 : List Int} {c2 : Int} {other1 : Bool} {r : (List Bool)} {w0 w : World} {B : Nat} {fs : List HP} (hm : gameroomref_marks_m g1 g2 g3 c2 other1 = some r) (hS : Sep w0 B w (fs)) (hr_g3 : RdF w0 B fs A1 (vI g3)) (_hc_g3 : g3.length ≤ c1) (_hn_g3 : n1 = g3.length) :
    Calls Try.prog 57 #[.agg #[.int .i64 g1, .int .i64 g2, .slice A1 n1 c1], .int .i64 c2, .bool other1] w fun e w' => ∃ v, e = .returned v ∧ ∃ (A3 : Option Addr) (c4 : Nat), v = .slice A3 r.length c4 ∧ Sep w0 B w' (own 4 (.slice A3 r.length c4) (vB r) :: fs) := by
  obtain ⟨i3, hi3, hz3, hs3, hb3⟩ := info_parts Info3
  obtain ⟨i4, hi4, hz4, hs4, hb4⟩ := info_parts Info4
  obtain rfl := _hn_g3
  unfold gameroomref_marks_m at hm
  replace hm := start_b hm
  refine enter (l := [.agg #[.int .i64 g1, .int .i64 g2, .slice A1 g3.length c1], .int .i64 c2, .bool other1]) (n := 32) Try.func57 rfl rfl (by simp) (fun a hF => ?_)
  refine seqR ?_
  refine at_do (d := 3) (s := vS (Instr.box 24 (.agg #[.int .i64 g1, .int .i64 g2, .slice A1 g3.length c1]))) (v := .pointer (some ⟨w.heap.size, 0, none⟩)) (w' := w.alloc (.cells #[.int .i64 g1, .int .i64 g2, .slice A1 g3.length c1] 24)) hF (by kernel_rfl) (by kernel_rfl) (by kernel_rfl) (fun a hF => ?_)
  have hS : Sep w0 B (w.alloc (.cells #[.int .i64 g1, .int .i64 g2, .slice A1 g3.length c1] 24)) (blk w.heap.size 24 #[.int .i64 g1, .int .i64 g2, .slice A1 g3.length c1] :: (fs)) := hS.box 24 #[.int .i64 g1, .int .i64 g2, .slice A1 g3.length c1]
  generalize w.heap.size = g4 at hF hS
  generalize w.alloc (.cells #[.int .i64 g1, .int .i64 g2, .slice A1 g3.length c1] 24) = w at hS ⊢
  refine at_run 1 [] [] [1, 2, 3] [pl 1 (.int .i64 c2), pl 2 (.bool other1), pl 3 (.pointer (some ⟨g4, 0, none⟩))] hF hS (by kernel_rfl) (by kernel_rfl) ?_ (fun a w hF hS => ?_)
  · exact obs_nil
  refine at_end [1, 2, 3] [pl 1 (.int .i64 c2), pl 2 (.bool other1), pl 3 (.pointer (some ⟨g4, 0, none⟩))] hF rfl (by kernel_rfl) (fun hF => ?_)
  refine then_n ?_
  refine seqR ?_
  obtain ⟨hp1, hm⟩ := asrt_b hm
  refine at_run 3 [⟨false, [], vS (Instr.loadAt 22 (.pointer (some ⟨g4, 2, none⟩))), .slice A1 g3.length c1⟩] [none, some (.slice A1 g3.length c1), none] [1, 2, 3, 11] [pl 1 (.int .i64 c2), pl 2 (.bool other1), pl 3 (.pointer (some ⟨g4, 0, none⟩)), pl 11 (.int .i64 (g3.length : Int))] hF hS (by kernel_rfl) (by kernel_rfl) ?_ (fun a w hF hS => ?_)
  · exact obs_cons (ob_load Agg22 (fun _ _ hS => (hS.at_ 0 rfl).cell rfl)) <| obs_nil
  obtain ⟨A2, c3, w, hrun, hS⟩ := run_mk1 (P := Try.prog) (t := 83) Value.bool false hS .i64 .i64 Und83 hi4 hz4 hs4 (by omega) rfl hp1
  have hS : Sep w0 B w (own 4 (.slice A2 (Int.toNat (g3.length : Int)) c3) (vB (List.replicate (Int.toNat (g3.length : Int)) false)) :: blk g4 24 #[.int .i64 g1, .int .i64 g2, .slice A1 g3.length c1] :: fs) := hS
  refine at_do (d := 12) hF (by kernel_rfl) (by kernel_rfl) hrun (fun a hF => ?_)
  refine at_run 1 [] [] [1, 2, 3, 7] [pl 1 (.int .i64 c2), pl 2 (.bool other1), pl 3 (.pointer (some ⟨g4, 0, none⟩)), pl 7 (.slice A2 (Int.toNat (g3.length : Int)) c3)] hF hS (by kernel_rfl) (by kernel_rfl) ?_ (fun a w hF hS => ?_)
  · exact obs_nil
  refine at_end [1, 2, 3, 7] [pl 1 (.int .i64 c2), pl 2 (.bool other1), pl 3 (.pointer (some ⟨g4, 0, none⟩)), pl 7 (.slice A2 (Int.toNat (g3.length : Int)) c3)] hF rfl (by kernel_rfl) (fun hF => ?_)
  refine then_n ?_
  refine seq_cut (fun a w => ∃ (m2 : List Bool), Fr 32 [pl 7 (.slice A2 (Int.toNat (g3.length : Int)) c3)] a ∧ Sep w0 B w (own 4 (.slice A2 (Int.toNat (g3.length : Int)) c3) (vB m2) :: fs) ∧ (gameroomref_marks_J1 m2).bind some = some r) ?_ ?_
  · rintro a w ⟨m2, hF, hS, hm⟩
    unfold gameroomref_marks_J1 at hm
    refine reg [] [] [6] [pl 6 (.slice A2 (Int.toNat (g3.length : Int)) c3)] hF hS Fol (by kernel_rfl) (by kernel_rfl) (by kernel_rfl) ?_ (fun a w hF hS => ?_)
    · exact obs_nil
    refine wpIn_ret ?_
    have hl1 := (hS.at_ 0 rfl).len1
    have hS := (hS.at_ 0 rfl).reN hl1
    have hS : Sep w0 B w (own 4 (.slice A2 m2.length c3) (vB m2) :: fs) := hS
    have hF := hF.cast (t := 6) (v := .slice A2 (Int.toNat (g3.length : Int)) c3) (v' := .slice A2 m2.length c3) rfl rfl (congrArg (fun k => Value.slice A2 k c3) hl1)
    have hm : some m2 = some r := hm
    obtain rfl := Option.some.inj hm
    exact retV (rs := [.tmp 6]) (vs := [.slice A2 m2.length c3]) hF rfl (rv_t (by kernel_rfl) <| rv_nil) rfl ⟨_, rfl, A2, c3, rfl, hS⟩
  · refine reg [] [] [1, 2, 3, 7, 8] [pl 1 (.int .i64 c2), pl 2 (.bool other1), pl 3 (.pointer (some ⟨g4, 0, none⟩)), pl 7 (.slice A2 (Int.toNat (g3.length : Int)) c3), pl 8 (.int .i64 0)] hF hS Fol (by kernel_rfl) (by kernel_rfl) (by kernel_rfl) ?_ (fun a w hF hS => ?_)
    · exact obs_nil
    refine wpIn_block ?_
    have hS := hS.pickN 2 [1, 0] (by decide)
    refine wp_loop_model (S := (List Bool × Int)) (R := (List Bool)) (gameroomref_marks_L1 g3 c2 other1) (fun x => (gameroomref_marks_K1 x).bind some) r (fun (x : (List Bool × Int)) a w => Fr 32 [pl 1 (.int .i64 c2), pl 2 (.bool other1), pl 3 (.pointer (some ⟨g4, 0, none⟩)), pl 7 (.slice A2 (Int.toNat (g3.length : Int)) c3), pl 8 (.int .i64 x.2)] a ∧ Sep w0 B w (blk g4 24 #[.int .i64 g1, .int .i64 g2, .slice A1 g3.length c1] :: own 4 (.slice A2 (Int.toNat (g3.length : Int)) c3) (vB x.1) :: fs)) (assoc_b hm) ⟨hF.weak [1, 2, 3, 7, 8] (by kernel_rfl), hS⟩ ?_
    clear hF hS hm
    rintro nn1 ⟨m1, i1⟩ a w ⟨hF, hS⟩ hm
    generalize hφ1 : stK (gameroomref_marks_L1 g3 c2 other1) nn1 (fun x => (gameroomref_marks_K1 x).bind some) = φ1 at hm
    unfold gameroomref_marks_L1 at hm
    dsimp only at hF hS hm
    refine seq_cut (fun a w => Fr 32 [pl 1 (.int .i64 c2), pl 2 (.bool other1), pl 3 (.pointer (some ⟨g4, 0, none⟩)), pl 7 (.slice A2 (Int.toNat (g3.length : Int)) c3), pl 8 (.int .i64 i1)] a ∧ Sep w0 B w (blk g4 24 #[.int .i64 g1, .int .i64 g2, .slice A1 g3.length c1] :: own 4 (.slice A2 (Int.toNat (g3.length : Int)) c3) (vB m1) :: fs) ∧ ((gameroomref_marks_J2 g3 c2 other1 m1 i1)).bind φ1 = some r) ?_ ?_
    · rintro a w ⟨hF, hS, hm⟩
      unfold gameroomref_marks_J2 at hm
      refine seq_cut (fun a w => Fr 32 [pl 1 (.int .i64 c2), pl 2 (.bool other1), pl 3 (.pointer (some ⟨g4, 0, none⟩)), pl 7 (.slice A2 (Int.toNat (g3.length : Int)) c3), pl 8 (.int .i64 i1)] a ∧ Sep w0 B w (blk g4 24 #[.int .i64 g1, .int .i64 g2, .slice A1 g3.length c1] :: own 4 (.slice A2 (Int.toNat (g3.length : Int)) c3) (vB (m1.set (Int.toNat i1) (((geti g3 i1) == c2) != other1))) :: fs) ∧ ((gameroomref_marks_J3 g3 c2 other1 m1 i1)).bind φ1 = some r) ?_ ?_
      · rintro a w ⟨hF, hS, hm⟩
        unfold gameroomref_marks_J3 at hm
        refine reg1 [] [] [1, 2, 3, 7, 8] [pl 1 (.int .i64 c2), pl 2 (.bool other1), pl 3 (.pointer (some ⟨g4, 0, none⟩)), pl 7 (.slice A2 (Int.toNat (g3.length : Int)) c3), pl 8 (.int .i64 (w64 (i1 + 1)))] hF hS Fol (by kernel_rfl) (by kernel_rfl) (by kernel_rfl) ?_ (fun a w hF hS => ?_)
        · exact obs_nil
        refine then_n ?_
        rw [← hφ1] at hm
        exact ⟨((m1.set (Int.toNat i1) (((geti g3 i1) == c2) != other1)), (w64 (i1 + 1))), ⟨hF.weak [1, 2, 3, 7, 8] (by kernel_rfl), hS⟩, hm⟩
      · refine wpIn_block ?_
        refine oneR ?_
        obtain ⟨hp2, hm⟩ := asrt_b hm
        obtain ⟨hp3, hm⟩ := asrt_b hm
        refine at_run 12 [⟨false, [], vS (Instr.loadAt 22 (.pointer (some ⟨g4, 2, none⟩))), .slice A1 g3.length c1⟩, ⟨true, [], vS (Instr.indexAt 22 (.slice A1 g3.length c1) (.int .i64 i1)), .pointer (some (sAddr A1 i1))⟩, ⟨false, [], vS (Instr.loadAt 3 (.pointer (some (sAddr A1 i1)))), .int .i64 (geti g3 i1)⟩, ⟨true, [], vS (Instr.indexAt 83 (.slice A2 (Int.toNat (g3.length : Int)) c3) (.int .i64 i1)), .pointer (some (sAddr A2 i1))⟩] [none, none, none, some (.slice A1 g3.length c1), none, some (.pointer (some (sAddr A1 i1))), some (.int .i64 (geti g3 i1)), none, none, none, none, some (.pointer (some (sAddr A2 i1)))] [1, 2, 3, 7, 8, 29, 30] [pl 1 (.int .i64 c2), pl 2 (.bool other1), pl 3 (.pointer (some ⟨g4, 0, none⟩)), pl 7 (.slice A2 (Int.toNat (g3.length : Int)) c3), pl 8 (.int .i64 i1), pl 29 (.bool (((geti g3 i1) == c2) != other1)), pl 30 (.pointer (some (sAddr A2 i1)))] hF hS (by kernel_rfl) (by kernel_rfl) ?_ (fun a w hF hS => ?_)
        · exact obs_cons (ob_load Agg22 (fun _ _ hS => (hS.at_ 0 rfl).cell rfl)) <| obs_cons (ob_ix1 (f := (Value.int .i64)) (m := g3) Und22 hi3 hs3 (hr_g3 _ (hS.dropN 2)) rfl (fun _ => hp2)) <| obs_cons (ob_get1 (n := g3.length) (m := g3) (Value.int .i64) (0 : Int) Agg3 (fun _ hS => ⟨_, (hr_g3 _ (hS.dropN 2))⟩) (fun _ hS => rfl) (fun _ => hp2)) <| obs_cons (ob_ix1 (f := Value.bool) (m := m1) Und83 hi4 hs4 (hS.at_ 1 rfl).rd ((hS.at_ 1 rfl).len1) (fun _ => hp3)) <| obs_nil
        obtain ⟨w, hrun, hS⟩ := run_set1 (P := Try.prog) (t := 4) (x := (((geti g3 i1) == c2) != other1)) Value.bool (hS.at_ 1 rfl) hi4 hs4 rfl rfl hp3
        refine at_skip hF (by kernel_rfl) hrun ?_
        have hS : Sep w0 B w (blk g4 24 #[.int .i64 g1, .int .i64 g2, .slice A1 g3.length c1] :: own 4 (.slice A2 (Int.toNat (g3.length : Int)) c3) (vB (m1.set (Int.toNat i1) (((geti g3 i1) == c2) != other1))) :: fs) := hS
        refine at_end [1, 2, 3, 7, 8] [pl 1 (.int .i64 c2), pl 2 (.bool other1), pl 3 (.pointer (some ⟨g4, 0, none⟩)), pl 7 (.slice A2 (Int.toNat (g3.length : Int)) c3), pl 8 (.int .i64 i1)] hF rfl (by kernel_rfl) (fun hF => ?_)
        refine block_n ?_
        refine then_n ?_
        exact ⟨hF.weak [1, 2, 3, 7, 8] (by kernel_rfl), hS, hm⟩
    · refine reg [] [] [1, 2, 3, 7, 8, 16] [pl 1 (.int .i64 c2), pl 2 (.bool other1), pl 3 (.pointer (some ⟨g4, 0, none⟩)), pl 7 (.slice A2 (Int.toNat (g3.length : Int)) c3), pl 8 (.int .i64 i1), pl 16 (.bool (decide (i1 < (((Int.toNat (g3.length : Int)) : Nat) : Int))))] hF hS Fol (by kernel_rfl) (by kernel_rfl) (by kernel_rfl) ?_ (fun a w hF hS => ?_)
      · exact obs_nil
      refine cond_ev (t := 16) (b := decide (i1 < (((Int.toNat (g3.length : Int)) : Nat) : Int))) hF (by kernel_rfl) (fun hb => ?_) (fun hb => ?_)
      · replace hm := if_t hm hb
        refine wpIn_skip ?_
        refine then_n ?_
        exact ⟨hF.weak [1, 2, 3, 7, 8] (by kernel_rfl), hS, hm⟩
      · replace hm := if_f hm hb
        refine wpIn_exit ?_
        refine then_e (then_e (block_e (then_n ?_)))
        have hS := hS.pickN 2 [1] (by decide)
        rw [← hφ1] at hm
        replace hm := done_b hm
        unfold gameroomref_marks_K1 at hm
        try dsimp only at hm
        have hm : (gameroomref_marks_J1 m1).bind some = some r := hm
        exact ⟨m1, hF.weak [7] (by kernel_rfl), hS, hm⟩

noncomputable def gameroomref_beside_m  (g1 : Int) (g2 : Int) (g3 : List Int) (a1 : Int) (b1 : Int) : Option Bool :=
  asrt (g1 ≠ (0 : Int)) <| asrt (g1 ≠ (0 : Int)) <| asrt (g1 ≠ (0 : Int)) <| asrt (g1 ≠ (0 : Int)) <| some ((((w64 ((Int.tmod a1 g1) - (Int.tmod b1 g1))) == 0) && (((w64 ((w64 (Int.tdiv a1 g1)) - (w64 (Int.tdiv b1 g1)))) == 1) || ((w64 ((w64 (Int.tdiv a1 g1)) - (w64 (Int.tdiv b1 g1)))) == (-1)))) || (((w64 ((w64 (Int.tdiv a1 g1)) - (w64 (Int.tdiv b1 g1)))) == 0) && (((w64 ((Int.tmod a1 g1) - (Int.tmod b1 g1))) == 1) || ((w64 ((Int.tmod a1 g1) - (Int.tmod b1 g1))) == (-1)))))

set_option maxRecDepth 100000 in
set_option maxHeartbeats 4000000 in
theorem gameroomref_beside_w  {g1 : Int} {g2 : Int} {A1 : Option Addr} {c1 : Nat} {n1 : Nat} {g3 : List Int} {a1 : Int} {b1 : Int} {r : Bool} {w0 w : World} {B : Nat} {fs : List HP} (hm : gameroomref_beside_m g1 g2 g3 a1 b1 = some r) (hS : Sep w0 B w (fs)) (hr_g3 : RdF w0 B fs A1 (vI g3)) (_hc_g3 : g3.length ≤ c1) (_hn_g3 : n1 = g3.length) :
    Calls Try.prog 95 #[.agg #[.int .i64 g1, .int .i64 g2, .slice A1 n1 c1], .int .i64 a1, .int .i64 b1] w fun e w' => e = .returned (.bool r) ∧ Sep w0 B w' (fs) := by
  obtain ⟨i3, hi3, hz3, hs3, hb3⟩ := info_parts Info3
  obtain rfl := _hn_g3
  unfold gameroomref_beside_m at hm
  replace hm := start_b hm
  refine enter (l := [.agg #[.int .i64 g1, .int .i64 g2, .slice A1 g3.length c1], .int .i64 a1, .int .i64 b1]) (n := 49) Try.func95 rfl rfl (by simp) (fun a hF => ?_)
  refine seqR ?_
  refine at_do (d := 3) (s := vS (Instr.box 24 (.agg #[.int .i64 g1, .int .i64 g2, .slice A1 g3.length c1]))) (v := .pointer (some ⟨w.heap.size, 0, none⟩)) (w' := w.alloc (.cells #[.int .i64 g1, .int .i64 g2, .slice A1 g3.length c1] 24)) hF (by kernel_rfl) (by kernel_rfl) (by kernel_rfl) (fun a hF => ?_)
  have hS : Sep w0 B (w.alloc (.cells #[.int .i64 g1, .int .i64 g2, .slice A1 g3.length c1] 24)) (blk w.heap.size 24 #[.int .i64 g1, .int .i64 g2, .slice A1 g3.length c1] :: (fs)) := hS.box 24 #[.int .i64 g1, .int .i64 g2, .slice A1 g3.length c1]
  generalize w.heap.size = g4 at hF hS
  generalize w.alloc (.cells #[.int .i64 g1, .int .i64 g2, .slice A1 g3.length c1] 24) = w at hS ⊢
  refine at_run 1 [] [] [1, 2, 3] [pl 1 (.int .i64 a1), pl 2 (.int .i64 b1), pl 3 (.pointer (some ⟨g4, 0, none⟩))] hF hS (by kernel_rfl) (by kernel_rfl) ?_ (fun a w hF hS => ?_)
  · exact obs_nil
  refine at_end [1, 2, 3] [pl 1 (.int .i64 a1), pl 2 (.int .i64 b1), pl 3 (.pointer (some ⟨g4, 0, none⟩))] hF rfl (by kernel_rfl) (fun hF => ?_)
  refine then_n ?_
  obtain ⟨hp1, hm⟩ := asrt_b hm
  obtain ⟨hp2, hm⟩ := asrt_b hm
  obtain ⟨hp3, hm⟩ := asrt_b hm
  obtain ⟨hp4, hm⟩ := asrt_b hm
  refine reg [⟨false, [], vS (Instr.loadAt 3 (.pointer (some ⟨g4, 0, none⟩))), .int .i64 g1⟩, ⟨true, [], vS (Op.intDiv .rem .i64 a1 g1), .int .i64 (Int.tmod a1 g1)⟩, ⟨false, [], vS (Instr.loadAt 3 (.pointer (some ⟨g4, 0, none⟩))), .int .i64 g1⟩, ⟨true, [], vS (Op.intDiv .rem .i64 b1 g1), .int .i64 (Int.tmod b1 g1)⟩, ⟨false, [], vS (Instr.loadAt 3 (.pointer (some ⟨g4, 0, none⟩))), .int .i64 g1⟩, ⟨true, [], vS (Op.intDiv .quo .i64 a1 g1), .int .i64 (w64 (Int.tdiv a1 g1))⟩, ⟨false, [], vS (Instr.loadAt 3 (.pointer (some ⟨g4, 0, none⟩))), .int .i64 g1⟩, ⟨true, [], vS (Op.intDiv .quo .i64 b1 g1), .int .i64 (w64 (Int.tdiv b1 g1))⟩] [none, none, some (.int .i64 g1), some (.int .i64 (Int.tmod a1 g1)), none, none, some (.int .i64 g1), some (.int .i64 (Int.tmod b1 g1)), none, none, none, some (.int .i64 g1), some (.int .i64 (w64 (Int.tdiv a1 g1))), none, none, some (.int .i64 g1), some (.int .i64 (w64 (Int.tdiv b1 g1))), none, none, none] [7, 8] [pl 7 (.int .i64 (w64 ((Int.tmod a1 g1) - (Int.tmod b1 g1)))), pl 8 (.int .i64 (w64 ((w64 (Int.tdiv a1 g1)) - (w64 (Int.tdiv b1 g1)))))] hF hS Fol (by kernel_rfl) (by kernel_rfl) (by kernel_rfl) ?_ (fun a w hF hS => ?_)
  · exact obs_cons (ob_load Agg3 (fun _ _ hS => (hS.at_ 0 rfl).cell rfl)) <| obs_cons (ob_rem rfl (fun _ => hp1)) <| obs_cons (ob_load Agg3 (fun _ _ hS => (hS.at_ 0 rfl).cell rfl)) <| obs_cons (ob_rem rfl (fun _ => hp2)) <| obs_cons (ob_load Agg3 (fun _ _ hS => (hS.at_ 0 rfl).cell rfl)) <| obs_cons (ob_quo rfl (fun _ => hp3)) <| obs_cons (ob_load Agg3 (fun _ _ hS => (hS.at_ 0 rfl).cell rfl)) <| obs_cons (ob_quo rfl (fun _ => hp4)) <| obs_nil
  refine reg [] [] [6] [pl 6 (.bool ((((w64 ((Int.tmod a1 g1) - (Int.tmod b1 g1))) == 0) && (((w64 ((w64 (Int.tdiv a1 g1)) - (w64 (Int.tdiv b1 g1)))) == 1) || ((w64 ((w64 (Int.tdiv a1 g1)) - (w64 (Int.tdiv b1 g1)))) == (-1)))) || (((w64 ((w64 (Int.tdiv a1 g1)) - (w64 (Int.tdiv b1 g1)))) == 0) && (((w64 ((Int.tmod a1 g1) - (Int.tmod b1 g1))) == 1) || ((w64 ((Int.tmod a1 g1) - (Int.tmod b1 g1))) == (-1))))))] hF hS Fol (by kernel_rfl) (by kernel_rfl) (by kernel_rfl) ?_ (fun a w hF hS => ?_)
  · exact obs_nil
  refine wpIn_ret ?_
  have hS := hS.pickN 1 [] (by decide)
  have hm : some ((((w64 ((Int.tmod a1 g1) - (Int.tmod b1 g1))) == 0) && (((w64 ((w64 (Int.tdiv a1 g1)) - (w64 (Int.tdiv b1 g1)))) == 1) || ((w64 ((w64 (Int.tdiv a1 g1)) - (w64 (Int.tdiv b1 g1)))) == (-1)))) || (((w64 ((w64 (Int.tdiv a1 g1)) - (w64 (Int.tdiv b1 g1)))) == 0) && (((w64 ((Int.tmod a1 g1) - (Int.tmod b1 g1))) == 1) || ((w64 ((Int.tmod a1 g1) - (Int.tmod b1 g1))) == (-1))))) = some r := hm
  obtain rfl := Option.some.inj hm
  exact retV (rs := [.tmp 6]) (vs := [.bool ((((w64 ((Int.tmod a1 g1) - (Int.tmod b1 g1))) == 0) && (((w64 ((w64 (Int.tdiv a1 g1)) - (w64 (Int.tdiv b1 g1)))) == 1) || ((w64 ((w64 (Int.tdiv a1 g1)) - (w64 (Int.tdiv b1 g1)))) == (-1)))) || (((w64 ((w64 (Int.tdiv a1 g1)) - (w64 (Int.tdiv b1 g1)))) == 0) && (((w64 ((Int.tmod a1 g1) - (Int.tmod b1 g1))) == 1) || ((w64 ((Int.tmod a1 g1) - (Int.tmod b1 g1))) == (-1)))))]) hF rfl (rv_t (by kernel_rfl) <| rv_nil) rfl ⟨rfl, hS⟩

noncomputable def gameroomref_regionOf_J7  (b1 : Int) (in6 : List Bool) (changed5 : Bool) : Option (St (List Bool × Bool × Int) (List Bool × Bool)) :=
  some (.next (in6, changed5, (w64 (b1 + 1))))

noncomputable def gameroomref_regionOf_J6  (g1 : Int) (g2 : Int) (g3 : List Int) (marked1 : List Bool) (a1 : Int) (in5 : List Bool) (changed4 : Bool) (b1 : Int) : Option (St (List Bool × Bool × Int) (List Bool × Bool)) :=
  asrt (0 ≤ b1 ∧ b1 < (marked1.length : Int)) <| asrt ((getb marked1 b1) = true → 0 ≤ b1 ∧ b1 < (((Int.toNat (g3.length : Int)) : Nat) : Int)) <| ((if ((getb marked1 b1) && (!(getb in5 b1))) then gameroomref_beside_m g1 g2 g3 a1 b1 else some false)).bind fun r1 => if (((getb marked1 b1) && (!(getb in5 b1))) && r1) then (asrt (0 ≤ b1 ∧ b1 < (((Int.toNat (g3.length : Int)) : Nat) : Int)) <| (gameroomref_regionOf_J7 b1) (in5.set (Int.toNat b1) true) true) else ((gameroomref_regionOf_J7 b1) in5 changed4)

noncomputable def gameroomref_regionOf_J4  (a1 : Int) (in4 : List Bool) (changed3 : Bool) : Option (St (List Bool × Bool × Int) (List Bool × Bool)) :=
  some (.next (in4, changed3, (w64 (a1 + 1))))

noncomputable def gameroomref_regionOf_K3  (a1 : Int) : (List Bool × Bool) → Option (St (List Bool × Bool × Int) (List Bool × Bool)) :=
  fun (x : (List Bool × Bool)) => match x with | (in4, changed3) => (gameroomref_regionOf_J4 a1) in4 changed3

noncomputable def gameroomref_regionOf_L3  (g1 : Int) (g2 : Int) (g3 : List Int) (marked1 : List Bool) (a1 : Int) : (List Bool × Bool × Int) → Option (St (List Bool × Bool × Int) (List Bool × Bool)) :=
  fun (x : (List Bool × Bool × Int)) => match x with | (in5, changed4, b1) => if (decide (b1 < (((Int.toNat (g3.length : Int)) : Nat) : Int))) then ((gameroomref_regionOf_J6 g1 g2 g3 marked1 a1 in5 changed4 b1)) else (some (.done (in5, changed4)))

noncomputable def gameroomref_regionOf_J5  (g1 : Int) (g2 : Int) (g3 : List Int) (marked1 : List Bool) (in3 : List Bool) (changed2 : Bool) (a1 : Int) : Option (St (List Bool × Bool × Int) (List Bool × Bool)) :=
  (loop (gameroomref_regionOf_L3 g1 g2 g3 marked1 a1) (in3, changed2, 0)).bind (gameroomref_regionOf_K3 a1)

noncomputable def gameroomref_regionOf_J3  (g1 : Int) (g2 : Int) (g3 : List Int) (marked1 : List Bool) (in3 : List Bool) (changed2 : Bool) (a1 : Int) : Option (St (List Bool × Bool × Int) (List Bool × Bool)) :=
  asrt (0 ≤ a1 ∧ a1 < (((Int.toNat (g3.length : Int)) : Nat) : Int)) <| if (!(getb in3 a1)) then ((gameroomref_regionOf_J4 a1) in3 changed2) else ((gameroomref_regionOf_J5 g1 g2 g3 marked1 in3 changed2 a1))

noncomputable def gameroomref_regionOf_K2  : (List Bool × Bool) → Option (St (List Bool × Bool) (List Bool)) :=
  fun (x : (List Bool × Bool)) => match x with | (in1, changed1) => some (.next (in1, changed1))

noncomputable def gameroomref_regionOf_L2  (g1 : Int) (g2 : Int) (g3 : List Int) (marked1 : List Bool) : (List Bool × Bool × Int) → Option (St (List Bool × Bool × Int) (List Bool × Bool)) :=
  fun (x : (List Bool × Bool × Int)) => match x with | (in3, changed2, a1) => if (decide (a1 < (((Int.toNat (g3.length : Int)) : Nat) : Int))) then ((gameroomref_regionOf_J3 g1 g2 g3 marked1 in3 changed2 a1)) else (some (.done (in3, changed2)))

noncomputable def gameroomref_regionOf_J2  (g1 : Int) (g2 : Int) (g3 : List Int) (marked1 : List Bool) (in1 : List Bool) : Option (St (List Bool × Bool) (List Bool)) :=
  (loop (gameroomref_regionOf_L2 g1 g2 g3 marked1) (in1, false, 0)).bind gameroomref_regionOf_K2

noncomputable def gameroomref_regionOf_J1  (in2 : List Bool) : Option (List Bool) :=
  some in2

noncomputable def gameroomref_regionOf_K1  : (List Bool) → Option (List Bool) :=
  fun (x : (List Bool)) => match x with | in2 => gameroomref_regionOf_J1 in2

noncomputable def gameroomref_regionOf_L1  (g1 : Int) (g2 : Int) (g3 : List Int) (marked1 : List Bool) : (List Bool × Bool) → Option (St (List Bool × Bool) (List Bool)) :=
  fun (x : (List Bool × Bool)) => match x with | (in1, changed1) => if changed1 then ((gameroomref_regionOf_J2 g1 g2 g3 marked1 in1)) else (some (.done in1))

noncomputable def gameroomref_regionOf_m  (g1 : Int) (g2 : Int) (g3 : List Int) (place1 : Int) (marked1 : List Bool) : Option (List Bool) :=
  asrt ((0 : Int) ≤ (g3.length : Int) ∧ (g3.length : Int) ≤ bigN) <| asrt (0 ≤ place1 ∧ place1 < (((Int.toNat (g3.length : Int)) : Nat) : Int)) <| (loop (gameroomref_regionOf_L1 g1 g2 g3 marked1) (((List.replicate (Int.toNat (g3.length : Int)) false).set (Int.toNat place1) true), true)).bind gameroomref_regionOf_K1

set_option maxRecDepth 100000 in
set_option maxHeartbeats 4000000 in
theorem gameroomref_regionOf_w  {g1 : Int} {g2 : Int} {A1 : Option Addr} {c1 : Nat} {n1 : Nat} {g3 : List Int} {place1 : Int} {A2 : Option Addr} {c2 : Nat} {n2 : Nat} {marked1 : List Bool} {r : (List Bool)} {w0 w : World} {B : Nat} {fs : List HP} (hm : gameroomref_regionOf_m g1 g2 g3 place1 marked1 = some r) (hS : Sep w0 B w (fs)) (hr_g3 : RdF w0 B fs A1 (vI g3)) (_hc_g3 : g3.length ≤ c1) (_hn_g3 : n1 = g3.length) (hr_marked1 : RdF w0 B fs A2 (vB marked1)) (_hc_marked1 : marked1.length ≤ c2) (_hn_marked1 : n2 = marked1.length) :
    Calls Try.prog 56 #[.agg #[.int .i64 g1, .int .i64 g2, .slice A1 n1 c1], .int .i64 place1, .slice A2 n2 c2] w fun e w' => ∃ v, e = .returned v ∧ ∃ (A4 : Option Addr) (c4 : Nat), v = .slice A4 r.length c4 ∧ Sep w0 B w' (own 4 (.slice A4 r.length c4) (vB r) :: fs) := by
  obtain ⟨i3, hi3, hz3, hs3, hb3⟩ := info_parts Info3
  obtain ⟨i4, hi4, hz4, hs4, hb4⟩ := info_parts Info4
  obtain rfl := _hn_g3
  obtain rfl := _hn_marked1
  unfold gameroomref_regionOf_m at hm
  replace hm := start_b hm
  refine enter (l := [.agg #[.int .i64 g1, .int .i64 g2, .slice A1 g3.length c1], .int .i64 place1, .slice A2 marked1.length c2]) (n := 57) Try.func56 rfl rfl (by simp) (fun a hF => ?_)
  refine seqR ?_
  refine at_do (d := 3) (s := vS (Instr.box 24 (.agg #[.int .i64 g1, .int .i64 g2, .slice A1 g3.length c1]))) (v := .pointer (some ⟨w.heap.size, 0, none⟩)) (w' := w.alloc (.cells #[.int .i64 g1, .int .i64 g2, .slice A1 g3.length c1] 24)) hF (by kernel_rfl) (by kernel_rfl) (by kernel_rfl) (fun a hF => ?_)
  have hS : Sep w0 B (w.alloc (.cells #[.int .i64 g1, .int .i64 g2, .slice A1 g3.length c1] 24)) (blk w.heap.size 24 #[.int .i64 g1, .int .i64 g2, .slice A1 g3.length c1] :: (fs)) := hS.box 24 #[.int .i64 g1, .int .i64 g2, .slice A1 g3.length c1]
  generalize w.heap.size = g4 at hF hS
  generalize w.alloc (.cells #[.int .i64 g1, .int .i64 g2, .slice A1 g3.length c1] 24) = w at hS ⊢
  refine at_run 1 [] [] [1, 2, 3] [pl 1 (.int .i64 place1), pl 2 (.slice A2 marked1.length c2), pl 3 (.pointer (some ⟨g4, 0, none⟩))] hF hS (by kernel_rfl) (by kernel_rfl) ?_ (fun a w hF hS => ?_)
  · exact obs_nil
  refine at_end [1, 2, 3] [pl 1 (.int .i64 place1), pl 2 (.slice A2 marked1.length c2), pl 3 (.pointer (some ⟨g4, 0, none⟩))] hF rfl (by kernel_rfl) (fun hF => ?_)
  refine then_n ?_
  refine seqR ?_
  obtain ⟨hp1, hm⟩ := asrt_b hm
  refine at_run 3 [⟨false, [], vS (Instr.loadAt 22 (.pointer (some ⟨g4, 2, none⟩))), .slice A1 g3.length c1⟩] [none, some (.slice A1 g3.length c1), none] [1, 2, 3, 13] [pl 1 (.int .i64 place1), pl 2 (.slice A2 marked1.length c2), pl 3 (.pointer (some ⟨g4, 0, none⟩)), pl 13 (.int .i64 (g3.length : Int))] hF hS (by kernel_rfl) (by kernel_rfl) ?_ (fun a w hF hS => ?_)
  · exact obs_cons (ob_load Agg22 (fun _ _ hS => (hS.at_ 0 rfl).cell rfl)) <| obs_nil
  obtain ⟨A3, c3, w, hrun, hS⟩ := run_mk1 (P := Try.prog) (t := 83) Value.bool false hS .i64 .i64 Und83 hi4 hz4 hs4 (by omega) rfl hp1
  have hS : Sep w0 B w (own 4 (.slice A3 (Int.toNat (g3.length : Int)) c3) (vB (List.replicate (Int.toNat (g3.length : Int)) false)) :: blk g4 24 #[.int .i64 g1, .int .i64 g2, .slice A1 g3.length c1] :: fs) := hS
  refine at_do (d := 14) hF (by kernel_rfl) (by kernel_rfl) hrun (fun a hF => ?_)
  refine at_run 1 [] [] [1, 2, 3, 7] [pl 1 (.int .i64 place1), pl 2 (.slice A2 marked1.length c2), pl 3 (.pointer (some ⟨g4, 0, none⟩)), pl 7 (.slice A3 (Int.toNat (g3.length : Int)) c3)] hF hS (by kernel_rfl) (by kernel_rfl) ?_ (fun a w hF hS => ?_)
  · exact obs_nil
  refine at_end [1, 2, 3, 7] [pl 1 (.int .i64 place1), pl 2 (.slice A2 marked1.length c2), pl 3 (.pointer (some ⟨g4, 0, none⟩)), pl 7 (.slice A3 (Int.toNat (g3.length : Int)) c3)] hF rfl (by kernel_rfl) (fun hF => ?_)
  refine then_n ?_
  refine seqR ?_
  obtain ⟨hp2, hm⟩ := asrt_b hm
  refine at_run 3 [⟨true, [], vS (Instr.indexAt 83 (.slice A3 (Int.toNat (g3.length : Int)) c3) (.int .i64 place1)), .pointer (some (sAddr A3 place1))⟩] [none, none, some (.pointer (some (sAddr A3 place1)))] [2, 3, 7, 17] [pl 2 (.slice A2 marked1.length c2), pl 3 (.pointer (some ⟨g4, 0, none⟩)), pl 7 (.slice A3 (Int.toNat (g3.length : Int)) c3), pl 17 (.pointer (some (sAddr A3 place1)))] hF hS (by kernel_rfl) (by kernel_rfl) ?_ (fun a w hF hS => ?_)
  · exact obs_cons (ob_ix1 (f := Value.bool) (m := (List.replicate (Int.toNat (g3.length : Int)) false)) Und83 hi4 hs4 (hS.at_ 0 rfl).rd ((hS.at_ 0 rfl).len1) (fun _ => hp2)) <| obs_nil
  obtain ⟨w, hrun, hS⟩ := run_set1 (P := Try.prog) (t := 4) (x := true) Value.bool (hS.at_ 0 rfl) hi4 hs4 rfl rfl hp2
  refine at_skip hF (by kernel_rfl) hrun ?_
  have hS : Sep w0 B w (own 4 (.slice A3 (Int.toNat (g3.length : Int)) c3) (vB ((List.replicate (Int.toNat (g3.length : Int)) false).set (Int.toNat place1) true)) :: blk g4 24 #[.int .i64 g1, .int .i64 g2, .slice A1 g3.length c1] :: fs) := hS
  refine at_end [2, 3, 7] [pl 2 (.slice A2 marked1.length c2), pl 3 (.pointer (some ⟨g4, 0, none⟩)), pl 7 (.slice A3 (Int.toNat (g3.length : Int)) c3)] hF rfl (by kernel_rfl) (fun hF => ?_)
  refine then_n ?_
  refine seq_cut (fun a w => ∃ (in2 : List Bool), Fr 57 [pl 7 (.slice A3 (Int.toNat (g3.length : Int)) c3)] a ∧ Sep w0 B w (own 4 (.slice A3 (Int.toNat (g3.length : Int)) c3) (vB in2) :: fs) ∧ (gameroomref_regionOf_J1 in2).bind some = some r) ?_ ?_
  · rintro a w ⟨in2, hF, hS, hm⟩
    unfold gameroomref_regionOf_J1 at hm
    refine reg [] [] [6] [pl 6 (.slice A3 (Int.toNat (g3.length : Int)) c3)] hF hS Fol (by kernel_rfl) (by kernel_rfl) (by kernel_rfl) ?_ (fun a w hF hS => ?_)
    · exact obs_nil
    refine wpIn_ret ?_
    have hl1 := (hS.at_ 0 rfl).len1
    have hS := (hS.at_ 0 rfl).reN hl1
    have hS : Sep w0 B w (own 4 (.slice A3 in2.length c3) (vB in2) :: fs) := hS
    have hF := hF.cast (t := 6) (v := .slice A3 (Int.toNat (g3.length : Int)) c3) (v' := .slice A3 in2.length c3) rfl rfl (congrArg (fun k => Value.slice A3 k c3) hl1)
    have hm : some in2 = some r := hm
    obtain rfl := Option.some.inj hm
    exact retV (rs := [.tmp 6]) (vs := [.slice A3 in2.length c3]) hF rfl (rv_t (by kernel_rfl) <| rv_nil) rfl ⟨_, rfl, A3, c3, rfl, hS⟩
  · refine reg [] [] [2, 3, 7, 8] [pl 2 (.slice A2 marked1.length c2), pl 3 (.pointer (some ⟨g4, 0, none⟩)), pl 7 (.slice A3 (Int.toNat (g3.length : Int)) c3), pl 8 (.bool true)] hF hS Fol (by kernel_rfl) (by kernel_rfl) (by kernel_rfl) ?_ (fun a w hF hS => ?_)
    · exact obs_nil
    refine wpIn_block ?_
    have hS := hS.pickN 2 [1, 0] (by decide)
    refine wp_loop_model (S := (List Bool × Bool)) (R := (List Bool)) (gameroomref_regionOf_L1 g1 g2 g3 marked1) (fun x => (gameroomref_regionOf_K1 x).bind some) r (fun (x : (List Bool × Bool)) a w => Fr 57 [pl 2 (.slice A2 marked1.length c2), pl 3 (.pointer (some ⟨g4, 0, none⟩)), pl 7 (.slice A3 (Int.toNat (g3.length : Int)) c3), pl 8 (.bool x.2)] a ∧ Sep w0 B w (blk g4 24 #[.int .i64 g1, .int .i64 g2, .slice A1 g3.length c1] :: own 4 (.slice A3 (Int.toNat (g3.length : Int)) c3) (vB x.1) :: fs)) (assoc_b hm) ⟨hF.weak [2, 3, 7, 8] (by kernel_rfl), hS⟩ ?_
    clear hF hS hm
    rintro nn1 ⟨in1, changed1⟩ a w ⟨hF, hS⟩ hm
    generalize hφ1 : stK (gameroomref_regionOf_L1 g1 g2 g3 marked1) nn1 (fun x => (gameroomref_regionOf_K1 x).bind some) = φ1 at hm
    unfold gameroomref_regionOf_L1 at hm
    dsimp only at hF hS hm
    refine seq_cut (fun a w => Fr 57 [pl 2 (.slice A2 marked1.length c2), pl 3 (.pointer (some ⟨g4, 0, none⟩)), pl 7 (.slice A3 (Int.toNat (g3.length : Int)) c3)] a ∧ Sep w0 B w (blk g4 24 #[.int .i64 g1, .int .i64 g2, .slice A1 g3.length c1] :: own 4 (.slice A3 (Int.toNat (g3.length : Int)) c3) (vB in1) :: fs) ∧ ((gameroomref_regionOf_J2 g1 g2 g3 marked1 in1)).bind φ1 = some r) ?_ ?_
    · rintro a w ⟨hF, hS, hm⟩
      unfold gameroomref_regionOf_J2 at hm
      refine wpIn_block ?_
      refine reg [] [] [2, 3, 7, 8] [pl 2 (.slice A2 marked1.length c2), pl 3 (.pointer (some ⟨g4, 0, none⟩)), pl 7 (.slice A3 (Int.toNat (g3.length : Int)) c3), pl 8 (.bool false)] hF hS Fol (by kernel_rfl) (by kernel_rfl) (by kernel_rfl) ?_ (fun a w hF hS => ?_)
      · exact obs_nil
      refine reg [] [] [2, 3, 7, 8, 9] [pl 2 (.slice A2 marked1.length c2), pl 3 (.pointer (some ⟨g4, 0, none⟩)), pl 7 (.slice A3 (Int.toNat (g3.length : Int)) c3), pl 8 (.bool false), pl 9 (.int .i64 0)] hF hS Fol (by kernel_rfl) (by kernel_rfl) (by kernel_rfl) ?_ (fun a w hF hS => ?_)
      · exact obs_nil
      refine wpIn_block ?_
      refine wp_loop_model (S := (List Bool × Bool × Int)) (R := (List Bool × Bool)) (gameroomref_regionOf_L2 g1 g2 g3 marked1) (fun x => (gameroomref_regionOf_K2 x).bind φ1) r (fun (x : (List Bool × Bool × Int)) a w => Fr 57 [pl 2 (.slice A2 marked1.length c2), pl 3 (.pointer (some ⟨g4, 0, none⟩)), pl 7 (.slice A3 (Int.toNat (g3.length : Int)) c3), pl 8 (.bool x.2.1), pl 9 (.int .i64 x.2.2)] a ∧ Sep w0 B w (blk g4 24 #[.int .i64 g1, .int .i64 g2, .slice A1 g3.length c1] :: own 4 (.slice A3 (Int.toNat (g3.length : Int)) c3) (vB x.1) :: fs)) (assoc_b hm) ⟨hF.weak [2, 3, 7, 8, 9] (by kernel_rfl), hS⟩ ?_
      clear hF hS hm
      rintro nn2 ⟨in3, changed2, a1⟩ a w ⟨hF, hS⟩ hm
      generalize hφ2 : stK (gameroomref_regionOf_L2 g1 g2 g3 marked1) nn2 (fun x => (gameroomref_regionOf_K2 x).bind φ1) = φ2 at hm
      unfold gameroomref_regionOf_L2 at hm
      dsimp only at hF hS hm
      refine seq_cut (fun a w => Fr 57 [pl 2 (.slice A2 marked1.length c2), pl 3 (.pointer (some ⟨g4, 0, none⟩)), pl 7 (.slice A3 (Int.toNat (g3.length : Int)) c3), pl 8 (.bool changed2), pl 9 (.int .i64 a1)] a ∧ Sep w0 B w (blk g4 24 #[.int .i64 g1, .int .i64 g2, .slice A1 g3.length c1] :: own 4 (.slice A3 (Int.toNat (g3.length : Int)) c3) (vB in3) :: fs) ∧ ((gameroomref_regionOf_J3 g1 g2 g3 marked1 in3 changed2 a1)).bind φ2 = some r) ?_ ?_
      · rintro a w ⟨hF, hS, hm⟩
        unfold gameroomref_regionOf_J3 at hm
        refine seq_cut (fun a w => ∃ (in4 : List Bool) (changed3 : Bool), Fr 57 [pl 2 (.slice A2 marked1.length c2), pl 3 (.pointer (some ⟨g4, 0, none⟩)), pl 7 (.slice A3 (Int.toNat (g3.length : Int)) c3), pl 8 (.bool changed3), pl 9 (.int .i64 a1)] a ∧ Sep w0 B w (blk g4 24 #[.int .i64 g1, .int .i64 g2, .slice A1 g3.length c1] :: own 4 (.slice A3 (Int.toNat (g3.length : Int)) c3) (vB in4) :: fs) ∧ ((gameroomref_regionOf_J4 a1) in4 changed3).bind φ2 = some r) ?_ ?_
        · rintro a w ⟨in4, changed3, hF, hS, hm⟩
          unfold gameroomref_regionOf_J4 at hm
          refine reg1 [] [] [2, 3, 7, 8, 9] [pl 2 (.slice A2 marked1.length c2), pl 3 (.pointer (some ⟨g4, 0, none⟩)), pl 7 (.slice A3 (Int.toNat (g3.length : Int)) c3), pl 8 (.bool changed3), pl 9 (.int .i64 (w64 (a1 + 1)))] hF hS Fol (by kernel_rfl) (by kernel_rfl) (by kernel_rfl) ?_ (fun a w hF hS => ?_)
          · exact obs_nil
          refine then_n ?_
          rw [← hφ2] at hm
          exact ⟨(in4, changed3, (w64 (a1 + 1))), ⟨hF.weak [2, 3, 7, 8, 9] (by kernel_rfl), hS⟩, hm⟩
        · refine wpIn_block ?_
          refine seq_cut (fun a w => Fr 57 [pl 2 (.slice A2 marked1.length c2), pl 3 (.pointer (some ⟨g4, 0, none⟩)), pl 7 (.slice A3 (Int.toNat (g3.length : Int)) c3), pl 8 (.bool changed2), pl 9 (.int .i64 a1)] a ∧ Sep w0 B w (blk g4 24 #[.int .i64 g1, .int .i64 g2, .slice A1 g3.length c1] :: own 4 (.slice A3 (Int.toNat (g3.length : Int)) c3) (vB in3) :: fs) ∧ ((gameroomref_regionOf_J5 g1 g2 g3 marked1 in3 changed2 a1)).bind φ2 = some r) ?_ ?_
          · rintro a w ⟨hF, hS, hm⟩
            unfold gameroomref_regionOf_J5 at hm
            refine reg [] [] [2, 3, 7, 8, 9, 10] [pl 2 (.slice A2 marked1.length c2), pl 3 (.pointer (some ⟨g4, 0, none⟩)), pl 7 (.slice A3 (Int.toNat (g3.length : Int)) c3), pl 8 (.bool changed2), pl 9 (.int .i64 a1), pl 10 (.int .i64 0)] hF hS Fol (by kernel_rfl) (by kernel_rfl) (by kernel_rfl) ?_ (fun a w hF hS => ?_)
            · exact obs_nil
            refine wpIn_block ?_
            refine wp_loop_model (S := (List Bool × Bool × Int)) (R := (List Bool × Bool)) (gameroomref_regionOf_L3 g1 g2 g3 marked1 a1) (fun x => ((gameroomref_regionOf_K3 a1) x).bind φ2) r (fun (x : (List Bool × Bool × Int)) a w => Fr 57 [pl 2 (.slice A2 marked1.length c2), pl 3 (.pointer (some ⟨g4, 0, none⟩)), pl 7 (.slice A3 (Int.toNat (g3.length : Int)) c3), pl 8 (.bool x.2.1), pl 9 (.int .i64 a1), pl 10 (.int .i64 x.2.2)] a ∧ Sep w0 B w (blk g4 24 #[.int .i64 g1, .int .i64 g2, .slice A1 g3.length c1] :: own 4 (.slice A3 (Int.toNat (g3.length : Int)) c3) (vB x.1) :: fs)) (assoc_b hm) ⟨hF.weak [2, 3, 7, 8, 9, 10] (by kernel_rfl), hS⟩ ?_
            clear hF hS hm
            rintro nn3 ⟨in5, changed4, b1⟩ a w ⟨hF, hS⟩ hm
            generalize hφ3 : stK (gameroomref_regionOf_L3 g1 g2 g3 marked1 a1) nn3 (fun x => ((gameroomref_regionOf_K3 a1) x).bind φ2) = φ3 at hm
            unfold gameroomref_regionOf_L3 at hm
            dsimp only at hF hS hm
            refine seq_cut (fun a w => Fr 57 [pl 2 (.slice A2 marked1.length c2), pl 3 (.pointer (some ⟨g4, 0, none⟩)), pl 7 (.slice A3 (Int.toNat (g3.length : Int)) c3), pl 8 (.bool changed4), pl 9 (.int .i64 a1), pl 10 (.int .i64 b1)] a ∧ Sep w0 B w (blk g4 24 #[.int .i64 g1, .int .i64 g2, .slice A1 g3.length c1] :: own 4 (.slice A3 (Int.toNat (g3.length : Int)) c3) (vB in5) :: fs) ∧ ((gameroomref_regionOf_J6 g1 g2 g3 marked1 a1 in5 changed4 b1)).bind φ3 = some r) ?_ ?_
            · rintro a w ⟨hF, hS, hm⟩
              unfold gameroomref_regionOf_J6 at hm
              refine seq_cut (fun a w => ∃ (in6 : List Bool) (changed5 : Bool), Fr 57 [pl 2 (.slice A2 marked1.length c2), pl 3 (.pointer (some ⟨g4, 0, none⟩)), pl 7 (.slice A3 (Int.toNat (g3.length : Int)) c3), pl 8 (.bool changed5), pl 9 (.int .i64 a1), pl 10 (.int .i64 b1)] a ∧ Sep w0 B w (blk g4 24 #[.int .i64 g1, .int .i64 g2, .slice A1 g3.length c1] :: own 4 (.slice A3 (Int.toNat (g3.length : Int)) c3) (vB in6) :: fs) ∧ ((gameroomref_regionOf_J7 b1) in6 changed5).bind φ3 = some r) ?_ ?_
              · rintro a w ⟨in6, changed5, hF, hS, hm⟩
                unfold gameroomref_regionOf_J7 at hm
                refine reg1 [] [] [2, 3, 7, 8, 9, 10] [pl 2 (.slice A2 marked1.length c2), pl 3 (.pointer (some ⟨g4, 0, none⟩)), pl 7 (.slice A3 (Int.toNat (g3.length : Int)) c3), pl 8 (.bool changed5), pl 9 (.int .i64 a1), pl 10 (.int .i64 (w64 (b1 + 1)))] hF hS Fol (by kernel_rfl) (by kernel_rfl) (by kernel_rfl) ?_ (fun a w hF hS => ?_)
                · exact obs_nil
                refine then_n ?_
                rw [← hφ3] at hm
                exact ⟨(in6, changed5, (w64 (b1 + 1))), ⟨hF.weak [2, 3, 7, 8, 9, 10] (by kernel_rfl), hS⟩, hm⟩
              · refine wpIn_block ?_
                obtain ⟨hp4, hm⟩ := asrt_b hm
                obtain ⟨hp5, hm⟩ := asrt_b hm
                obtain ⟨r1, hr1, hm⟩ := call_b hm
                refine reg [⟨true, [], vS (Instr.indexAt 83 (.slice A2 marked1.length c2) (.int .i64 b1)), .pointer (some (sAddr A2 b1))⟩, ⟨false, [], vS (Instr.loadAt 4 (.pointer (some (sAddr A2 b1)))), .bool (getb marked1 b1)⟩, ⟨true, [(getb marked1 b1, true)], vS (Instr.indexAt 83 (.slice A3 (Int.toNat (g3.length : Int)) c3) (.int .i64 b1)), .pointer (some (sAddr A3 b1))⟩, ⟨false, [(getb marked1 b1, true)], vS (Instr.loadAt 4 (.pointer (some (sAddr A3 b1)))), .bool (getb in5 b1)⟩, ⟨false, [((getb marked1 b1) && (!(getb in5 b1)), true)], vS (Instr.loadAt 24 (.pointer (some ⟨g4, 0, none⟩))), .agg #[.int .i64 g1, .int .i64 g2, .slice A1 g3.length c1]⟩, ⟨false, [((getb marked1 b1) && (!(getb in5 b1)), true)], callFunc 95 #[.agg #[.int .i64 g1, .int .i64 g2, .slice A1 g3.length c1], .int .i64 a1, .int .i64 b1], .bool r1⟩] [none, none, some (.pointer (some (sAddr A2 b1))), some (.bool (getb marked1 b1)), none, none, none, some (.pointer (some (sAddr A3 b1))), some (.bool (getb in5 b1)), none, none, none, some (.agg #[.int .i64 g1, .int .i64 g2, .slice A1 g3.length c1]), none, none, some (.bool r1), none] [2, 3, 7, 8, 9, 10, 52] [pl 2 (.slice A2 marked1.length c2), pl 3 (.pointer (some ⟨g4, 0, none⟩)), pl 7 (.slice A3 (Int.toNat (g3.length : Int)) c3), pl 8 (.bool changed4), pl 9 (.int .i64 a1), pl 10 (.int .i64 b1), pl 52 (.bool (((getb marked1 b1) && (!(getb in5 b1))) && r1))] hF hS Fol (by kernel_rfl) (by kernel_rfl) (by kernel_rfl) ?_ (fun a w hF hS => ?_)
                · exact obs_cons (ob_ix1 (f := Value.bool) (m := marked1) Und83 hi4 hs4 (hr_marked1 _ (hS.dropN 2)) rfl (fun _ => hp4)) <| obs_cons (ob_get1 (n := marked1.length) (m := marked1) Value.bool false Agg4 (fun _ hS => ⟨_, (hr_marked1 _ (hS.dropN 2))⟩) (fun _ hS => rfl) (fun _ => hp4)) <| obs_cons (ob_ix1 (f := Value.bool) (m := in5) Und83 hi4 hs4 (hS.at_ 1 rfl).rd ((hS.at_ 1 rfl).len1) (fun hy => hp5 (hy (getb marked1 b1, true) (by simp)))) <| obs_cons (ob_get1 (n := (Int.toNat (g3.length : Int))) (m := in5) Value.bool false Agg4 (fun _ hS => ⟨_, (hS.at_ 1 rfl).rd⟩) (fun _ hS => ((hS.at_ 1 rfl).len1)) (fun hy => hp5 (hy (getb marked1 b1, true) (by simp)))) <| obs_cons (ob_loadA (cs := #[.int .i64 g1, .int .i64 g2, .slice A1 g3.length c1]) (by kernel_rfl) (by kernel_rfl) (fun _ _ hS => (hS.at_ 0 rfl).cellsAt 0 (by rfl))) <| obs_cons (ob_call Try.func95 (by kernel_rfl) rfl (fun hy _ hS => gameroomref_beside_w (ite_some hr1 (by rw [show ((getb marked1 b1) && (!(getb in5 b1))) = true from hy ((getb marked1 b1) && (!(getb in5 b1)), true) (by simp)]; try rfl)) hS (fun _ hS => (hr_g3 _ (hS.dropN 2))) _hc_g3 rfl)) <| obs_nil
                refine cond_ev (t := 52) (b := ((getb marked1 b1) && (!(getb in5 b1))) && r1) hF (by kernel_rfl) (fun hb => ?_) (fun hb => ?_)
                · replace hm := if_t hm hb
                  refine seqR ?_
                  obtain ⟨hp6, hm⟩ := asrt_b hm
                  refine at_run 3 [⟨true, [], vS (Instr.indexAt 83 (.slice A3 (Int.toNat (g3.length : Int)) c3) (.int .i64 b1)), .pointer (some (sAddr A3 b1))⟩] [none, none, some (.pointer (some (sAddr A3 b1)))] [2, 3, 7, 9, 10, 55] [pl 2 (.slice A2 marked1.length c2), pl 3 (.pointer (some ⟨g4, 0, none⟩)), pl 7 (.slice A3 (Int.toNat (g3.length : Int)) c3), pl 9 (.int .i64 a1), pl 10 (.int .i64 b1), pl 55 (.pointer (some (sAddr A3 b1)))] hF hS (by kernel_rfl) (by kernel_rfl) ?_ (fun a w hF hS => ?_)
                  · exact obs_cons (ob_ix1 (f := Value.bool) (m := in5) Und83 hi4 hs4 (hS.at_ 1 rfl).rd ((hS.at_ 1 rfl).len1) (fun _ => hp6)) <| obs_nil
                  obtain ⟨w, hrun, hS⟩ := run_set1 (P := Try.prog) (t := 4) (x := true) Value.bool (hS.at_ 1 rfl) hi4 hs4 rfl rfl hp6
                  refine at_skip hF (by kernel_rfl) hrun ?_
                  have hS : Sep w0 B w (blk g4 24 #[.int .i64 g1, .int .i64 g2, .slice A1 g3.length c1] :: own 4 (.slice A3 (Int.toNat (g3.length : Int)) c3) (vB (in5.set (Int.toNat b1) true)) :: fs) := hS
                  refine at_end [2, 3, 7, 9, 10] [pl 2 (.slice A2 marked1.length c2), pl 3 (.pointer (some ⟨g4, 0, none⟩)), pl 7 (.slice A3 (Int.toNat (g3.length : Int)) c3), pl 9 (.int .i64 a1), pl 10 (.int .i64 b1)] hF rfl (by kernel_rfl) (fun hF => ?_)
                  refine then_n ?_
                  refine reg1 [] [] [2, 3, 7, 8, 9, 10] [pl 2 (.slice A2 marked1.length c2), pl 3 (.pointer (some ⟨g4, 0, none⟩)), pl 7 (.slice A3 (Int.toNat (g3.length : Int)) c3), pl 8 (.bool true), pl 9 (.int .i64 a1), pl 10 (.int .i64 b1)] hF hS Fol (by kernel_rfl) (by kernel_rfl) (by kernel_rfl) ?_ (fun a w hF hS => ?_)
                  · exact obs_nil
                  refine block_n ?_
                  refine then_n ?_
                  exact ⟨(in5.set (Int.toNat b1) true), true, hF.weak [2, 3, 7, 8, 9, 10] (by kernel_rfl), hS, hm⟩
                · replace hm := if_f hm hb
                  refine wpIn_skip ?_
                  refine block_n ?_
                  refine then_n ?_
                  exact ⟨in5, changed4, hF.weak [2, 3, 7, 8, 9, 10] (by kernel_rfl), hS, hm⟩
            · refine reg [] [] [2, 3, 7, 8, 9, 10, 33] [pl 2 (.slice A2 marked1.length c2), pl 3 (.pointer (some ⟨g4, 0, none⟩)), pl 7 (.slice A3 (Int.toNat (g3.length : Int)) c3), pl 8 (.bool changed4), pl 9 (.int .i64 a1), pl 10 (.int .i64 b1), pl 33 (.bool (decide (b1 < (((Int.toNat (g3.length : Int)) : Nat) : Int))))] hF hS Fol (by kernel_rfl) (by kernel_rfl) (by kernel_rfl) ?_ (fun a w hF hS => ?_)
              · exact obs_nil
              refine cond_ev (t := 33) (b := decide (b1 < (((Int.toNat (g3.length : Int)) : Nat) : Int))) hF (by kernel_rfl) (fun hb => ?_) (fun hb => ?_)
              · replace hm := if_t hm hb
                refine wpIn_skip ?_
                refine then_n ?_
                exact ⟨hF.weak [2, 3, 7, 8, 9, 10] (by kernel_rfl), hS, hm⟩
              · replace hm := if_f hm hb
                refine wpIn_exit ?_
                refine then_e (then_e (block_e (block_n (then_n ?_))))
                rw [← hφ3] at hm
                replace hm := done_b hm
                unfold gameroomref_regionOf_K3 at hm
                try dsimp only at hm
                have hm : ((gameroomref_regionOf_J4 a1) in5 changed4).bind φ2 = some r := hm
                exact ⟨in5, changed4, hF.weak [2, 3, 7, 8, 9] (by kernel_rfl), hS, hm⟩
          · obtain ⟨hp3, hm⟩ := asrt_b hm
            refine reg [⟨true, [], vS (Instr.indexAt 83 (.slice A3 (Int.toNat (g3.length : Int)) c3) (.int .i64 a1)), .pointer (some (sAddr A3 a1))⟩, ⟨false, [], vS (Instr.loadAt 4 (.pointer (some (sAddr A3 a1)))), .bool (getb in3 a1)⟩] [none, none, some (.pointer (some (sAddr A3 a1))), some (.bool (getb in3 a1)), none] [2, 3, 7, 8, 9, 29] [pl 2 (.slice A2 marked1.length c2), pl 3 (.pointer (some ⟨g4, 0, none⟩)), pl 7 (.slice A3 (Int.toNat (g3.length : Int)) c3), pl 8 (.bool changed2), pl 9 (.int .i64 a1), pl 29 (.bool (!(getb in3 a1)))] hF hS Fol (by kernel_rfl) (by kernel_rfl) (by kernel_rfl) ?_ (fun a w hF hS => ?_)
            · exact obs_cons (ob_ix1 (f := Value.bool) (m := in3) Und83 hi4 hs4 (hS.at_ 1 rfl).rd ((hS.at_ 1 rfl).len1) (fun _ => hp3)) <| obs_cons (ob_get1 (n := (Int.toNat (g3.length : Int))) (m := in3) Value.bool false Agg4 (fun _ hS => ⟨_, (hS.at_ 1 rfl).rd⟩) (fun _ hS => ((hS.at_ 1 rfl).len1)) (fun _ => hp3)) <| obs_nil
            refine cond_ev (t := 29) (b := !(getb in3 a1)) hF (by kernel_rfl) (fun hb => ?_) (fun hb => ?_)
            · replace hm := if_t hm hb
              refine wpIn_exit ?_
              refine then_e (block_e (then_n ?_))
              exact ⟨in3, changed2, hF.weak [2, 3, 7, 8, 9] (by kernel_rfl), hS, hm⟩
            · replace hm := if_f hm hb
              refine wpIn_skip ?_
              refine then_n ?_
              exact ⟨hF.weak [2, 3, 7, 8, 9] (by kernel_rfl), hS, hm⟩
      · refine reg [] [] [2, 3, 7, 8, 9, 22] [pl 2 (.slice A2 marked1.length c2), pl 3 (.pointer (some ⟨g4, 0, none⟩)), pl 7 (.slice A3 (Int.toNat (g3.length : Int)) c3), pl 8 (.bool changed2), pl 9 (.int .i64 a1), pl 22 (.bool (decide (a1 < (((Int.toNat (g3.length : Int)) : Nat) : Int))))] hF hS Fol (by kernel_rfl) (by kernel_rfl) (by kernel_rfl) ?_ (fun a w hF hS => ?_)
        · exact obs_nil
        refine cond_ev (t := 22) (b := decide (a1 < (((Int.toNat (g3.length : Int)) : Nat) : Int))) hF (by kernel_rfl) (fun hb => ?_) (fun hb => ?_)
        · replace hm := if_t hm hb
          refine wpIn_skip ?_
          refine then_n ?_
          exact ⟨hF.weak [2, 3, 7, 8, 9] (by kernel_rfl), hS, hm⟩
        · replace hm := if_f hm hb
          refine wpIn_exit ?_
          refine then_e (then_e (block_e (block_n (then_n ?_))))
          rw [← hφ2] at hm
          replace hm := done_b hm
          unfold gameroomref_regionOf_K2 at hm
          try dsimp only at hm
          have hm : (some (.next (in3, changed2))).bind φ1 = some r := hm
          rw [← hφ1] at hm
          exact ⟨(in3, changed2), ⟨hF.weak [2, 3, 7, 8] (by kernel_rfl), hS⟩, hm⟩
    · refine reg [] [] [2, 3, 7, 18] [pl 2 (.slice A2 marked1.length c2), pl 3 (.pointer (some ⟨g4, 0, none⟩)), pl 7 (.slice A3 (Int.toNat (g3.length : Int)) c3), pl 18 (.bool changed1)] hF hS Fol (by kernel_rfl) (by kernel_rfl) (by kernel_rfl) ?_ (fun a w hF hS => ?_)
      · exact obs_nil
      refine cond_ev (t := 18) (b := changed1) hF (by kernel_rfl) (fun hb => ?_) (fun hb => ?_)
      · replace hm := if_t hm hb
        refine wpIn_skip ?_
        refine then_n ?_
        exact ⟨hF.weak [2, 3, 7] (by kernel_rfl), hS, hm⟩
      · replace hm := if_f hm hb
        refine wpIn_exit ?_
        refine then_e (then_e (block_e (then_n ?_)))
        have hS := hS.pickN 2 [1] (by decide)
        rw [← hφ1] at hm
        replace hm := done_b hm
        unfold gameroomref_regionOf_K1 at hm
        try dsimp only at hm
        have hm : (gameroomref_regionOf_J1 in1).bind some = some r := hm
        exact ⟨in1, hF.weak [7] (by kernel_rfl), hS, hm⟩

noncomputable def gameroomref_besideAny_J3  (i1 : Int) : Option (St Int (Fl Unit Bool)) :=
  some (.next (w64 (i1 + 1)))

noncomputable def gameroomref_besideAny_J2  (g1 : Int) (g2 : Int) (g3 : List Int) (place1 : Int) (in1 : List Bool) (i1 : Int) : Option (St Int (Fl Unit Bool)) :=
  asrt (0 ≤ i1 ∧ i1 < (in1.length : Int)) <| ((if (getb in1 i1) then gameroomref_beside_m g1 g2 g3 i1 place1 else some false)).bind fun r1 => if ((getb in1 i1) && r1) then (some (.done (.ret true))) else ((gameroomref_besideAny_J3 i1))

noncomputable def gameroomref_besideAny_J1  : Option Bool :=
  some false

noncomputable def gameroomref_besideAny_K1  : (Fl Unit Bool) → Option Bool :=
  fun (x : (Fl Unit Bool)) => match x with | .go _ => gameroomref_besideAny_J1 | .ret x => some x

noncomputable def gameroomref_besideAny_L1  (g1 : Int) (g2 : Int) (g3 : List Int) (place1 : Int) (in1 : List Bool) : Int → Option (St Int (Fl Unit Bool)) :=
  fun (x : Int) => match x with | i1 => if (decide (i1 < (in1.length : Int))) then ((gameroomref_besideAny_J2 g1 g2 g3 place1 in1 i1)) else (some (.done (.go ())))

noncomputable def gameroomref_besideAny_m  (g1 : Int) (g2 : Int) (g3 : List Int) (place1 : Int) (in1 : List Bool) : Option Bool :=
  (loop (gameroomref_besideAny_L1 g1 g2 g3 place1 in1) 0).bind gameroomref_besideAny_K1

set_option maxRecDepth 100000 in
set_option maxHeartbeats 4000000 in
theorem gameroomref_besideAny_w  {g1 : Int} {g2 : Int} {A1 : Option Addr} {c1 : Nat} {n1 : Nat} {g3 : List Int} {place1 : Int} {A2 : Option Addr} {c2 : Nat} {n2 : Nat} {in1 : List Bool} {r : Bool} {w0 w : World} {B : Nat} {fs : List HP} (hm : gameroomref_besideAny_m g1 g2 g3 place1 in1 = some r) (hS : Sep w0 B w (fs)) (hr_g3 : RdF w0 B fs A1 (vI g3)) (_hc_g3 : g3.length ≤ c1) (_hn_g3 : n1 = g3.length) (hr_in1 : RdF w0 B fs A2 (vB in1)) (_hc_in1 : in1.length ≤ c2) (_hn_in1 : n2 = in1.length) :
    Calls Try.prog 58 #[.agg #[.int .i64 g1, .int .i64 g2, .slice A1 n1 c1], .int .i64 place1, .slice A2 n2 c2] w fun e w' => e = .returned (.bool r) ∧ Sep w0 B w' (fs) := by
  obtain ⟨i3, hi3, hz3, hs3, hb3⟩ := info_parts Info3
  obtain ⟨i4, hi4, hz4, hs4, hb4⟩ := info_parts Info4
  obtain rfl := _hn_g3
  obtain rfl := _hn_in1
  unfold gameroomref_besideAny_m at hm
  replace hm := start_b hm
  refine enter (l := [.agg #[.int .i64 g1, .int .i64 g2, .slice A1 g3.length c1], .int .i64 place1, .slice A2 in1.length c2]) (n := 24) Try.func58 rfl rfl (by simp) (fun a hF => ?_)
  refine seqR ?_
  refine at_do (d := 3) (s := vS (Instr.box 24 (.agg #[.int .i64 g1, .int .i64 g2, .slice A1 g3.length c1]))) (v := .pointer (some ⟨w.heap.size, 0, none⟩)) (w' := w.alloc (.cells #[.int .i64 g1, .int .i64 g2, .slice A1 g3.length c1] 24)) hF (by kernel_rfl) (by kernel_rfl) (by kernel_rfl) (fun a hF => ?_)
  have hS : Sep w0 B (w.alloc (.cells #[.int .i64 g1, .int .i64 g2, .slice A1 g3.length c1] 24)) (blk w.heap.size 24 #[.int .i64 g1, .int .i64 g2, .slice A1 g3.length c1] :: (fs)) := hS.box 24 #[.int .i64 g1, .int .i64 g2, .slice A1 g3.length c1]
  generalize w.heap.size = g4 at hF hS
  generalize w.alloc (.cells #[.int .i64 g1, .int .i64 g2, .slice A1 g3.length c1] 24) = w at hS ⊢
  refine at_run 1 [] [] [1, 2, 3] [pl 1 (.int .i64 place1), pl 2 (.slice A2 in1.length c2), pl 3 (.pointer (some ⟨g4, 0, none⟩))] hF hS (by kernel_rfl) (by kernel_rfl) ?_ (fun a w hF hS => ?_)
  · exact obs_nil
  refine at_end [1, 2, 3] [pl 1 (.int .i64 place1), pl 2 (.slice A2 in1.length c2), pl 3 (.pointer (some ⟨g4, 0, none⟩))] hF rfl (by kernel_rfl) (fun hF => ?_)
  refine then_n ?_
  refine seq_cut (fun a w => Fr 24 [] a ∧ Sep w0 B w (fs) ∧ (gameroomref_besideAny_J1).bind some = some r) ?_ ?_
  · rintro a w ⟨hF, hS, hm⟩
    unfold gameroomref_besideAny_J1 at hm
    refine reg [] [] [6] [pl 6 (.bool false)] hF hS Fol (by kernel_rfl) (by kernel_rfl) (by kernel_rfl) ?_ (fun a w hF hS => ?_)
    · exact obs_nil
    refine wpIn_ret ?_
    have hm : some false = some r := hm
    obtain rfl := Option.some.inj hm
    exact retV (rs := [.tmp 6]) (vs := [.bool false]) hF rfl (rv_t (by kernel_rfl) <| rv_nil) rfl ⟨rfl, hS⟩
  · refine reg [] [] [1, 2, 3, 7] [pl 1 (.int .i64 place1), pl 2 (.slice A2 in1.length c2), pl 3 (.pointer (some ⟨g4, 0, none⟩)), pl 7 (.int .i64 0)] hF hS Fol (by kernel_rfl) (by kernel_rfl) (by kernel_rfl) ?_ (fun a w hF hS => ?_)
    · exact obs_nil
    refine wpIn_block ?_
    refine wp_loop_model (S := Int) (R := (Fl Unit Bool)) (gameroomref_besideAny_L1 g1 g2 g3 place1 in1) (fun x => (gameroomref_besideAny_K1 x).bind some) r (fun (x : Int) a w => Fr 24 [pl 1 (.int .i64 place1), pl 2 (.slice A2 in1.length c2), pl 3 (.pointer (some ⟨g4, 0, none⟩)), pl 7 (.int .i64 x)] a ∧ Sep w0 B w (blk g4 24 #[.int .i64 g1, .int .i64 g2, .slice A1 g3.length c1] :: fs)) (assoc_b hm) ⟨hF.weak [1, 2, 3, 7] (by kernel_rfl), hS⟩ ?_
    clear hF hS hm
    rintro nn1 i1 a w ⟨hF, hS⟩ hm
    generalize hφ1 : stK (gameroomref_besideAny_L1 g1 g2 g3 place1 in1) nn1 (fun x => (gameroomref_besideAny_K1 x).bind some) = φ1 at hm
    unfold gameroomref_besideAny_L1 at hm
    dsimp only at hm
    refine seq_cut (fun a w => Fr 24 [pl 1 (.int .i64 place1), pl 2 (.slice A2 in1.length c2), pl 3 (.pointer (some ⟨g4, 0, none⟩)), pl 7 (.int .i64 i1)] a ∧ Sep w0 B w (blk g4 24 #[.int .i64 g1, .int .i64 g2, .slice A1 g3.length c1] :: fs) ∧ ((gameroomref_besideAny_J2 g1 g2 g3 place1 in1 i1)).bind φ1 = some r) ?_ ?_
    · rintro a w ⟨hF, hS, hm⟩
      unfold gameroomref_besideAny_J2 at hm
      refine seq_cut (fun a w => Fr 24 [pl 1 (.int .i64 place1), pl 2 (.slice A2 in1.length c2), pl 3 (.pointer (some ⟨g4, 0, none⟩)), pl 7 (.int .i64 i1)] a ∧ Sep w0 B w (blk g4 24 #[.int .i64 g1, .int .i64 g2, .slice A1 g3.length c1] :: fs) ∧ ((gameroomref_besideAny_J3 i1)).bind φ1 = some r) ?_ ?_
      · rintro a w ⟨hF, hS, hm⟩
        unfold gameroomref_besideAny_J3 at hm
        refine reg1 [] [] [1, 2, 3, 7] [pl 1 (.int .i64 place1), pl 2 (.slice A2 in1.length c2), pl 3 (.pointer (some ⟨g4, 0, none⟩)), pl 7 (.int .i64 (w64 (i1 + 1)))] hF hS Fol (by kernel_rfl) (by kernel_rfl) (by kernel_rfl) ?_ (fun a w hF hS => ?_)
        · exact obs_nil
        refine then_n ?_
        rw [← hφ1] at hm
        exact ⟨(w64 (i1 + 1)), ⟨hF.weak [1, 2, 3, 7] (by kernel_rfl), hS⟩, hm⟩
      · refine wpIn_block ?_
        obtain ⟨hp1, hm⟩ := asrt_b hm
        obtain ⟨r1, hr1, hm⟩ := call_b hm
        refine reg [⟨true, [], vS (Instr.indexAt 83 (.slice A2 in1.length c2) (.int .i64 i1)), .pointer (some (sAddr A2 i1))⟩, ⟨false, [], vS (Instr.loadAt 4 (.pointer (some (sAddr A2 i1)))), .bool (getb in1 i1)⟩, ⟨false, [(getb in1 i1, true)], vS (Instr.loadAt 24 (.pointer (some ⟨g4, 0, none⟩))), .agg #[.int .i64 g1, .int .i64 g2, .slice A1 g3.length c1]⟩, ⟨false, [(getb in1 i1, true)], callFunc 95 #[.agg #[.int .i64 g1, .int .i64 g2, .slice A1 g3.length c1], .int .i64 i1, .int .i64 place1], .bool r1⟩] [none, none, some (.pointer (some (sAddr A2 i1))), some (.bool (getb in1 i1)), none, some (.agg #[.int .i64 g1, .int .i64 g2, .slice A1 g3.length c1]), none, none, some (.bool r1), none] [1, 2, 3, 7, 23] [pl 1 (.int .i64 place1), pl 2 (.slice A2 in1.length c2), pl 3 (.pointer (some ⟨g4, 0, none⟩)), pl 7 (.int .i64 i1), pl 23 (.bool ((getb in1 i1) && r1))] hF hS Fol (by kernel_rfl) (by kernel_rfl) (by kernel_rfl) ?_ (fun a w hF hS => ?_)
        · exact obs_cons (ob_ix1 (f := Value.bool) (m := in1) Und83 hi4 hs4 (hr_in1 _ (hS.dropN 1)) rfl (fun _ => hp1)) <| obs_cons (ob_get1 (n := in1.length) (m := in1) Value.bool false Agg4 (fun _ hS => ⟨_, (hr_in1 _ (hS.dropN 1))⟩) (fun _ hS => rfl) (fun _ => hp1)) <| obs_cons (ob_loadA (cs := #[.int .i64 g1, .int .i64 g2, .slice A1 g3.length c1]) (by kernel_rfl) (by kernel_rfl) (fun _ _ hS => (hS.at_ 0 rfl).cellsAt 0 (by rfl))) <| obs_cons (ob_call Try.func95 (by kernel_rfl) rfl (fun hy _ hS => gameroomref_beside_w (ite_some hr1 (by rw [show (getb in1 i1) = true from hy (getb in1 i1, true) (by simp)]; try rfl)) hS (fun _ hS => (hr_g3 _ (hS.dropN 1))) _hc_g3 rfl)) <| obs_nil
        refine cond_ev (t := 23) (b := (getb in1 i1) && r1) hF (by kernel_rfl) (fun hb => ?_) (fun hb => ?_)
        · replace hm := if_t hm hb
          refine reg [] [] [6] [pl 6 (.bool true)] hF hS Fol (by kernel_rfl) (by kernel_rfl) (by kernel_rfl) ?_ (fun a w hF hS => ?_)
          · exact obs_nil
          refine wpIn_ret ?_
          refine block_r (then_r (then_r (block_r (then_r ?_))))
          rw [← hφ1] at hm
          replace hm := done_b hm
          unfold gameroomref_besideAny_K1 at hm
          try dsimp only at hm
          have hS := hS.pickN 1 [] (by decide)
          have hm : some true = some r := hm
          obtain rfl := Option.some.inj hm
          exact retV (rs := [.tmp 6]) (vs := [.bool true]) hF rfl (rv_t (by kernel_rfl) <| rv_nil) rfl ⟨rfl, hS⟩
        · replace hm := if_f hm hb
          refine wpIn_skip ?_
          refine block_n ?_
          refine then_n ?_
          exact ⟨hF.weak [1, 2, 3, 7] (by kernel_rfl), hS, hm⟩
    · refine reg [] [] [1, 2, 3, 7, 11] [pl 1 (.int .i64 place1), pl 2 (.slice A2 in1.length c2), pl 3 (.pointer (some ⟨g4, 0, none⟩)), pl 7 (.int .i64 i1), pl 11 (.bool (decide (i1 < (in1.length : Int))))] hF hS Fol (by kernel_rfl) (by kernel_rfl) (by kernel_rfl) ?_ (fun a w hF hS => ?_)
      · exact obs_nil
      refine cond_ev (t := 11) (b := decide (i1 < (in1.length : Int))) hF (by kernel_rfl) (fun hb => ?_) (fun hb => ?_)
      · replace hm := if_t hm hb
        refine wpIn_skip ?_
        refine then_n ?_
        exact ⟨hF.weak [1, 2, 3, 7] (by kernel_rfl), hS, hm⟩
      · replace hm := if_f hm hb
        refine wpIn_exit ?_
        refine then_e (then_e (block_e (then_n ?_)))
        have hS := hS.pickN 1 [] (by decide)
        rw [← hφ1] at hm
        replace hm := done_b hm
        unfold gameroomref_besideAny_K1 at hm
        try dsimp only at hm
        have hm : (gameroomref_besideAny_J1).bind some = some r := hm
        exact ⟨hF.weak [] (by kernel_rfl), hS, hm⟩

noncomputable def gameroomref_listOf_J3  (i1 : Int) (l3 : List Int) : Option (St (List Int × Int) (List Int)) :=
  some (.next (l3, (w64 (i1 + 1))))

noncomputable def gameroomref_listOf_J2  (in1 : List Bool) (l1 : List Int) (i1 : Int) : Option (St (List Int × Int) (List Int)) :=
  asrt (0 ≤ i1 ∧ i1 < (in1.length : Int)) <| if (getb in1 i1) then (asrt ((l1.length : Int) + 1 ≤ bigN) <| (gameroomref_listOf_J3 i1) (l1 ++ ([i1] : List Int))) else ((gameroomref_listOf_J3 i1) l1)

noncomputable def gameroomref_listOf_J1  (l2 : List Int) : Option (List Int) :=
  some l2

noncomputable def gameroomref_listOf_K1  : (List Int) → Option (List Int) :=
  fun (x : (List Int)) => match x with | l2 => gameroomref_listOf_J1 l2

noncomputable def gameroomref_listOf_L1  (in1 : List Bool) : (List Int × Int) → Option (St (List Int × Int) (List Int)) :=
  fun (x : (List Int × Int)) => match x with | (l1, i1) => if (decide (i1 < (in1.length : Int))) then ((gameroomref_listOf_J2 in1 l1 i1)) else (some (.done l1))

noncomputable def gameroomref_listOf_m  (in1 : List Bool) : Option (List Int) :=
  (loop (gameroomref_listOf_L1 in1) (([] : List Int), 0)).bind gameroomref_listOf_K1

set_option maxRecDepth 100000 in
set_option maxHeartbeats 4000000 in
theorem gameroomref_listOf_w  {A1 : Option Addr} {c1 : Nat} {n1 : Nat} {in1 : List Bool} {r : (List Int)} {w0 w : World} {B : Nat} {fs : List HP} (hm : gameroomref_listOf_m in1 = some r) (hS : Sep w0 B w (fs)) (hr_in1 : RdF w0 B fs A1 (vB in1)) (_hc_in1 : in1.length ≤ c1) (_hn_in1 : n1 = in1.length) :
    Calls Try.prog 117 #[.slice A1 n1 c1] w fun e w' => ∃ v, e = .returned v ∧ ∃ (A6 : Option Addr) (c6 : Nat), v = .slice A6 r.length c6 ∧ Sep w0 B w' (own 3 (.slice A6 r.length c6) (vI r) :: fs) := by
  obtain ⟨i3, hi3, hz3, hs3, hb3⟩ := info_parts Info3
  obtain ⟨i4, hi4, hz4, hs4, hb4⟩ := info_parts Info4
  obtain rfl := _hn_in1
  unfold gameroomref_listOf_m at hm
  replace hm := start_b hm
  refine enter (l := [.slice A1 in1.length c1]) (n := 20) Try.func117 rfl rfl (by simp) (fun a hF => ?_)
  refine reg [] [] [0] [pl 0 (.slice A1 in1.length c1)] hF hS Fol (by kernel_rfl) (by kernel_rfl) (by kernel_rfl) ?_ (fun a w hF hS => ?_)
  · exact obs_nil
  refine reg [] [] [0, 3] [pl 0 (.slice A1 in1.length c1), pl 3 (.slice none 0 0)] hF hS Fol (by kernel_rfl) (by kernel_rfl) (by kernel_rfl) ?_ (fun a w hF hS => ?_)
  · exact obs_nil
  refine seq_cut (fun a w => ∃ (l2 : List Int) (A3 : Option Addr) (c3 : Nat), Fr 20 [pl 3 (.slice A3 l2.length c3)] a ∧ Sep w0 B w (own 3 (.slice A3 l2.length c3) (vI l2) :: fs) ∧ (gameroomref_listOf_J1 l2).bind some = some r) ?_ ?_
  · rintro a w ⟨l2, A3, c3, hF, hS, hm⟩
    unfold gameroomref_listOf_J1 at hm
    refine reg [] [] [2] [pl 2 (.slice A3 l2.length c3)] hF hS Fol (by kernel_rfl) (by kernel_rfl) (by kernel_rfl) ?_ (fun a w hF hS => ?_)
    · exact obs_nil
    refine wpIn_ret ?_
    have hm : some l2 = some r := hm
    obtain rfl := Option.some.inj hm
    exact retV (rs := [.tmp 2]) (vs := [.slice A3 l2.length c3]) hF rfl (rv_t (by kernel_rfl) <| rv_nil) rfl ⟨_, rfl, A3, c3, rfl, hS⟩
  · refine reg [] [] [0, 3, 4] [pl 0 (.slice A1 in1.length c1), pl 3 (.slice none 0 0), pl 4 (.int .i64 0)] hF hS Fol (by kernel_rfl) (by kernel_rfl) (by kernel_rfl) ?_ (fun a w hF hS => ?_)
    · exact obs_nil
    refine wpIn_block ?_
    have hS : Sep w0 B w (own 3 (.slice none 0 0) (vI ([] : List Int)) :: fs) := hS.nil 3
    have hl1 := (hS.at_ 0 rfl).len1
    have hS := (hS.at_ 0 rfl).reN hl1
    have hS : Sep w0 B w (own 3 (.slice none (([] : List Int).length) 0) (vI ([] : List Int)) :: fs) := hS
    have hF := hF.cast (t := 3) (v := .slice none 0 0) (v' := .slice none (([] : List Int).length) 0) rfl rfl (congrArg (fun k => Value.slice none k 0) hl1)
    refine wp_loop_model (S := (List Int × Int)) (R := (List Int)) (gameroomref_listOf_L1 in1) (fun x => (gameroomref_listOf_K1 x).bind some) r (fun (x : (List Int × Int)) a w => ∃ (A2 : Option Addr) (c2 : Nat), Fr 20 [pl 0 (.slice A1 in1.length c1), pl 3 (.slice A2 x.1.length c2), pl 4 (.int .i64 x.2)] a ∧ Sep w0 B w (own 3 (.slice A2 x.1.length c2) (vI x.1) :: fs)) (assoc_b hm) ⟨none, 0, hF.weak [0, 3, 4] (by kernel_rfl), hS⟩ ?_
    clear hF hS hm
    rintro nn1 ⟨l1, i1⟩ a w ⟨A2, c2, hF, hS⟩ hm
    generalize hφ1 : stK (gameroomref_listOf_L1 in1) nn1 (fun x => (gameroomref_listOf_K1 x).bind some) = φ1 at hm
    unfold gameroomref_listOf_L1 at hm
    dsimp only at hF hS hm
    refine seq_cut (fun a w => Fr 20 [pl 0 (.slice A1 in1.length c1), pl 3 (.slice A2 l1.length c2), pl 4 (.int .i64 i1)] a ∧ Sep w0 B w (own 3 (.slice A2 l1.length c2) (vI l1) :: fs) ∧ ((gameroomref_listOf_J2 in1 l1 i1)).bind φ1 = some r) ?_ ?_
    · rintro a w ⟨hF, hS, hm⟩
      unfold gameroomref_listOf_J2 at hm
      refine seq_cut (fun a w => ∃ (l3 : List Int) (A5 : Option Addr) (c5 : Nat), Fr 20 [pl 0 (.slice A1 in1.length c1), pl 3 (.slice A5 l3.length c5), pl 4 (.int .i64 i1)] a ∧ Sep w0 B w (own 3 (.slice A5 l3.length c5) (vI l3) :: fs) ∧ ((gameroomref_listOf_J3 i1) l3).bind φ1 = some r) ?_ ?_
      · rintro a w ⟨l3, A5, c5, hF, hS, hm⟩
        unfold gameroomref_listOf_J3 at hm
        refine reg1 [] [] [0, 3, 4] [pl 0 (.slice A1 in1.length c1), pl 3 (.slice A5 l3.length c5), pl 4 (.int .i64 (w64 (i1 + 1)))] hF hS Fol (by kernel_rfl) (by kernel_rfl) (by kernel_rfl) ?_ (fun a w hF hS => ?_)
        · exact obs_nil
        refine then_n ?_
        rw [← hφ1] at hm
        exact ⟨(l3, (w64 (i1 + 1))), ⟨A5, c5, hF.weak [0, 3, 4] (by kernel_rfl), hS⟩, hm⟩
      · refine wpIn_block ?_
        obtain ⟨hp1, hm⟩ := asrt_b hm
        refine reg [⟨true, [], vS (Instr.indexAt 83 (.slice A1 in1.length c1) (.int .i64 i1)), .pointer (some (sAddr A1 i1))⟩, ⟨false, [], vS (Instr.loadAt 4 (.pointer (some (sAddr A1 i1)))), .bool (getb in1 i1)⟩] [none, none, some (.pointer (some (sAddr A1 i1))), some (.bool (getb in1 i1))] [0, 3, 4, 14] [pl 0 (.slice A1 in1.length c1), pl 3 (.slice A2 l1.length c2), pl 4 (.int .i64 i1), pl 14 (.bool (getb in1 i1))] hF hS Fol (by kernel_rfl) (by kernel_rfl) (by kernel_rfl) ?_ (fun a w hF hS => ?_)
        · exact obs_cons (ob_ix1 (f := Value.bool) (m := in1) Und83 hi4 hs4 (hr_in1 _ (hS.dropN 1)) rfl (fun _ => hp1)) <| obs_cons (ob_get1 (n := in1.length) (m := in1) Value.bool false Agg4 (fun _ hS => ⟨_, (hr_in1 _ (hS.dropN 1))⟩) (fun _ hS => rfl) (fun _ => hp1)) <| obs_nil
        refine cond_ev (t := 14) (b := getb in1 i1) hF (by kernel_rfl) (fun hb => ?_) (fun hb => ?_)
        · replace hm := if_t hm hb
          refine oneR ?_
          obtain ⟨hp2, hm⟩ := asrt_b hm
          refine at_run 2 [] [] [0, 4, 15, 16] [pl 0 (.slice A1 in1.length c1), pl 4 (.int .i64 i1), pl 15 (.slice A2 l1.length c2), pl 16 (.int .i64 i1)] hF hS (by kernel_rfl) (by kernel_rfl) ?_ (fun a w hF hS => ?_)
          · exact obs_nil
          refine at_do (d := 17) (s := vS (Instr.buildSlice 22 1 #[(0, .int .i64 i1)])) (v := .slice (some ⟨w.heap.size, 0, none⟩) 1 1) (w' := w.alloc (.cells #[.int .i64 i1] 3)) hF (by kernel_rfl) (by kernel_rfl) (by kernel_rfl) (fun a hF => ?_)
          have hS : Sep w0 B (w.alloc (.cells #[.int .i64 i1] 3)) (own 3 (.slice (some (⟨w.heap.size, 0, none⟩ : Addr)) 1 1) (vI ([i1] : List Int)) :: (own 3 (.slice A2 l1.length c2) (vI l1) :: fs)) := hS.lit 3 #[.int .i64 i1] 1 rfl (by omega)
          generalize (some (⟨w.heap.size, 0, none⟩ : Addr)) = g1 at hF hS
          generalize w.alloc (.cells #[.int .i64 i1] 3) = w at hS ⊢
          obtain ⟨A4, c4, w, hrun, hS⟩ := run_app1 (P := Try.prog) (t := 22) (m := l1) (ys := ([i1] : List Int)) (A2 := g1) (m2 := 1) (c2 := 1) (Value.int .i64) (0 : Int) (hS.at_ 1 rfl) (hS.at_ 0 rfl).rd ((hS.at_ 0 rfl).len1) 22 Und22 hi3 hz3 hs3 (by omega) rfl (fun _ => rfl) hp2
          have hS : Sep w0 B w (own 3 (.slice g1 1 1) (vI ([i1] : List Int)) :: own 3 (.slice A4 ((l1 ++ ([i1] : List Int)).length) c4) (vI (l1 ++ ([i1] : List Int))) :: fs) := hS
          refine at_do (d := 18) hF (by kernel_rfl) (by kernel_rfl) hrun (fun a hF => ?_)
          refine at_run 1 [] [] [0, 3, 4] [pl 0 (.slice A1 in1.length c1), pl 3 (.slice A4 ((l1 ++ ([i1] : List Int)).length) c4), pl 4 (.int .i64 i1)] hF hS (by kernel_rfl) (by kernel_rfl) ?_ (fun a w hF hS => ?_)
          · exact obs_nil
          refine at_end [0, 3, 4] [pl 0 (.slice A1 in1.length c1), pl 3 (.slice A4 ((l1 ++ ([i1] : List Int)).length) c4), pl 4 (.int .i64 i1)] hF rfl (by kernel_rfl) (fun hF => ?_)
          refine block_n ?_
          refine then_n ?_
          have hS := hS.pickN 2 [1] (by decide)
          exact ⟨(l1 ++ ([i1] : List Int)), A4, c4, hF.weak [0, 3, 4] (by kernel_rfl), hS, hm⟩
        · replace hm := if_f hm hb
          refine wpIn_skip ?_
          refine block_n ?_
          refine then_n ?_
          exact ⟨l1, A2, c2, hF.weak [0, 3, 4] (by kernel_rfl), hS, hm⟩
    · refine reg [] [] [0, 3, 4, 8] [pl 0 (.slice A1 in1.length c1), pl 3 (.slice A2 l1.length c2), pl 4 (.int .i64 i1), pl 8 (.bool (decide (i1 < (in1.length : Int))))] hF hS Fol (by kernel_rfl) (by kernel_rfl) (by kernel_rfl) ?_ (fun a w hF hS => ?_)
      · exact obs_nil
      refine cond_ev (t := 8) (b := decide (i1 < (in1.length : Int))) hF (by kernel_rfl) (fun hb => ?_) (fun hb => ?_)
      · replace hm := if_t hm hb
        refine wpIn_skip ?_
        refine then_n ?_
        exact ⟨hF.weak [0, 3, 4] (by kernel_rfl), hS, hm⟩
      · replace hm := if_f hm hb
        refine wpIn_exit ?_
        refine then_e (then_e (block_e (then_n ?_)))
        rw [← hφ1] at hm
        replace hm := done_b hm
        unfold gameroomref_listOf_K1 at hm
        try dsimp only at hm
        have hm : (gameroomref_listOf_J1 l1).bind some = some r := hm
        exact ⟨l1, A2, c2, hF.weak [3] (by kernel_rfl), hS, hm⟩

noncomputable def gameroomref_GroupOf_J4  (i1 : Int) (free3 : List Int) : Option (St (List Int × Int) (List Int)) :=
  some (.next (free3, (w64 (i1 + 1))))

noncomputable def gameroomref_GroupOf_J3  (g1 : Int) (g2 : Int) (g3 : List Int) (in1 : List Bool) (free1 : List Int) (i1 : Int) : Option (St (List Int × Int) (List Int)) :=
  asrt (0 ≤ i1 ∧ i1 < (g3.length : Int)) <| ((if ((geti g3 i1) == 0) then gameroomref_besideAny_m g1 g2 g3 i1 in1 else some false)).bind fun r3 => if (((geti g3 i1) == 0) && r3) then (asrt ((free1.length : Int) + 1 ≤ bigN) <| (gameroomref_GroupOf_J4 i1) (free1 ++ ([i1] : List Int))) else ((gameroomref_GroupOf_J4 i1) free1)

noncomputable def gameroomref_GroupOf_J2  (in1 : List Bool) (free2 : List Int) : Option (List Int × List Int) :=
  (gameroomref_listOf_m in1).bind fun r4 => some (r4, free2)

noncomputable def gameroomref_GroupOf_K1  (in1 : List Bool) : (List Int) → Option (List Int × List Int) :=
  fun (x : (List Int)) => match x with | free2 => (gameroomref_GroupOf_J2 in1) free2

noncomputable def gameroomref_GroupOf_L1  (g1 : Int) (g2 : Int) (g3 : List Int) (in1 : List Bool) : (List Int × Int) → Option (St (List Int × Int) (List Int)) :=
  fun (x : (List Int × Int)) => match x with | (free1, i1) => if (decide (i1 < (in1.length : Int))) then ((gameroomref_GroupOf_J3 g1 g2 g3 in1 free1 i1)) else (some (.done free1))

noncomputable def gameroomref_GroupOf_J1  (g1 : Int) (g2 : Int) (g3 : List Int) (in1 : List Bool) : Option (List Int × List Int) :=
  (loop (gameroomref_GroupOf_L1 g1 g2 g3 in1) (([] : List Int), 0)).bind (gameroomref_GroupOf_K1 in1)

noncomputable def gameroomref_GroupOf_m  (g1 : Int) (g2 : Int) (g3 : List Int) (place1 : Int) : Option (List Int × List Int) :=
  asrt (0 ≤ place1 ∧ place1 < (g3.length : Int)) <| (gameroomref_marks_m g1 g2 g3 (geti g3 place1) false).bind fun r1 => (gameroomref_regionOf_m g1 g2 g3 place1 r1).bind fun r2 => (gameroomref_GroupOf_J1 g1 g2 g3) r2

set_option maxRecDepth 100000 in
set_option maxHeartbeats 4000000 in
theorem gameroomref_GroupOf_w  {g1 : Int} {g2 : Int} {A1 : Option Addr} {c1 : Nat} {n1 : Nat} {g3 : List Int} {place1 : Int} {r : (List Int × List Int)} {w0 w : World} {B : Nat} {fs : List HP} (hm : gameroomref_GroupOf_m g1 g2 g3 place1 = some r) (hS : Sep w0 B w (fs)) (hr_g3 : RdF w0 B fs A1 (vI g3)) (_hc_g3 : g3.length ≤ c1) (_hn_g3 : n1 = g3.length) :
    Calls Try.prog 89 #[.agg #[.int .i64 g1, .int .i64 g2, .slice A1 n1 c1], .int .i64 place1] w fun e w' => ∃ v, e = .returned v ∧ ∃ (A12 : Option Addr) (c12 : Nat) (A13 : Option Addr) (c13 : Nat), v = .tuple #[.slice A12 r.1.length c12, .slice A13 r.2.length c13] ∧ Sep w0 B w' (own 3 (.slice A12 r.1.length c12) (vI r.1) :: own 3 (.slice A13 r.2.length c13) (vI r.2) :: fs) := by
  obtain ⟨i3, hi3, hz3, hs3, hb3⟩ := info_parts Info3
  obtain rfl := _hn_g3
  unfold gameroomref_GroupOf_m at hm
  replace hm := start_b hm
  refine enter (l := [.agg #[.int .i64 g1, .int .i64 g2, .slice A1 g3.length c1], .int .i64 place1]) (n := 44) Try.func89 rfl rfl (by simp) (fun a hF => ?_)
  refine seqR ?_
  refine at_do (d := 2) (s := vS (Instr.box 24 (.agg #[.int .i64 g1, .int .i64 g2, .slice A1 g3.length c1]))) (v := .pointer (some ⟨w.heap.size, 0, none⟩)) (w' := w.alloc (.cells #[.int .i64 g1, .int .i64 g2, .slice A1 g3.length c1] 24)) hF (by kernel_rfl) (by kernel_rfl) (by kernel_rfl) (fun a hF => ?_)
  have hS : Sep w0 B (w.alloc (.cells #[.int .i64 g1, .int .i64 g2, .slice A1 g3.length c1] 24)) (blk w.heap.size 24 #[.int .i64 g1, .int .i64 g2, .slice A1 g3.length c1] :: (fs)) := hS.box 24 #[.int .i64 g1, .int .i64 g2, .slice A1 g3.length c1]
  generalize w.heap.size = g4 at hF hS
  generalize w.alloc (.cells #[.int .i64 g1, .int .i64 g2, .slice A1 g3.length c1] 24) = w at hS ⊢
  refine at_run 2 [] [] [1, 2] [pl 1 (.int .i64 place1), pl 2 (.pointer (some ⟨g4, 0, none⟩))] hF hS (by kernel_rfl) (by kernel_rfl) ?_ (fun a w hF hS => ?_)
  · exact obs_nil
  refine at_end [1, 2] [pl 1 (.int .i64 place1), pl 2 (.pointer (some ⟨g4, 0, none⟩))] hF rfl (by kernel_rfl) (fun hF => ?_)
  refine then_n ?_
  refine seq_cut (fun a w => ∃ (in1 : List Bool) (A6 : Option Addr) (c6 : Nat), Fr 44 [pl 2 (.pointer (some ⟨g4, 0, none⟩)), pl 6 (.slice A6 in1.length c6)] a ∧ Sep w0 B w (blk g4 24 #[.int .i64 g1, .int .i64 g2, .slice A1 g3.length c1] :: own 4 (.slice A6 in1.length c6) (vB in1) :: fs) ∧ ((gameroomref_GroupOf_J1 g1 g2 g3) in1).bind some = some r) ?_ ?_
  · rintro a w ⟨in1, A6, c6, hF, hS, hm⟩
    unfold gameroomref_GroupOf_J1 at hm
    refine reg [] [] [2, 6, 7] [pl 2 (.pointer (some ⟨g4, 0, none⟩)), pl 6 (.slice A6 in1.length c6), pl 7 (.slice none 0 0)] hF hS Fol (by kernel_rfl) (by kernel_rfl) (by kernel_rfl) ?_ (fun a w hF hS => ?_)
    · exact obs_nil
    refine seq_cut (fun a w => ∃ (free2 : List Int) (A8 : Option Addr) (c8 : Nat), Fr 44 [pl 6 (.slice A6 in1.length c6), pl 7 (.slice A8 free2.length c8)] a ∧ Sep w0 B w (own 4 (.slice A6 in1.length c6) (vB in1) :: own 3 (.slice A8 free2.length c8) (vI free2) :: fs) ∧ ((gameroomref_GroupOf_J2 in1) free2).bind some = some r) ?_ ?_
    · rintro a w ⟨free2, A8, c8, hF, hS, hm⟩
      unfold gameroomref_GroupOf_J2 at hm
      refine seqR ?_
      obtain ⟨r4, hr4, hm⟩ := call_b hm
      refine at_run 1 [] [] [7, 41] [pl 7 (.slice A8 free2.length c8), pl 41 (.slice A6 in1.length c6)] hF hS (by kernel_rfl) (by kernel_rfl) ?_ (fun a w hF hS => ?_)
      · exact obs_nil
      refine at_call (f := 117) (args := #[.slice A6 in1.length c6]) (d := 42) hF (by kernel_rfl) (by kernel_rfl) Try.func117 (by kernel_rfl) rfl (gameroomref_listOf_w hr4 hS (fun _ hS => (hS.at_ 0 rfl).rd) ((hS.at_ 0 rfl).cap1) rfl) (fun v a w hR hF => ?_)
      clear hS
      obtain ⟨A11, c11, rfl, hS⟩ := hR
      have hS : Sep w0 B w (own 3 (.slice A11 r4.length c11) (vI r4) :: own 4 (.slice A6 in1.length c6) (vB in1) :: own 3 (.slice A8 free2.length c8) (vI free2) :: fs) := hS
      refine at_run 3 [] [] [4, 5] [pl 4 (.slice A11 r4.length c11), pl 5 (.slice A8 free2.length c8)] hF hS (by kernel_rfl) (by kernel_rfl) ?_ (fun a w hF hS => ?_)
      · exact obs_nil
      refine at_end [4, 5] [pl 4 (.slice A11 r4.length c11), pl 5 (.slice A8 free2.length c8)] hF rfl (by kernel_rfl) (fun hF => ?_)
      refine then_n ?_
      refine wpIn_ret ?_
      have hS := hS.pickN 3 [0, 2] (by decide)
      have hm : some (r4, free2) = some r := hm
      obtain rfl := Option.some.inj hm
      exact retV (rs := [.tmp 4, .tmp 5]) (vs := [.slice A11 r4.length c11, .slice A8 free2.length c8]) hF rfl (rv_t (by kernel_rfl) <| rv_t (by kernel_rfl) <| rv_nil) rfl ⟨_, rfl, A11, c11, A8, c8, rfl, hS⟩
    · refine reg [] [] [2, 6, 7, 8] [pl 2 (.pointer (some ⟨g4, 0, none⟩)), pl 6 (.slice A6 in1.length c6), pl 7 (.slice none 0 0), pl 8 (.int .i64 0)] hF hS Fol (by kernel_rfl) (by kernel_rfl) (by kernel_rfl) ?_ (fun a w hF hS => ?_)
      · exact obs_nil
      refine wpIn_block ?_
      have hS : Sep w0 B w (own 3 (.slice none 0 0) (vI ([] : List Int)) :: blk g4 24 #[.int .i64 g1, .int .i64 g2, .slice A1 g3.length c1] :: own 4 (.slice A6 in1.length c6) (vB in1) :: fs) := hS.nil 3
      have hl1 := (hS.at_ 0 rfl).len1
      have hS := (hS.at_ 0 rfl).reN hl1
      have hS : Sep w0 B w (own 3 (.slice none (([] : List Int).length) 0) (vI ([] : List Int)) :: blk g4 24 #[.int .i64 g1, .int .i64 g2, .slice A1 g3.length c1] :: own 4 (.slice A6 in1.length c6) (vB in1) :: fs) := hS
      have hF := hF.cast (t := 7) (v := .slice none 0 0) (v' := .slice none (([] : List Int).length) 0) rfl rfl (congrArg (fun k => Value.slice none k 0) hl1)
      have hS := hS.pickN 3 [1, 2, 0] (by decide)
      refine wp_loop_model (S := (List Int × Int)) (R := (List Int)) (gameroomref_GroupOf_L1 g1 g2 g3 in1) (fun x => ((gameroomref_GroupOf_K1 in1) x).bind some) r (fun (x : (List Int × Int)) a w => ∃ (A7 : Option Addr) (c7 : Nat), Fr 44 [pl 2 (.pointer (some ⟨g4, 0, none⟩)), pl 6 (.slice A6 in1.length c6), pl 7 (.slice A7 x.1.length c7), pl 8 (.int .i64 x.2)] a ∧ Sep w0 B w (blk g4 24 #[.int .i64 g1, .int .i64 g2, .slice A1 g3.length c1] :: own 4 (.slice A6 in1.length c6) (vB in1) :: own 3 (.slice A7 x.1.length c7) (vI x.1) :: fs)) (assoc_b hm) ⟨none, 0, hF.weak [2, 6, 7, 8] (by kernel_rfl), hS⟩ ?_
      clear hF hS hm
      rintro nn1 ⟨free1, i1⟩ a w ⟨A7, c7, hF, hS⟩ hm
      generalize hφ1 : stK (gameroomref_GroupOf_L1 g1 g2 g3 in1) nn1 (fun x => ((gameroomref_GroupOf_K1 in1) x).bind some) = φ1 at hm
      unfold gameroomref_GroupOf_L1 at hm
      dsimp only at hF hS hm
      refine seq_cut (fun a w => Fr 44 [pl 2 (.pointer (some ⟨g4, 0, none⟩)), pl 6 (.slice A6 in1.length c6), pl 7 (.slice A7 free1.length c7), pl 8 (.int .i64 i1)] a ∧ Sep w0 B w (blk g4 24 #[.int .i64 g1, .int .i64 g2, .slice A1 g3.length c1] :: own 4 (.slice A6 in1.length c6) (vB in1) :: own 3 (.slice A7 free1.length c7) (vI free1) :: fs) ∧ ((gameroomref_GroupOf_J3 g1 g2 g3 in1 free1 i1)).bind φ1 = some r) ?_ ?_
      · rintro a w ⟨hF, hS, hm⟩
        unfold gameroomref_GroupOf_J3 at hm
        refine seq_cut (fun a w => ∃ (free3 : List Int) (A10 : Option Addr) (c10 : Nat), Fr 44 [pl 2 (.pointer (some ⟨g4, 0, none⟩)), pl 6 (.slice A6 in1.length c6), pl 7 (.slice A10 free3.length c10), pl 8 (.int .i64 i1)] a ∧ Sep w0 B w (blk g4 24 #[.int .i64 g1, .int .i64 g2, .slice A1 g3.length c1] :: own 4 (.slice A6 in1.length c6) (vB in1) :: own 3 (.slice A10 free3.length c10) (vI free3) :: fs) ∧ ((gameroomref_GroupOf_J4 i1) free3).bind φ1 = some r) ?_ ?_
        · rintro a w ⟨free3, A10, c10, hF, hS, hm⟩
          unfold gameroomref_GroupOf_J4 at hm
          refine reg1 [] [] [2, 6, 7, 8] [pl 2 (.pointer (some ⟨g4, 0, none⟩)), pl 6 (.slice A6 in1.length c6), pl 7 (.slice A10 free3.length c10), pl 8 (.int .i64 (w64 (i1 + 1)))] hF hS Fol (by kernel_rfl) (by kernel_rfl) (by kernel_rfl) ?_ (fun a w hF hS => ?_)
          · exact obs_nil
          refine then_n ?_
          rw [← hφ1] at hm
          exact ⟨(free3, (w64 (i1 + 1))), ⟨A10, c10, hF.weak [2, 6, 7, 8] (by kernel_rfl), hS⟩, hm⟩
        · refine wpIn_block ?_
          obtain ⟨hp2, hm⟩ := asrt_b hm
          obtain ⟨r3, hr3, hm⟩ := call_b hm
          refine reg [⟨false, [], vS (Instr.loadAt 22 (.pointer (some ⟨g4, 2, none⟩))), .slice A1 g3.length c1⟩, ⟨true, [], vS (Instr.indexAt 22 (.slice A1 g3.length c1) (.int .i64 i1)), .pointer (some (sAddr A1 i1))⟩, ⟨false, [], vS (Instr.loadAt 3 (.pointer (some (sAddr A1 i1)))), .int .i64 (geti g3 i1)⟩, ⟨false, [(((geti g3 i1) == 0), true)], vS (Instr.loadAt 24 (.pointer (some ⟨g4, 0, none⟩))), .agg #[.int .i64 g1, .int .i64 g2, .slice A1 g3.length c1]⟩, ⟨false, [(((geti g3 i1) == 0), true)], callFunc 58 #[.agg #[.int .i64 g1, .int .i64 g2, .slice A1 g3.length c1], .int .i64 i1, .slice A6 in1.length c6], .bool r3⟩] [none, some (.slice A1 g3.length c1), none, some (.pointer (some (sAddr A1 i1))), some (.int .i64 (geti g3 i1)), none, none, some (.agg #[.int .i64 g1, .int .i64 g2, .slice A1 g3.length c1]), none, none, some (.bool r3), none] [2, 6, 7, 8, 36] [pl 2 (.pointer (some ⟨g4, 0, none⟩)), pl 6 (.slice A6 in1.length c6), pl 7 (.slice A7 free1.length c7), pl 8 (.int .i64 i1), pl 36 (.bool (((geti g3 i1) == 0) && r3))] hF hS Fol (by kernel_rfl) (by kernel_rfl) (by kernel_rfl) ?_ (fun a w hF hS => ?_)
          · exact obs_cons (ob_load Agg22 (fun _ _ hS => (hS.at_ 0 rfl).cell rfl)) <| obs_cons (ob_ix1 (f := (Value.int .i64)) (m := g3) Und22 hi3 hs3 (hr_g3 _ (hS.dropN 3)) rfl (fun _ => hp2)) <| obs_cons (ob_get1 (n := g3.length) (m := g3) (Value.int .i64) (0 : Int) Agg3 (fun _ hS => ⟨_, (hr_g3 _ (hS.dropN 3))⟩) (fun _ hS => rfl) (fun _ => hp2)) <| obs_cons (ob_loadA (cs := #[.int .i64 g1, .int .i64 g2, .slice A1 g3.length c1]) (by kernel_rfl) (by kernel_rfl) (fun _ _ hS => (hS.at_ 0 rfl).cellsAt 0 (by rfl))) <| obs_cons (ob_call Try.func58 (by kernel_rfl) rfl (fun hy _ hS => gameroomref_besideAny_w (ite_some hr3 (by rw [show ((geti g3 i1) == 0) = true from hy (((geti g3 i1) == 0), true) (by simp)]; try rfl)) hS (fun _ hS => (hr_g3 _ (hS.dropN 3))) _hc_g3 rfl (fun _ hS => (hS.at_ 1 rfl).rd) ((hS.at_ 1 rfl).cap1) rfl)) <| obs_nil
          refine cond_ev (t := 36) (b := ((geti g3 i1) == 0) && r3) hF (by kernel_rfl) (fun hb => ?_) (fun hb => ?_)
          · replace hm := if_t hm hb
            refine oneR ?_
            obtain ⟨hp3, hm⟩ := asrt_b hm
            refine at_run 2 [] [] [2, 6, 8, 37, 38] [pl 2 (.pointer (some ⟨g4, 0, none⟩)), pl 6 (.slice A6 in1.length c6), pl 8 (.int .i64 i1), pl 37 (.slice A7 free1.length c7), pl 38 (.int .i64 i1)] hF hS (by kernel_rfl) (by kernel_rfl) ?_ (fun a w hF hS => ?_)
            · exact obs_nil
            refine at_do (d := 39) (s := vS (Instr.buildSlice 22 1 #[(0, .int .i64 i1)])) (v := .slice (some ⟨w.heap.size, 0, none⟩) 1 1) (w' := w.alloc (.cells #[.int .i64 i1] 3)) hF (by kernel_rfl) (by kernel_rfl) (by kernel_rfl) (fun a hF => ?_)
            have hS : Sep w0 B (w.alloc (.cells #[.int .i64 i1] 3)) (own 3 (.slice (some (⟨w.heap.size, 0, none⟩ : Addr)) 1 1) (vI ([i1] : List Int)) :: (blk g4 24 #[.int .i64 g1, .int .i64 g2, .slice A1 g3.length c1] :: own 4 (.slice A6 in1.length c6) (vB in1) :: own 3 (.slice A7 free1.length c7) (vI free1) :: fs)) := hS.lit 3 #[.int .i64 i1] 1 rfl (by omega)
            generalize (some (⟨w.heap.size, 0, none⟩ : Addr)) = g5 at hF hS
            generalize w.alloc (.cells #[.int .i64 i1] 3) = w at hS ⊢
            obtain ⟨A9, c9, w, hrun, hS⟩ := run_app1 (P := Try.prog) (t := 22) (m := free1) (ys := ([i1] : List Int)) (A2 := g5) (m2 := 1) (c2 := 1) (Value.int .i64) (0 : Int) (hS.at_ 3 rfl) (hS.at_ 0 rfl).rd ((hS.at_ 0 rfl).len1) 22 Und22 hi3 hz3 hs3 (by omega) rfl (fun _ => rfl) hp3
            have hS : Sep w0 B w (own 3 (.slice g5 1 1) (vI ([i1] : List Int)) :: blk g4 24 #[.int .i64 g1, .int .i64 g2, .slice A1 g3.length c1] :: own 4 (.slice A6 in1.length c6) (vB in1) :: own 3 (.slice A9 ((free1 ++ ([i1] : List Int)).length) c9) (vI (free1 ++ ([i1] : List Int))) :: fs) := hS
            refine at_do (d := 40) hF (by kernel_rfl) (by kernel_rfl) hrun (fun a hF => ?_)
            refine at_run 1 [] [] [2, 6, 7, 8] [pl 2 (.pointer (some ⟨g4, 0, none⟩)), pl 6 (.slice A6 in1.length c6), pl 7 (.slice A9 ((free1 ++ ([i1] : List Int)).length) c9), pl 8 (.int .i64 i1)] hF hS (by kernel_rfl) (by kernel_rfl) ?_ (fun a w hF hS => ?_)
            · exact obs_nil
            refine at_end [2, 6, 7, 8] [pl 2 (.pointer (some ⟨g4, 0, none⟩)), pl 6 (.slice A6 in1.length c6), pl 7 (.slice A9 ((free1 ++ ([i1] : List Int)).length) c9), pl 8 (.int .i64 i1)] hF rfl (by kernel_rfl) (fun hF => ?_)
            refine block_n ?_
            refine then_n ?_
            have hS := hS.pickN 4 [1, 2, 3] (by decide)
            exact ⟨(free1 ++ ([i1] : List Int)), A9, c9, hF.weak [2, 6, 7, 8] (by kernel_rfl), hS, hm⟩
          · replace hm := if_f hm hb
            refine wpIn_skip ?_
            refine block_n ?_
            refine then_n ?_
            exact ⟨free1, A7, c7, hF.weak [2, 6, 7, 8] (by kernel_rfl), hS, hm⟩
      · refine reg [] [] [2, 6, 7, 8, 22] [pl 2 (.pointer (some ⟨g4, 0, none⟩)), pl 6 (.slice A6 in1.length c6), pl 7 (.slice A7 free1.length c7), pl 8 (.int .i64 i1), pl 22 (.bool (decide (i1 < (in1.length : Int))))] hF hS Fol (by kernel_rfl) (by kernel_rfl) (by kernel_rfl) ?_ (fun a w hF hS => ?_)
        · exact obs_nil
        refine cond_ev (t := 22) (b := decide (i1 < (in1.length : Int))) hF (by kernel_rfl) (fun hb => ?_) (fun hb => ?_)
        · replace hm := if_t hm hb
          refine wpIn_skip ?_
          refine then_n ?_
          exact ⟨hF.weak [2, 6, 7, 8] (by kernel_rfl), hS, hm⟩
        · replace hm := if_f hm hb
          refine wpIn_exit ?_
          refine then_e (then_e (block_e (then_n ?_)))
          have hS := hS.pickN 3 [1, 2] (by decide)
          rw [← hφ1] at hm
          replace hm := done_b hm
          unfold gameroomref_GroupOf_K1 at hm
          try dsimp only at hm
          have hm : ((gameroomref_GroupOf_J2 in1) free1).bind some = some r := hm
          exact ⟨free1, A7, c7, hF.weak [6, 7] (by kernel_rfl), hS, hm⟩
  · obtain ⟨hp1, hm⟩ := asrt_b hm
    obtain ⟨r1, hr1, hm⟩ := call_b hm
    obtain ⟨r2, hr2, hm⟩ := call_b hm
    refine regMix5 [0, 1, 2, 3, 4, 5, 6, 7] [] 3 #[true, true, true, true, true, true, true, true, false, false, false] [⟨false, [], vS (Instr.loadAt 24 (.pointer (some ⟨g4, 0, none⟩))), .agg #[.int .i64 g1, .int .i64 g2, .slice A1 g3.length c1]⟩, ⟨false, [], vS (Instr.loadAt 24 (.pointer (some ⟨g4, 0, none⟩))), .agg #[.int .i64 g1, .int .i64 g2, .slice A1 g3.length c1]⟩, ⟨false, [], vS (Instr.loadAt 22 (.pointer (some ⟨g4, 2, none⟩))), .slice A1 g3.length c1⟩, ⟨true, [], vS (Instr.indexAt 22 (.slice A1 g3.length c1) (.int .i64 place1)), .pointer (some (sAddr A1 place1))⟩, ⟨false, [], vS (Instr.loadAt 3 (.pointer (some (sAddr A1 place1)))), .int .i64 (geti g3 place1)⟩] [some (.agg #[.int .i64 g1, .int .i64 g2, .slice A1 g3.length c1]), none, some (.agg #[.int .i64 g1, .int .i64 g2, .slice A1 g3.length c1]), none, some (.slice A1 g3.length c1), none, some (.pointer (some (sAddr A1 place1))), some (.int .i64 (geti g3 place1))] [2, 9, 10, 11, 16] [pl 2 (.pointer (some ⟨g4, 0, none⟩)), pl 9 (.agg #[.int .i64 g1, .int .i64 g2, .slice A1 g3.length c1]), pl 10 (.int .i64 place1), pl 11 (.agg #[.int .i64 g1, .int .i64 g2, .slice A1 g3.length c1]), pl 16 (.int .i64 (geti g3 place1))] hF hS Fol (by kernel_rfl) (by kernel_rfl) (by kernel_rfl) (by kernel_rfl) ?_ (fun a w hF hS => ?_)
    · exact obs_cons (ob_loadA (cs := #[.int .i64 g1, .int .i64 g2, .slice A1 g3.length c1]) (by kernel_rfl) (by kernel_rfl) (fun _ _ hS => (hS.at_ 0 rfl).cellsAt 0 (by rfl))) <| obs_cons (ob_loadA (cs := #[.int .i64 g1, .int .i64 g2, .slice A1 g3.length c1]) (by kernel_rfl) (by kernel_rfl) (fun _ _ hS => (hS.at_ 0 rfl).cellsAt 0 (by rfl))) <| obs_cons (ob_load Agg22 (fun _ _ hS => (hS.at_ 0 rfl).cell rfl)) <| obs_cons (ob_ix1 (f := (Value.int .i64)) (m := g3) Und22 hi3 hs3 (hr_g3 _ (hS.dropN 1)) rfl (fun _ => hp1)) <| obs_cons (ob_get1 (n := g3.length) (m := g3) (Value.int .i64) (0 : Int) Agg3 (fun _ hS => ⟨_, (hr_g3 _ (hS.dropN 1))⟩) (fun _ hS => rfl) (fun _ => hp1)) <| obs_nil
    refine any_step [8] (by kernel_rfl) rfl ?_
    refine (all_cons ?_ all_nil)
    · refine any_op (listed' := #[true, true, true, true, true, true, true, true, true, false, false]) (by kernel_rfl) (by kernel_rfl) ?_
      refine at_call (f := 57) (args := #[.agg #[.int .i64 g1, .int .i64 g2, .slice A1 g3.length c1], .int .i64 (geti g3 place1), .bool false]) (d := 17) hF (by kernel_rfl) (by kernel_rfl) Try.func57 (by kernel_rfl) rfl (gameroomref_marks_w hr1 hS (fun _ hS => (hr_g3 _ (hS.dropN 1))) _hc_g3 rfl) (fun v a w hR hF => ?_)
      clear hS
      obtain ⟨A4, c4, rfl, hS⟩ := hR
      have hS : Sep w0 B w (own 4 (.slice A4 r1.length c4) (vB r1) :: blk g4 24 #[.int .i64 g1, .int .i64 g2, .slice A1 g3.length c1] :: fs) := hS
      refine any_fin rfl (hS.pickN 2 [1] (by decide)) ?_
      refine any_step [9] (by kernel_rfl) rfl ?_
      refine (all_cons ?_ all_nil)
      · refine any_op (listed' := #[true, true, true, true, true, true, true, true, true, true, false]) (by kernel_rfl) (by kernel_rfl) ?_
        refine at_call (f := 56) (args := #[.agg #[.int .i64 g1, .int .i64 g2, .slice A1 g3.length c1], .int .i64 place1, .slice A4 r1.length c4]) (d := 18) hF (by kernel_rfl) (by kernel_rfl) Try.func56 (by kernel_rfl) rfl (gameroomref_regionOf_w hr2 hS (fun _ hS => (hr_g3 _ (hS.dropN 2))) _hc_g3 rfl (fun _ hS => (hS.at_ 0 rfl).rd) ((hS.at_ 0 rfl).cap1) rfl) (fun v a w hR hF => ?_)
        clear hS
        obtain ⟨A5, c5, rfl, hS⟩ := hR
        have hS : Sep w0 B w (own 4 (.slice A5 r2.length c5) (vB r2) :: own 4 (.slice A4 r1.length c4) (vB r1) :: blk g4 24 #[.int .i64 g1, .int .i64 g2, .slice A1 g3.length c1] :: fs) := hS
        refine any_fin rfl (hS.pickN 3 [2] (by decide)) ?_
        refine any_step [10] (by kernel_rfl) rfl ?_
        refine (all_cons ?_ all_nil)
        · refine any_op (listed' := #[true, true, true, true, true, true, true, true, true, true, true]) (by kernel_rfl) (by kernel_rfl) ?_
          refine at_runW 1 [] [] [2, 6] [pl 2 (.pointer (some ⟨g4, 0, none⟩)), pl 6 (.slice A5 r2.length c5)] hF hS (by kernel_rfl) (by kernel_rfl) ?_ (fun a hF => ?_)
          · exact obs_nil
          refine any_finI rfl (fun h => h) ?_
          refine any_end (by kernel_rfl) ?_
          refine np_n ?_
          refine then_n ?_
          have hS := hS.pickN 3 [2, 0] (by decide)
          exact ⟨r2, A5, c5, hF.weak [2, 6] (by kernel_rfl), hS, hm⟩

noncomputable def gameroomref_PutStone_J5  (i1 : Int) (gone3 : List Int) : Option (St (List Int × Int) (List Int)) :=
  some (.next (gone3, (w64 (i1 + 1))))

noncomputable def gameroomref_PutStone_J4  (who1 : Int) (place1 : Int) (r2 : (Int × Int × List Int)) (gone1 : List Int) (i1 : Int) : Option (St (List Int × Int) (List Int)) :=
  asrt (0 ≤ i1 ∧ i1 < (r2.2.2.length : Int)) <| if ((geti (r2.2.2.set (Int.toNat place1) who1) i1) == (w64 (3 - who1))) then ((gameroomref_GroupOf_m r2.1 r2.2.1 (r2.2.2.set (Int.toNat place1) who1) i1).bind fun r3 => if ((r3.2.length : Int) == 0) then (asrt ((gone1.length : Int) + 1 ≤ bigN) <| (gameroomref_PutStone_J5 i1) (gone1 ++ ([i1] : List Int))) else ((gameroomref_PutStone_J5 i1) gone1)) else ((gameroomref_PutStone_J5 i1) gone1)

noncomputable def gameroomref_PutStone_J8  (gone2 : List Int) (out1 : List Int) (i2 : Int) : Option (St (List Int × Int) (List Int)) :=
  some (.next ((out1.set (Int.toNat (geti gone2 i2)) 0), (w64 (i2 + 1))))

noncomputable def gameroomref_PutStone_J7  (r2 : (Int × Int × List Int)) (gone2 : List Int) (out1 : List Int) (i2 : Int) : Option (St (List Int × Int) (List Int)) :=
  asrt (0 ≤ i2 ∧ i2 < (gone2.length : Int)) <| asrt (0 ≤ (geti gone2 i2) ∧ (geti gone2 i2) < (r2.2.2.length : Int)) <| (gameroomref_PutStone_J8 gone2 out1 i2)

noncomputable def gameroomref_PutStone_L2  (r2 : (Int × Int × List Int)) (gone2 : List Int) : (List Int × Int) → Option (St (List Int × Int) (List Int)) :=
  fun (x : (List Int × Int)) => match x with | (out1, i2) => if (decide (i2 < (gone2.length : Int))) then ((gameroomref_PutStone_J7 r2 gone2 out1 i2)) else (some (.done out1))

noncomputable def gameroomref_PutStone_J9  (r2 : (Int × Int × List Int)) (gone2 : List Int) (out2 : List Int) : Option (Int × Int × List Int × Int × Int) :=
  some (r2.1, r2.2.1, out2, (gone2.length : Int), 0)

noncomputable def gameroomref_PutStone_J6  (place1 : Int) (r2 : (Int × Int × List Int)) (gone2 : List Int) (out2 : List Int) : Option (Int × Int × List Int × Int × Int) :=
  (gameroomref_GroupOf_m r2.1 r2.2.1 out2 place1).bind fun r4 => if ((r4.2.length : Int) == 0) then (some (0, 0, ([] : List Int), 0, 8)) else ((gameroomref_PutStone_J9 r2 gone2 out2))

noncomputable def gameroomref_PutStone_K2  (place1 : Int) (r2 : (Int × Int × List Int)) (gone2 : List Int) : (List Int) → Option (Int × Int × List Int × Int × Int) :=
  fun (x : (List Int)) => match x with | out2 => (gameroomref_PutStone_J6 place1 r2 gone2) out2

noncomputable def gameroomref_PutStone_J3  (who1 : Int) (place1 : Int) (r2 : (Int × Int × List Int)) (gone2 : List Int) : Option (Int × Int × List Int × Int × Int) :=
  (loop (gameroomref_PutStone_L2 r2 gone2) ((r2.2.2.set (Int.toNat place1) who1), 0)).bind (gameroomref_PutStone_K2 place1 r2 gone2)

noncomputable def gameroomref_PutStone_K1  (who1 : Int) (place1 : Int) (r2 : (Int × Int × List Int)) : (List Int) → Option (Int × Int × List Int × Int × Int) :=
  fun (x : (List Int)) => match x with | gone2 => (gameroomref_PutStone_J3 who1 place1 r2) gone2

noncomputable def gameroomref_PutStone_L1  (who1 : Int) (place1 : Int) (r2 : (Int × Int × List Int)) : (List Int × Int) → Option (St (List Int × Int) (List Int)) :=
  fun (x : (List Int × Int)) => match x with | (gone1, i1) => if (decide (i1 < (r2.2.2.length : Int))) then ((gameroomref_PutStone_J4 who1 place1 r2 gone1 i1)) else (some (.done gone1))

noncomputable def gameroomref_PutStone_J2  (g1 : Int) (g2 : Int) (g3 : List Int) (who1 : Int) (place1 : Int) : Option (Int × Int × List Int × Int × Int) :=
  (gameroomref_GridOf_m g1 g2 g3).bind fun r2 => asrt (0 ≤ place1 ∧ place1 < (r2.2.2.length : Int)) <| (loop (gameroomref_PutStone_L1 who1 place1 r2) (([] : List Int), 0)).bind (gameroomref_PutStone_K1 who1 place1 r2)

noncomputable def gameroomref_PutStone_J1  (g1 : Int) (g2 : Int) (g3 : List Int) (who1 : Int) (place1 : Int) : Option (Int × Int × List Int × Int × Int) :=
  asrt (0 ≤ place1 ∧ place1 < (g3.length : Int)) <| if ((geti g3 place1) != 0) then (some (0, 0, ([] : List Int), 0, 6)) else ((gameroomref_PutStone_J2 g1 g2 g3 who1 place1))
end Go.Proofs.Ytjfloofoobllaaa
