/-
  Models and walks, printed by our own program (wip/gen).
-/
import Derived.Test.YtjfloofoobllaaaFB
import Derived.Test.YtjfloofoobllaaaFE
import Derived.Test.YtjfloofoobllaaaLibPl
import Derived.Test.YtjfloofoobllaaaLibSu
import Derived.Test.YtjfloofoobllaaaFM
import Derived.Test.YtjfloofoobllaaaLibSt
import Derived.Test.YtjfloofoobllaaaSH
import Derived.Test.YtjfloofoobllaaaNSPc
namespace Go.Proofs.Ytjfloofoobllaaa
open Go Go.GL Go.RowKit

noncomputable def gameroomref_PlayStones_m  (g1 : Int) (g2 : Int) (g3 : List Int) (moves1 : List Int) : Option (Int × Int × List Int × List Int × Int × Int) :=
  (gameroomref_GridOf_m g1 g2 g3).bind fun r1 => (gameroomref_GridOf_m g1 g2 g3).bind fun r2 => (loop (gameroomref_PlayStones_L1 moves1) (([r1] : List (Int × Int × List Int)), (List.replicate 2 (0 : Int)), r2.1, r2.2.1, r2.2.2, 0)).bind (gameroomref_PlayStones_K1 moves1)

set_option maxRecDepth 100000 in
set_option maxHeartbeats 4000000 in
theorem gameroomref_PlayStones_w  {g1 : Int} {g2 : Int} {A1 : Option Addr} {c1 : Nat} {n1 : Nat} {g3 : List Int} {A2 : Option Addr} {c2 : Nat} {n2 : Nat} {moves1 : List Int} {r : (Int × Int × List Int × List Int × Int × Int)} {w0 w : World} {B : Nat} {fs : List HP} (hm : gameroomref_PlayStones_m g1 g2 g3 moves1 = some r) (hS : Sep w0 B w (fs)) (hr_g3 : RdF w0 B fs A1 (vI g3)) (_hc_g3 : g3.length ≤ c1) (_hn_g3 : n1 = g3.length) (hr_moves1 : RdF w0 B fs A2 (vI moves1)) (_hc_moves1 : moves1.length ≤ c2) (_hn_moves1 : n2 = moves1.length) :
    Calls Try.prog 13 #[.agg #[.int .i64 g1, .int .i64 g2, .slice A1 n1 c1], .slice A2 n2 c2] w fun e w' => ∃ v, e = .returned v ∧ ∃ (pg4 : HP) (A15 : Option Addr) (c15 : Nat), v = .tuple #[.agg #[.int .i64 r.1, .int .i64 r.2.1, .slice A15 r.2.2.1.length c15], .agg (List.toArray (([] : List Value) ++ (arr1 (Value.int .i64) (0 : Int) 2 r.2.2.2.1 ++ ([] : List Value)))), .int .i64 r.2.2.2.2.1, .int .i64 r.2.2.2.2.2] ∧ (PoolW pg4 A15 r.2.2.1) ∧ (r.2.2.1.length ≤ c15) ∧ Sep w0 B w' (pg4 :: fs) := by
  obtain ⟨i3, hi3, hz3, hs3, hb3⟩ := info_parts Info3
  obtain ⟨i24, hi24, hz24, hs24, hb24⟩ := info_parts Info24
  obtain rfl := _hn_g3
  obtain rfl := _hn_moves1
  unfold gameroomref_PlayStones_m at hm
  replace hm := start_b hm
  refine enter (l := [.agg #[.int .i64 g1, .int .i64 g2, .slice A1 g3.length c1], .slice A2 moves1.length c2]) (n := 104) Try.func13 rfl rfl (by simp) (fun a hF => ?_)
  refine seqR ?_
  refine at_do (d := 2) (s := vS (Instr.box 24 (.agg #[.int .i64 g1, .int .i64 g2, .slice A1 g3.length c1]))) (v := .pointer (some ⟨w.heap.size, 0, none⟩)) (w' := w.alloc (.cells #[.int .i64 g1, .int .i64 g2, .slice A1 g3.length c1] 24)) hF (by kernel_rfl) (by kernel_rfl) (by kernel_rfl) (fun a hF => ?_)
  have hS : Sep w0 B (w.alloc (.cells #[.int .i64 g1, .int .i64 g2, .slice A1 g3.length c1] 24)) (blk w.heap.size 24 #[.int .i64 g1, .int .i64 g2, .slice A1 g3.length c1] :: (fs)) := hS.box 24 #[.int .i64 g1, .int .i64 g2, .slice A1 g3.length c1]
  generalize w.heap.size = g4 at hF hS
  generalize w.alloc (.cells #[.int .i64 g1, .int .i64 g2, .slice A1 g3.length c1] 24) = w at hS ⊢
  refine at_do (d := 4) (s := vS (Instr.alloc 24 true (.tuple #[]))) (v := .pointer (some ⟨w.heap.size, 0, none⟩)) (w' := w.alloc (.cells #[.int .i64 0, .int .i64 0, .slice none 0 0] 24)) hF (by kernel_rfl) (by kernel_rfl) (by kernel_rfl) (fun a hF => ?_)
  have hS : Sep w0 B (w.alloc (.cells #[.int .i64 0, .int .i64 0, .slice none 0 0] 24)) (blk w.heap.size 24 #[.int .i64 0, .int .i64 0, .slice none 0 0] :: (blk g4 24 #[.int .i64 g1, .int .i64 g2, .slice A1 g3.length c1] :: fs)) := hS.box 24 #[.int .i64 0, .int .i64 0, .slice none 0 0]
  generalize w.heap.size = g5 at hF hS
  generalize w.alloc (.cells #[.int .i64 0, .int .i64 0, .slice none 0 0] 24) = w at hS ⊢
  refine at_do (d := 5) (s := vS (Instr.alloc 25 true (.tuple #[]))) (v := .pointer (some ⟨w.heap.size, 0, none⟩)) (w' := w.alloc (.cells (List.toArray (([] : List Value) ++ (arr1 (Value.int .i64) (0 : Int) 2 (List.replicate 2 (0 : Int)) ++ ([] : List Value)))) 25)) hF (by kernel_rfl) (by kernel_rfl) (by kernel_rfl) (fun a hF => ?_)
  have hS : Sep w0 B (w.alloc (.cells (List.toArray (([] : List Value) ++ (arr1 (Value.int .i64) (0 : Int) 2 (List.replicate 2 (0 : Int)) ++ ([] : List Value)))) 25)) (blk w.heap.size 25 (List.toArray (([] : List Value) ++ (arr1 (Value.int .i64) (0 : Int) 2 (List.replicate 2 (0 : Int)) ++ ([] : List Value)))) :: (blk g5 24 #[.int .i64 0, .int .i64 0, .slice none 0 0] :: blk g4 24 #[.int .i64 g1, .int .i64 g2, .slice A1 g3.length c1] :: fs)) := hS.box 25 (List.toArray (([] : List Value) ++ (arr1 (Value.int .i64) (0 : Int) 2 (List.replicate 2 (0 : Int)) ++ ([] : List Value))))
  generalize w.heap.size = g6 at hF hS
  generalize w.alloc (.cells (List.toArray (([] : List Value) ++ (arr1 (Value.int .i64) (0 : Int) 2 (List.replicate 2 (0 : Int)) ++ ([] : List Value)))) 25) = w at hS ⊢
  refine at_run 2 [] [] [1, 2, 4, 5] [pl 1 (.slice A2 moves1.length c2), pl 2 (.pointer (some ⟨g4, 0, none⟩)), pl 4 (.pointer (some ⟨g5, 0, none⟩)), pl 5 (.pointer (some ⟨g6, 0, none⟩))] hF hS (by kernel_rfl) (by kernel_rfl) ?_ (fun a w hF hS => ?_)
  · exact obs_nil
  refine at_end [1, 2, 4, 5] [pl 1 (.slice A2 moves1.length c2), pl 2 (.pointer (some ⟨g4, 0, none⟩)), pl 4 (.pointer (some ⟨g5, 0, none⟩)), pl 5 (.pointer (some ⟨g6, 0, none⟩))] hF rfl (by kernel_rfl) (fun hF => ?_)
  refine then_n ?_
  refine seqR ?_
  obtain ⟨r1, hr1, hm⟩ := call_b hm
  refine at_run 1 [⟨false, [], vS (Instr.loadAt 24 (.pointer (some ⟨g4, 0, none⟩))), .agg #[.int .i64 g1, .int .i64 g2, .slice A1 g3.length c1]⟩] [some (.agg #[.int .i64 g1, .int .i64 g2, .slice A1 g3.length c1])] [1, 2, 4, 5, 16] [pl 1 (.slice A2 moves1.length c2), pl 2 (.pointer (some ⟨g4, 0, none⟩)), pl 4 (.pointer (some ⟨g5, 0, none⟩)), pl 5 (.pointer (some ⟨g6, 0, none⟩)), pl 16 (.agg #[.int .i64 g1, .int .i64 g2, .slice A1 g3.length c1])] hF hS (by kernel_rfl) (by kernel_rfl) ?_ (fun a w hF hS => ?_)
  · exact obs_cons (ob_loadA (cs := #[.int .i64 g1, .int .i64 g2, .slice A1 g3.length c1]) (by kernel_rfl) (by kernel_rfl) (fun _ _ hS => (hS.at_ 2 rfl).cellsAt 0 (by rfl))) <| obs_nil
  refine at_call (f := 9) (args := #[.agg #[.int .i64 g1, .int .i64 g2, .slice A1 g3.length c1]]) (d := 17) hF (by kernel_rfl) (by kernel_rfl) Try.func9 (by kernel_rfl) rfl (gameroomref_GridOf_w hr1 hS (fun _ hS => (hr_g3 _ (hS.dropN 3))) _hc_g3 rfl) (fun v a w hR hF => ?_)
  clear hS
  obtain ⟨A3, c3, rfl, hS⟩ := hR
  have hS : Sep w0 B w (own 3 (.slice A3 r1.2.2.length c3) (vI r1.2.2) :: blk g6 25 (List.toArray (([] : List Value) ++ (arr1 (Value.int .i64) (0 : Int) 2 (List.replicate 2 (0 : Int)) ++ ([] : List Value)))) :: blk g5 24 #[.int .i64 0, .int .i64 0, .slice none 0 0] :: blk g4 24 #[.int .i64 g1, .int .i64 g2, .slice A1 g3.length c1] :: fs) := hS
  have hS : Sep w0 B w (noB :: own 3 (.slice A3 r1.2.2.length c3) (vI r1.2.2) :: blk g6 25 (List.toArray (([] : List Value) ++ (arr1 (Value.int .i64) (0 : Int) 2 (List.replicate 2 (0 : Int)) ++ ([] : List Value)))) :: blk g5 24 #[.int .i64 0, .int .i64 0, .slice none 0 0] :: blk g4 24 #[.int .i64 g1, .int .i64 g2, .slice A1 g3.length c1] :: fs) := hS.noB
  have hc1 := (hS.at_ 1 rfl).cap1
  have hS := hS.pickN 5 [1, 0, 2, 3, 4] (by decide)
  have hS : Sep w0 B w ((twoB (own 3 (.slice A3 r1.2.2.length c3) (vI r1.2.2)) noB) :: blk g6 25 (List.toArray (([] : List Value) ++ (arr1 (Value.int .i64) (0 : Int) 2 (List.replicate 2 (0 : Int)) ++ ([] : List Value)))) :: blk g5 24 #[.int .i64 0, .int .i64 0, .slice none 0 0] :: blk g4 24 #[.int .i64 g1, .int .i64 g2, .slice A1 g3.length c1] :: fs) := hS.two
  refine at_do (d := 18) (s := vS (Instr.buildSlice 81 1 #[(0, .agg #[.int .i64 r1.1, .int .i64 r1.2.1, .slice A3 r1.2.2.length c3])])) (v := .slice (some ⟨w.heap.size, 0, none⟩) 1 1) (w' := w.alloc (.cells #[.int .i64 r1.1, .int .i64 r1.2.1, .slice A3 r1.2.2.length c3] 24)) hF (by kernel_rfl) (by kernel_rfl) (by kernel_rfl) (fun a hF => ?_)
  have hS : Sep w0 B (w.alloc (.cells #[.int .i64 r1.1, .int .i64 r1.2.1, .slice A3 r1.2.2.length c3] 24)) (els encP24 Rel24 (twoB (own 3 (.slice A3 r1.2.2.length c3) (vI r1.2.2)) noB) 24 3 (some (⟨w.heap.size, 0, none⟩ : Addr)) 1 1 ([(r1.1, r1.2.1, (A3, r1.2.2.length, c3))] : List (Int × Int × Hd3)) ([r1] : List (Int × Int × List Int)) :: ((twoB (own 3 (.slice A3 r1.2.2.length c3) (vI r1.2.2)) noB) :: blk g6 25 (List.toArray (([] : List Value) ++ (arr1 (Value.int .i64) (0 : Int) 2 (List.replicate 2 (0 : Int)) ++ ([] : List Value)))) :: blk g5 24 #[.int .i64 0, .int .i64 0, .slice none 0 0] :: blk g4 24 #[.int .i64 g1, .int .i64 g2, .slice A1 g3.length c1] :: fs)) := Sep.ownEls' (l := []) (hS.litK 24 3 #[.int .i64 r1.1, .int .i64 r1.2.1, .slice A3 r1.2.2.length c3] 1 rfl (by omega)) rfl (PAll.cons ⟨rfl, rfl, SlR.of (PoolW.own : PoolW (twoB (own 3 (.slice A3 r1.2.2.length c3) (vI r1.2.2)) noB) A3 r1.2.2) hc1⟩ (PAll.nil : PAll Rel24 (twoB (own 3 (.slice A3 r1.2.2.length c3) (vI r1.2.2)) noB) ([] : List (Int × Int × Hd3)) ([] : List (Int × Int × List Int))))
  generalize (some (⟨w.heap.size, 0, none⟩ : Addr)) = g7 at hF hS
  generalize w.alloc (.cells #[.int .i64 r1.1, .int .i64 r1.2.1, .slice A3 r1.2.2.length c3] 24) = w at hS ⊢
  refine at_run 1 [] [] [1, 2, 4, 5, 8] [pl 1 (.slice A2 moves1.length c2), pl 2 (.pointer (some ⟨g4, 0, none⟩)), pl 4 (.pointer (some ⟨g5, 0, none⟩)), pl 5 (.pointer (some ⟨g6, 0, none⟩)), pl 8 (.slice g7 1 1)] hF hS (by kernel_rfl) (by kernel_rfl) ?_ (fun a w hF hS => ?_)
  · exact obs_nil
  refine at_end [1, 2, 4, 5, 8] [pl 1 (.slice A2 moves1.length c2), pl 2 (.pointer (some ⟨g4, 0, none⟩)), pl 4 (.pointer (some ⟨g5, 0, none⟩)), pl 5 (.pointer (some ⟨g6, 0, none⟩)), pl 8 (.slice g7 1 1)] hF rfl (by kernel_rfl) (fun hF => ?_)
  refine then_n ?_
  refine seqR ?_
  refine at_do (d := 9) (s := vS (Instr.alloc 25 true (.tuple #[]))) (v := .pointer (some ⟨w.heap.size, 0, none⟩)) (w' := w.alloc (.cells (List.toArray (([] : List Value) ++ (arr1 (Value.int .i64) (0 : Int) 2 (List.replicate 2 (0 : Int)) ++ ([] : List Value)))) 25)) hF (by kernel_rfl) (by kernel_rfl) (by kernel_rfl) (fun a hF => ?_)
  have hS : Sep w0 B (w.alloc (.cells (List.toArray (([] : List Value) ++ (arr1 (Value.int .i64) (0 : Int) 2 (List.replicate 2 (0 : Int)) ++ ([] : List Value)))) 25)) (blk w.heap.size 25 (List.toArray (([] : List Value) ++ (arr1 (Value.int .i64) (0 : Int) 2 (List.replicate 2 (0 : Int)) ++ ([] : List Value)))) :: (els encP24 Rel24 (twoB (own 3 (.slice A3 r1.2.2.length c3) (vI r1.2.2)) noB) 24 3 g7 1 1 ([(r1.1, r1.2.1, (A3, r1.2.2.length, c3))] : List (Int × Int × Hd3)) ([r1] : List (Int × Int × List Int)) :: (twoB (own 3 (.slice A3 r1.2.2.length c3) (vI r1.2.2)) noB) :: blk g6 25 (List.toArray (([] : List Value) ++ (arr1 (Value.int .i64) (0 : Int) 2 (List.replicate 2 (0 : Int)) ++ ([] : List Value)))) :: blk g5 24 #[.int .i64 0, .int .i64 0, .slice none 0 0] :: blk g4 24 #[.int .i64 g1, .int .i64 g2, .slice A1 g3.length c1] :: fs)) := hS.box 25 (List.toArray (([] : List Value) ++ (arr1 (Value.int .i64) (0 : Int) 2 (List.replicate 2 (0 : Int)) ++ ([] : List Value))))
  generalize w.heap.size = g8 at hF hS
  generalize w.alloc (.cells (List.toArray (([] : List Value) ++ (arr1 (Value.int .i64) (0 : Int) 2 (List.replicate 2 (0 : Int)) ++ ([] : List Value)))) 25) = w at hS ⊢
  refine at_end [1, 2, 4, 5, 8, 9] [pl 1 (.slice A2 moves1.length c2), pl 2 (.pointer (some ⟨g4, 0, none⟩)), pl 4 (.pointer (some ⟨g5, 0, none⟩)), pl 5 (.pointer (some ⟨g6, 0, none⟩)), pl 8 (.slice g7 1 1), pl 9 (.pointer (some ⟨g8, 0, none⟩))] hF rfl (by kernel_rfl) (fun hF => ?_)
  refine then_n ?_
  refine seqR ?_
  obtain ⟨r2, hr2, hm⟩ := call_b hm
  refine at_run 1 [⟨false, [], vS (Instr.loadAt 24 (.pointer (some ⟨g4, 0, none⟩))), .agg #[.int .i64 g1, .int .i64 g2, .slice A1 g3.length c1]⟩] [some (.agg #[.int .i64 g1, .int .i64 g2, .slice A1 g3.length c1])] [1, 4, 5, 8, 9, 19] [pl 1 (.slice A2 moves1.length c2), pl 4 (.pointer (some ⟨g5, 0, none⟩)), pl 5 (.pointer (some ⟨g6, 0, none⟩)), pl 8 (.slice g7 1 1), pl 9 (.pointer (some ⟨g8, 0, none⟩)), pl 19 (.agg #[.int .i64 g1, .int .i64 g2, .slice A1 g3.length c1])] hF hS (by kernel_rfl) (by kernel_rfl) ?_ (fun a w hF hS => ?_)
  · exact obs_cons (ob_loadA (cs := #[.int .i64 g1, .int .i64 g2, .slice A1 g3.length c1]) (by kernel_rfl) (by kernel_rfl) (fun _ _ hS => (hS.at_ 5 rfl).cellsAt 0 (by rfl))) <| obs_nil
  refine at_call (f := 9) (args := #[.agg #[.int .i64 g1, .int .i64 g2, .slice A1 g3.length c1]]) (d := 20) hF (by kernel_rfl) (by kernel_rfl) Try.func9 (by kernel_rfl) rfl (gameroomref_GridOf_w hr2 hS (fun _ hS => (hr_g3 _ (hS.dropN 6))) _hc_g3 rfl) (fun v a w hR hF => ?_)
  clear hS
  obtain ⟨A4, c4, rfl, hS⟩ := hR
  have hS : Sep w0 B w (own 3 (.slice A4 r2.2.2.length c4) (vI r2.2.2) :: blk g8 25 (List.toArray (([] : List Value) ++ (arr1 (Value.int .i64) (0 : Int) 2 (List.replicate 2 (0 : Int)) ++ ([] : List Value)))) :: els encP24 Rel24 (twoB (own 3 (.slice A3 r1.2.2.length c3) (vI r1.2.2)) noB) 24 3 g7 1 1 ([(r1.1, r1.2.1, (A3, r1.2.2.length, c3))] : List (Int × Int × Hd3)) ([r1] : List (Int × Int × List Int)) :: (twoB (own 3 (.slice A3 r1.2.2.length c3) (vI r1.2.2)) noB) :: blk g6 25 (List.toArray (([] : List Value) ++ (arr1 (Value.int .i64) (0 : Int) 2 (List.replicate 2 (0 : Int)) ++ ([] : List Value)))) :: blk g5 24 #[.int .i64 0, .int .i64 0, .slice none 0 0] :: blk g4 24 #[.int .i64 g1, .int .i64 g2, .slice A1 g3.length c1] :: fs) := hS
  refine at_do (d := 10) (s := vS (Instr.alloc 24 true (.tuple #[]))) (v := .pointer (some ⟨w.heap.size, 0, none⟩)) (w' := w.alloc (.cells #[.int .i64 0, .int .i64 0, .slice none 0 0] 24)) hF (by kernel_rfl) (by kernel_rfl) (by kernel_rfl) (fun a hF => ?_)
  have hS : Sep w0 B (w.alloc (.cells #[.int .i64 0, .int .i64 0, .slice none 0 0] 24)) (blk w.heap.size 24 #[.int .i64 0, .int .i64 0, .slice none 0 0] :: (own 3 (.slice A4 r2.2.2.length c4) (vI r2.2.2) :: blk g8 25 (List.toArray (([] : List Value) ++ (arr1 (Value.int .i64) (0 : Int) 2 (List.replicate 2 (0 : Int)) ++ ([] : List Value)))) :: els encP24 Rel24 (twoB (own 3 (.slice A3 r1.2.2.length c3) (vI r1.2.2)) noB) 24 3 g7 1 1 ([(r1.1, r1.2.1, (A3, r1.2.2.length, c3))] : List (Int × Int × Hd3)) ([r1] : List (Int × Int × List Int)) :: (twoB (own 3 (.slice A3 r1.2.2.length c3) (vI r1.2.2)) noB) :: blk g6 25 (List.toArray (([] : List Value) ++ (arr1 (Value.int .i64) (0 : Int) 2 (List.replicate 2 (0 : Int)) ++ ([] : List Value)))) :: blk g5 24 #[.int .i64 0, .int .i64 0, .slice none 0 0] :: blk g4 24 #[.int .i64 g1, .int .i64 g2, .slice A1 g3.length c1] :: fs)) := hS.box 24 #[.int .i64 0, .int .i64 0, .slice none 0 0]
  generalize w.heap.size = g9 at hF hS
  generalize w.alloc (.cells #[.int .i64 0, .int .i64 0, .slice none 0 0] 24) = w at hS ⊢
  obtain ⟨w, hrun, hS⟩ := run_putA (P := Try.prog) (t := 24) (us := #[.int .i64 r2.1, .int .i64 r2.2.1, .slice A4 r2.2.2.length c4]) (o := 0) (hS.at_ 0 rfl) (by kernel_rfl) (all_one (by kernel_rfl)) (Nat.le_of_ble_eq_true (by kernel_rfl))
  refine at_skip hF (by kernel_rfl) hrun ?_
  have hS : Sep w0 B w (blk g9 24 #[.int .i64 r2.1, .int .i64 r2.2.1, .slice A4 r2.2.2.length c4] :: own 3 (.slice A4 r2.2.2.length c4) (vI r2.2.2) :: blk g8 25 (List.toArray (([] : List Value) ++ (arr1 (Value.int .i64) (0 : Int) 2 (List.replicate 2 (0 : Int)) ++ ([] : List Value)))) :: els encP24 Rel24 (twoB (own 3 (.slice A3 r1.2.2.length c3) (vI r1.2.2)) noB) 24 3 g7 1 1 ([(r1.1, r1.2.1, (A3, r1.2.2.length, c3))] : List (Int × Int × Hd3)) ([r1] : List (Int × Int × List Int)) :: (twoB (own 3 (.slice A3 r1.2.2.length c3) (vI r1.2.2)) noB) :: blk g6 25 (List.toArray (([] : List Value) ++ (arr1 (Value.int .i64) (0 : Int) 2 (List.replicate 2 (0 : Int)) ++ ([] : List Value)))) :: blk g5 24 #[.int .i64 0, .int .i64 0, .slice none 0 0] :: blk g4 24 #[.int .i64 g1, .int .i64 g2, .slice A1 g3.length c1] :: fs) := hS
  refine at_end [1, 4, 5, 8, 9, 10] [pl 1 (.slice A2 moves1.length c2), pl 4 (.pointer (some ⟨g5, 0, none⟩)), pl 5 (.pointer (some ⟨g6, 0, none⟩)), pl 8 (.slice g7 1 1), pl 9 (.pointer (some ⟨g8, 0, none⟩)), pl 10 (.pointer (some ⟨g9, 0, none⟩))] hF rfl (by kernel_rfl) (fun hF => ?_)
  refine then_n ?_
  refine seq_cut (fun a w => ∃ (taken2 : List Int) (now4 : Int) (now5 : Int) (now6 : List Int) (pg2 : HP) (A7 : Option Addr) (c7 : Nat), Fr 104 [pl 1 (.slice A2 moves1.length c2), pl 4 (.pointer (some ⟨g5, 0, none⟩)), pl 5 (.pointer (some ⟨g6, 0, none⟩)), pl 9 (.pointer (some ⟨g8, 0, none⟩)), pl 10 (.pointer (some ⟨g9, 0, none⟩))] a ∧ Sep w0 B w (blk g5 24 #[.int .i64 0, .int .i64 0, .slice none 0 0] :: blk g6 25 (List.toArray (([] : List Value) ++ (arr1 (Value.int .i64) (0 : Int) 2 (List.replicate 2 (0 : Int)) ++ ([] : List Value)))) :: blk g8 25 (List.toArray (([] : List Value) ++ (arr1 (Value.int .i64) (0 : Int) 2 taken2 ++ ([] : List Value)))) :: blk g9 24 #[.int .i64 now4, .int .i64 now5, .slice A7 now6.length c7] :: pg2 :: fs) ∧ PoolW pg2 A7 now6 ∧ now6.length ≤ c7 ∧ ((gameroomref_PlayStones_J1 moves1) taken2 now4 now5 now6).bind some = some r) ?_ ?_
  · rintro a w ⟨taken2, now4, now5, now6, pg2, A7, c7, hF, hS, hp2, hc4, hm⟩
    unfold gameroomref_PlayStones_J1 at hm
    refine seq_cut (fun a w => Fr 104 [pl 4 (.pointer (some ⟨g5, 0, none⟩)), pl 5 (.pointer (some ⟨g6, 0, none⟩)), pl 6 (.int .i64 (moves1.length : Int)), pl 7 (.int .i64 0)] a ∧ Sep w0 B w (blk g5 24 #[.int .i64 now4, .int .i64 now5, .slice A7 now6.length c7] :: pg2 :: blk g6 25 (List.toArray (([] : List Value) ++ (arr1 (Value.int .i64) (0 : Int) 2 taken2 ++ ([] : List Value)))) :: fs) ∧ ((gameroomref_PlayStones_J13 moves1 taken2 now4 now5 now6)).bind some = some r) ?_ ?_
    · rintro a w ⟨hF, hS, hm⟩
      unfold gameroomref_PlayStones_J13 at hm
      refine wpIn_ret ?_
      have hld0 := run_loadVarA (P := Try.prog) (t := 24) (cs := #[.int .i64 now4, .int .i64 now5, .slice A7 now6.length c7]) (by kernel_rfl) (by kernel_rfl) ((hS.at_ 0 rfl).cellsAt 0 (by rfl))
      have hld1 := run_loadVarA (P := Try.prog) (t := 25) (cs := (List.toArray (([] : List Value) ++ (arr1 (Value.int .i64) (0 : Int) 2 taken2 ++ ([] : List Value))))) (by kernel_rfl) (by kernel_rfl) ((hS.at_ 2 rfl).cellsAt 0 (by rfl))
      have hS := hS.pickN 3 [1] (by decide)
      have hm : some (now4, now5, now6, taken2, (moves1.length : Int), 0) = some r := hm
      obtain rfl := Option.some.inj hm
      exact retV (rs := [.cell 4 24, .cell 5 25, .tmp 6, .tmp 7]) (vs := [.agg #[.int .i64 now4, .int .i64 now5, .slice A7 now6.length c7], .agg (List.toArray (([] : List Value) ++ (arr1 (Value.int .i64) (0 : Int) 2 taken2 ++ ([] : List Value)))), .int .i64 (moves1.length : Int), .int .i64 0]) hF rfl (rv_c (by kernel_rfl) hld0 <| rv_c (by kernel_rfl) hld1 <| rv_t (by kernel_rfl) <| rv_t (by kernel_rfl) <| rv_nil) rfl ⟨_, rfl, pg2, A7, c7, rfl, hp2, hc4, hS⟩
    · refine regMix5 [0, 2, 3] [4, 5] 5 #[true, false, true, true, false, false, false, false] [⟨false, [], vS (Instr.loadAt 24 (.pointer (some ⟨g9, 0, none⟩))), .agg #[.int .i64 now4, .int .i64 now5, .slice A7 now6.length c7]⟩] [some (.agg #[.int .i64 now4, .int .i64 now5, .slice A7 now6.length c7]), none, none] [4, 5, 9, 100, 103] [pl 4 (.pointer (some ⟨g5, 0, none⟩)), pl 5 (.pointer (some ⟨g6, 0, none⟩)), pl 9 (.pointer (some ⟨g8, 0, none⟩)), pl 100 (.agg #[.int .i64 now4, .int .i64 now5, .slice A7 now6.length c7]), pl 103 (.int .i64 (moves1.length : Int))] hF hS Fol (by kernel_rfl) (by kernel_rfl) (by kernel_rfl) (by kernel_rfl) ?_ (fun a w hF hS => ?_)
      · exact obs_cons (ob_loadA (cs := #[.int .i64 now4, .int .i64 now5, .slice A7 now6.length c7]) (by kernel_rfl) (by kernel_rfl) (fun _ _ hS => (hS.at_ 3 rfl).cellsAt 0 (by rfl))) <| obs_nil
      refine any_share 3 #[true, true, true, true, true, false, false, false] (fun a w => Fr 104 [pl 4 (.pointer (some ⟨g5, 0, none⟩)), pl 5 (.pointer (some ⟨g6, 0, none⟩)), pl 101 (.agg (List.toArray (([] : List Value) ++ (arr1 (Value.int .i64) (0 : Int) 2 taken2 ++ ([] : List Value))))), pl 103 (.int .i64 (moves1.length : Int))] a ∧ Sep w0 B w (blk g5 24 #[.int .i64 now4, .int .i64 now5, .slice A7 now6.length c7] :: blk g6 25 (List.toArray (([] : List Value) ++ (arr1 (Value.int .i64) (0 : Int) 2 (List.replicate 2 (0 : Int)) ++ ([] : List Value)))) :: blk g8 25 (List.toArray (([] : List Value) ++ (arr1 (Value.int .i64) (0 : Int) 2 taken2 ++ ([] : List Value)))) :: blk g9 24 #[.int .i64 now4, .int .i64 now5, .slice A7 now6.length c7] :: pg2 :: fs)) (fun a w hI => ?_) (fun sh20 => ?_)
      · obtain ⟨hF, hS⟩ := hI
        refine any_step [5] (by kernel_rfl) rfl ?_
        refine (all_cons ?_ all_nil)
        · refine any_op (listed' := #[true, true, true, true, true, true, false, false]) (by kernel_rfl) (by kernel_rfl) ?_
          obtain ⟨w, hrun, hS⟩ := run_putA (P := Try.prog) (t := 25) (us := (List.toArray (([] : List Value) ++ (arr1 (Value.int .i64) (0 : Int) 2 taken2 ++ ([] : List Value))))) (o := 0) (hS.at_ 1 rfl) (by kernel_rfl) (all_one (by kernel_rfl)) (Nat.le_of_ble_eq_true (by kernel_rfl))
          refine at_skip hF (by kernel_rfl) hrun ?_
          have hS : Sep w0 B w (blk g5 24 #[.int .i64 now4, .int .i64 now5, .slice A7 now6.length c7] :: blk g6 25 (List.toArray (([] : List Value) ++ (arr1 (Value.int .i64) (0 : Int) 2 taken2 ++ ([] : List Value)))) :: blk g8 25 (List.toArray (([] : List Value) ++ (arr1 (Value.int .i64) (0 : Int) 2 taken2 ++ ([] : List Value)))) :: blk g9 24 #[.int .i64 now4, .int .i64 now5, .slice A7 now6.length c7] :: pg2 :: fs) := hS
          refine any_finE rfl (by decide) ?_
          refine any_step [6] (by kernel_rfl) rfl ?_
          refine (all_cons ?_ all_nil)
          · refine any_op (listed' := #[true, true, true, true, true, true, true, false]) (by kernel_rfl) (by kernel_rfl) ?_
            refine at_runW 1 [] [] [4, 5, 6] [pl 4 (.pointer (some ⟨g5, 0, none⟩)), pl 5 (.pointer (some ⟨g6, 0, none⟩)), pl 6 (.int .i64 (moves1.length : Int))] hF hS (by kernel_rfl) (by kernel_rfl) ?_ (fun a hF => ?_)
            · exact obs_nil
            refine any_finI rfl (fun h => h) ?_
            refine any_step [7] (by kernel_rfl) rfl ?_
            refine (all_cons ?_ all_nil)
            · refine any_op (listed' := #[true, true, true, true, true, true, true, true]) (by kernel_rfl) (by kernel_rfl) ?_
              refine at_runW 1 [] [] [4, 5, 6, 7] [pl 4 (.pointer (some ⟨g5, 0, none⟩)), pl 5 (.pointer (some ⟨g6, 0, none⟩)), pl 6 (.int .i64 (moves1.length : Int)), pl 7 (.int .i64 0)] hF hS (by kernel_rfl) (by kernel_rfl) ?_ (fun a hF => ?_)
              · exact obs_nil
              refine any_finI rfl (fun h => h) ?_
              refine any_end (by kernel_rfl) ?_
              refine np_n ?_
              refine then_n ?_
              have hS := hS.pickN 5 [0, 4, 1] (by decide)
              exact ⟨hF.weak [4, 5, 6, 7] (by kernel_rfl), hS, hm⟩
      refine any_step [1, 4] (by kernel_rfl) rfl ?_
      refine (all_cons ?_ (all_cons ?_ all_nil))
      · refine any_op (listed' := #[true, true, true, true, false, false, false, false]) (by kernel_rfl) (by kernel_rfl) ?_
        refine at_runW 1 [⟨false, [], vS (Instr.loadAt 25 (.pointer (some ⟨g8, 0, none⟩))), .agg (List.toArray (([] : List Value) ++ (arr1 (Value.int .i64) (0 : Int) 2 taken2 ++ ([] : List Value))))⟩] [some (.agg (List.toArray (([] : List Value) ++ (arr1 (Value.int .i64) (0 : Int) 2 taken2 ++ ([] : List Value)))))] [4, 5, 100, 101, 103] [pl 4 (.pointer (some ⟨g5, 0, none⟩)), pl 5 (.pointer (some ⟨g6, 0, none⟩)), pl 100 (.agg #[.int .i64 now4, .int .i64 now5, .slice A7 now6.length c7]), pl 101 (.agg (List.toArray (([] : List Value) ++ (arr1 (Value.int .i64) (0 : Int) 2 taken2 ++ ([] : List Value))))), pl 103 (.int .i64 (moves1.length : Int))] hF hS (by kernel_rfl) (by kernel_rfl) ?_ (fun a hF => ?_)
        · exact obs_cons (ob_loadA (cs := (List.toArray (([] : List Value) ++ (arr1 (Value.int .i64) (0 : Int) 2 taken2 ++ ([] : List Value))))) (by kernel_rfl) (by kernel_rfl) (fun _ _ hS => (hS.at_ 2 rfl).cellsAt 0 (by rfl))) <| obs_nil
        refine any_finI rfl (fun h => h) ?_
        refine any_step [4] (by kernel_rfl) rfl ?_
        refine (all_cons ?_ all_nil)
        · refine any_op (listed' := #[true, true, true, true, true, false, false, false]) (by kernel_rfl) (by kernel_rfl) ?_
          obtain ⟨w, hrun, hS⟩ := run_putA (P := Try.prog) (t := 24) (us := #[.int .i64 now4, .int .i64 now5, .slice A7 now6.length c7]) (o := 0) (hS.at_ 0 rfl) (by kernel_rfl) (all_one (by kernel_rfl)) (Nat.le_of_ble_eq_true (by kernel_rfl))
          refine at_skip hF (by kernel_rfl) hrun ?_
          have hS : Sep w0 B w (blk g5 24 #[.int .i64 now4, .int .i64 now5, .slice A7 now6.length c7] :: blk g6 25 (List.toArray (([] : List Value) ++ (arr1 (Value.int .i64) (0 : Int) 2 (List.replicate 2 (0 : Int)) ++ ([] : List Value)))) :: blk g8 25 (List.toArray (([] : List Value) ++ (arr1 (Value.int .i64) (0 : Int) 2 taken2 ++ ([] : List Value)))) :: blk g9 24 #[.int .i64 now4, .int .i64 now5, .slice A7 now6.length c7] :: pg2 :: fs) := hS
          refine any_finE rfl (by decide) ?_
          exact sh20 _ _ ⟨hF.weak [4, 5, 101, 103] (by kernel_rfl), hS⟩
      · refine any_op (listed' := #[true, false, true, true, true, false, false, false]) (by kernel_rfl) (by kernel_rfl) ?_
        obtain ⟨w, hrun, hS⟩ := run_putA (P := Try.prog) (t := 24) (us := #[.int .i64 now4, .int .i64 now5, .slice A7 now6.length c7]) (o := 0) (hS.at_ 0 rfl) (by kernel_rfl) (all_one (by kernel_rfl)) (Nat.le_of_ble_eq_true (by kernel_rfl))
        refine at_skip hF (by kernel_rfl) hrun ?_
        have hS : Sep w0 B w (blk g5 24 #[.int .i64 now4, .int .i64 now5, .slice A7 now6.length c7] :: blk g6 25 (List.toArray (([] : List Value) ++ (arr1 (Value.int .i64) (0 : Int) 2 (List.replicate 2 (0 : Int)) ++ ([] : List Value)))) :: blk g8 25 (List.toArray (([] : List Value) ++ (arr1 (Value.int .i64) (0 : Int) 2 taken2 ++ ([] : List Value)))) :: blk g9 24 #[.int .i64 now4, .int .i64 now5, .slice A7 now6.length c7] :: pg2 :: fs) := hS
        refine any_finE rfl (by decide) ?_
        refine any_step [1] (by kernel_rfl) rfl ?_
        refine (all_cons ?_ all_nil)
        · refine any_op (listed' := #[true, true, true, true, true, false, false, false]) (by kernel_rfl) (by kernel_rfl) ?_
          refine at_runW 1 [⟨false, [], vS (Instr.loadAt 25 (.pointer (some ⟨g8, 0, none⟩))), .agg (List.toArray (([] : List Value) ++ (arr1 (Value.int .i64) (0 : Int) 2 taken2 ++ ([] : List Value))))⟩] [some (.agg (List.toArray (([] : List Value) ++ (arr1 (Value.int .i64) (0 : Int) 2 taken2 ++ ([] : List Value)))))] [4, 5, 101, 103] [pl 4 (.pointer (some ⟨g5, 0, none⟩)), pl 5 (.pointer (some ⟨g6, 0, none⟩)), pl 101 (.agg (List.toArray (([] : List Value) ++ (arr1 (Value.int .i64) (0 : Int) 2 taken2 ++ ([] : List Value))))), pl 103 (.int .i64 (moves1.length : Int))] hF hS (by kernel_rfl) (by kernel_rfl) ?_ (fun a hF => ?_)
          · exact obs_cons (ob_loadA (cs := (List.toArray (([] : List Value) ++ (arr1 (Value.int .i64) (0 : Int) 2 taken2 ++ ([] : List Value))))) (by kernel_rfl) (by kernel_rfl) (fun _ _ hS => (hS.at_ 2 rfl).cellsAt 0 (by rfl))) <| obs_nil
          refine any_finI rfl (fun h => h) ?_
          exact sh20 _ _ ⟨hF.weak [4, 5, 101, 103] (by kernel_rfl), hS⟩
  · refine reg [] [] [1, 4, 5, 8, 9, 10, 11] [pl 1 (.slice A2 moves1.length c2), pl 4 (.pointer (some ⟨g5, 0, none⟩)), pl 5 (.pointer (some ⟨g6, 0, none⟩)), pl 8 (.slice g7 1 1), pl 9 (.pointer (some ⟨g8, 0, none⟩)), pl 10 (.pointer (some ⟨g9, 0, none⟩)), pl 11 (.int .i64 0)] hF hS Fol (by kernel_rfl) (by kernel_rfl) (by kernel_rfl) ?_ (fun a w hF hS => ?_)
    · exact obs_nil
    refine wpIn_block ?_
    have hl1 := (hS.at_ 3 rfl).lenE encPK24
    have hS := (hS.at_ 3 rfl).reNE hl1
    have hS : Sep w0 B w (blk g9 24 #[.int .i64 r2.1, .int .i64 r2.2.1, .slice A4 r2.2.2.length c4] :: own 3 (.slice A4 r2.2.2.length c4) (vI r2.2.2) :: blk g8 25 (List.toArray (([] : List Value) ++ (arr1 (Value.int .i64) (0 : Int) 2 (List.replicate 2 (0 : Int)) ++ ([] : List Value)))) :: els encP24 Rel24 (twoB (own 3 (.slice A3 r1.2.2.length c3) (vI r1.2.2)) noB) 24 3 g7 (([r1] : List (Int × Int × List Int)).length) 1 ([(r1.1, r1.2.1, (A3, r1.2.2.length, c3))] : List (Int × Int × Hd3)) ([r1] : List (Int × Int × List Int)) :: (twoB (own 3 (.slice A3 r1.2.2.length c3) (vI r1.2.2)) noB) :: blk g6 25 (List.toArray (([] : List Value) ++ (arr1 (Value.int .i64) (0 : Int) 2 (List.replicate 2 (0 : Int)) ++ ([] : List Value)))) :: blk g5 24 #[.int .i64 0, .int .i64 0, .slice none 0 0] :: blk g4 24 #[.int .i64 g1, .int .i64 g2, .slice A1 g3.length c1] :: fs) := hS
    have hF := hF.cast (t := 8) (v := .slice g7 1 1) (v' := .slice g7 (([r1] : List (Int × Int × List Int)).length) 1) rfl rfl (congrArg (fun k => Value.slice g7 k 1) hl1)
    have hc3 := (hS.at_ 1 rfl).cap1
    have hS := hS.pickN 8 [1, 4, 0, 2, 3, 5, 6, 7] (by decide)
    have hS : Sep w0 B w ((twoB (own 3 (.slice A4 r2.2.2.length c4) (vI r2.2.2)) (twoB (own 3 (.slice A3 r1.2.2.length c3) (vI r1.2.2)) noB)) :: blk g9 24 #[.int .i64 r2.1, .int .i64 r2.2.1, .slice A4 r2.2.2.length c4] :: blk g8 25 (List.toArray (([] : List Value) ++ (arr1 (Value.int .i64) (0 : Int) 2 (List.replicate 2 (0 : Int)) ++ ([] : List Value)))) :: els encP24 Rel24 (twoB (own 3 (.slice A3 r1.2.2.length c3) (vI r1.2.2)) noB) 24 3 g7 (([r1] : List (Int × Int × List Int)).length) 1 ([(r1.1, r1.2.1, (A3, r1.2.2.length, c3))] : List (Int × Int × Hd3)) ([r1] : List (Int × Int × List Int)) :: blk g6 25 (List.toArray (([] : List Value) ++ (arr1 (Value.int .i64) (0 : Int) 2 (List.replicate 2 (0 : Int)) ++ ([] : List Value)))) :: blk g5 24 #[.int .i64 0, .int .i64 0, .slice none 0 0] :: blk g4 24 #[.int .i64 g1, .int .i64 g2, .slice A1 g3.length c1] :: fs) := hS.two
    have hS : Sep w0 B w ((twoB (own 3 (.slice A4 r2.2.2.length c4) (vI r2.2.2)) (twoB (own 3 (.slice A3 r1.2.2.length c3) (vI r1.2.2)) noB)) :: blk g9 24 #[.int .i64 r2.1, .int .i64 r2.2.1, .slice A4 r2.2.2.length c4] :: blk g8 25 (List.toArray (([] : List Value) ++ (arr1 (Value.int .i64) (0 : Int) 2 (List.replicate 2 (0 : Int)) ++ ([] : List Value)))) :: els encP24 Rel24 (twoB (own 3 (.slice A4 r2.2.2.length c4) (vI r2.2.2)) (twoB (own 3 (.slice A3 r1.2.2.length c3) (vI r1.2.2)) noB)) 24 3 g7 (([r1] : List (Int × Int × List Int)).length) 1 ([(r1.1, r1.2.1, (A3, r1.2.2.length, c3))] : List (Int × Int × Hd3)) ([r1] : List (Int × Int × List Int)) :: blk g6 25 (List.toArray (([] : List Value) ++ (arr1 (Value.int .i64) (0 : Int) 2 (List.replicate 2 (0 : Int)) ++ ([] : List Value)))) :: blk g5 24 #[.int .i64 0, .int .i64 0, .slice none 0 0] :: blk g4 24 #[.int .i64 g1, .int .i64 g2, .slice A1 g3.length c1] :: fs) := (hS.at_ 3 rfl).elsMono RelP24 PoolLe.right
    have hS : Sep w0 B w ((twoB (own 3 (.slice A4 r2.2.2.length c4) (vI r2.2.2)) (twoB (own 3 (.slice A3 r1.2.2.length c3) (vI r1.2.2)) noB)) :: blk g9 24 #[.int .i64 r2.1, .int .i64 r2.2.1, .slice A4 r2.2.2.length c4] :: blk g8 25 (List.toArray (([] : List Value) ++ (arr1 (Value.int .i64) (0 : Int) 2 (List.replicate 2 (0 : Int)) ++ ([] : List Value)))) :: els encP24 Rel24 (twoB (own 3 (.slice A4 r2.2.2.length c4) (vI r2.2.2)) (twoB (own 3 (.slice A3 r1.2.2.length c3) (vI r1.2.2)) noB)) 24 3 g7 (([r1] : List (Int × Int × List Int)).length) 1 ([(r1.1, r1.2.1, (A3, r1.2.2.length, c3))] : List (Int × Int × Hd3)) ([r1] : List (Int × Int × List Int)) :: blk g6 25 (List.toArray (([] : List Value) ++ (arr1 (Value.int .i64) (0 : Int) 2 (List.replicate 2 (0 : Int)) ++ ([] : List Value)))) :: blk g5 24 #[.int .i64 0, .int .i64 0, .slice none 0 0] :: blk g4 24 #[.int .i64 g1, .int .i64 g2, .slice A1 g3.length c1] :: fs) := hS
    have hS := hS.pickN 7 [5, 4, 0, 3, 2, 1] (by decide)
    refine wp_loop_model (S := (List (Int × Int × List Int) × List Int × Int × Int × List Int × Int)) (R := (Fl (List Int × Int × Int × List Int) (Int × Int × List Int × List Int × Int × Int))) (gameroomref_PlayStones_L1 moves1) (fun x => ((gameroomref_PlayStones_K1 moves1) x).bind some) r (fun (x : (List (Int × Int × List Int) × List Int × Int × Int × List Int × Int)) a w => ∃ (pg1 : HP) (raw1 : List (Int × Int × Hd3)) (A5 : Option Addr) (c5 : Nat) (A6 : Option Addr) (c6 : Nat), Fr 104 [pl 1 (.slice A2 moves1.length c2), pl 4 (.pointer (some ⟨g5, 0, none⟩)), pl 5 (.pointer (some ⟨g6, 0, none⟩)), pl 8 (.slice A5 x.1.length c5), pl 9 (.pointer (some ⟨g8, 0, none⟩)), pl 10 (.pointer (some ⟨g9, 0, none⟩)), pl 11 (.int .i64 x.2.2.2.2.2)] a ∧ Sep w0 B w (blk g5 24 #[.int .i64 0, .int .i64 0, .slice none 0 0] :: blk g6 25 (List.toArray (([] : List Value) ++ (arr1 (Value.int .i64) (0 : Int) 2 (List.replicate 2 (0 : Int)) ++ ([] : List Value)))) :: pg1 :: els encP24 Rel24 pg1 24 3 A5 x.1.length c5 raw1 x.1 :: blk g8 25 (List.toArray (([] : List Value) ++ (arr1 (Value.int .i64) (0 : Int) 2 x.2.1 ++ ([] : List Value)))) :: blk g9 24 #[.int .i64 x.2.2.1, .int .i64 x.2.2.2.1, .slice A6 x.2.2.2.2.1.length c6] :: fs) ∧ PoolW pg1 A6 x.2.2.2.2.1 ∧ x.2.2.2.2.1.length ≤ c6) (assoc_b hm) ⟨(twoB (own 3 (.slice A4 r2.2.2.length c4) (vI r2.2.2)) (twoB (own 3 (.slice A3 r1.2.2.length c3) (vI r1.2.2)) noB)), ([(r1.1, r1.2.1, (A3, r1.2.2.length, c3))] : List (Int × Int × Hd3)), g7, 1, A4, c4, hF.weak [1, 4, 5, 8, 9, 10, 11] (by kernel_rfl), hS, (PoolW.own : PoolW (twoB (own 3 (.slice A4 r2.2.2.length c4) (vI r2.2.2)) (twoB (own 3 (.slice A3 r1.2.2.length c3) (vI r1.2.2)) noB)) A4 r2.2.2), hc3⟩ ?_
    clear hF hS hm
    rintro nn1 ⟨boards1, taken1, now1, now2, now3, i1⟩ a w ⟨pg1, raw1, A5, c5, A6, c6, hF, hS, hp1, hc2⟩ hm
    generalize hφ1 : stK (gameroomref_PlayStones_L1 moves1) nn1 (fun x => ((gameroomref_PlayStones_K1 moves1) x).bind some) = φ1 at hm
    unfold gameroomref_PlayStones_L1 at hm
    dsimp only at hF hS hm
    refine seq_cut (fun a w => Fr 104 [pl 1 (.slice A2 moves1.length c2), pl 4 (.pointer (some ⟨g5, 0, none⟩)), pl 5 (.pointer (some ⟨g6, 0, none⟩)), pl 8 (.slice A5 boards1.length c5), pl 9 (.pointer (some ⟨g8, 0, none⟩)), pl 10 (.pointer (some ⟨g9, 0, none⟩)), pl 11 (.int .i64 i1)] a ∧ Sep w0 B w (blk g5 24 #[.int .i64 0, .int .i64 0, .slice none 0 0] :: blk g6 25 (List.toArray (([] : List Value) ++ (arr1 (Value.int .i64) (0 : Int) 2 (List.replicate 2 (0 : Int)) ++ ([] : List Value)))) :: pg1 :: els encP24 Rel24 pg1 24 3 A5 boards1.length c5 raw1 boards1 :: blk g8 25 (List.toArray (([] : List Value) ++ (arr1 (Value.int .i64) (0 : Int) 2 taken1 ++ ([] : List Value)))) :: blk g9 24 #[.int .i64 now1, .int .i64 now2, .slice A6 now3.length c6] :: fs) ∧ ((gameroomref_PlayStones_J2 moves1 boards1 taken1 now1 now2 now3 i1)).bind φ1 = some r) ?_ ?_
    · rintro a w ⟨hF, hS, hm⟩
      unfold gameroomref_PlayStones_J2 at hm
      refine seq_cut (fun a w => ∃ (boards2 : List (Int × Int × List Int)) (taken3 : List Int) (now7 : Int) (now8 : Int) (now9 : List Int) (pg3 : HP) (raw2 : List (Int × Int × Hd3)) (A8 : Option Addr) (c8 : Nat) (A9 : Option Addr) (c9 : Nat), Fr 104 [pl 1 (.slice A2 moves1.length c2), pl 4 (.pointer (some ⟨g5, 0, none⟩)), pl 5 (.pointer (some ⟨g6, 0, none⟩)), pl 8 (.slice A8 boards2.length c8), pl 9 (.pointer (some ⟨g8, 0, none⟩)), pl 10 (.pointer (some ⟨g9, 0, none⟩)), pl 11 (.int .i64 i1)] a ∧ Sep w0 B w (blk g5 24 #[.int .i64 0, .int .i64 0, .slice none 0 0] :: blk g6 25 (List.toArray (([] : List Value) ++ (arr1 (Value.int .i64) (0 : Int) 2 (List.replicate 2 (0 : Int)) ++ ([] : List Value)))) :: pg3 :: els encP24 Rel24 pg3 24 3 A8 boards2.length c8 raw2 boards2 :: blk g8 25 (List.toArray (([] : List Value) ++ (arr1 (Value.int .i64) (0 : Int) 2 taken3 ++ ([] : List Value)))) :: blk g9 24 #[.int .i64 now7, .int .i64 now8, .slice A9 now9.length c9] :: fs) ∧ PoolW pg3 A9 now9 ∧ now9.length ≤ c9 ∧ ((gameroomref_PlayStones_J3 i1) boards2 taken3 now7 now8 now9).bind φ1 = some r) ?_ ?_
      · rintro a w ⟨boards2, taken3, now7, now8, now9, pg3, raw2, A8, c8, A9, c9, hF, hS, hp6, hc5, hm⟩
        unfold gameroomref_PlayStones_J3 at hm
        refine reg1 [] [] [1, 4, 5, 8, 9, 10, 11] [pl 1 (.slice A2 moves1.length c2), pl 4 (.pointer (some ⟨g5, 0, none⟩)), pl 5 (.pointer (some ⟨g6, 0, none⟩)), pl 8 (.slice A8 boards2.length c8), pl 9 (.pointer (some ⟨g8, 0, none⟩)), pl 10 (.pointer (some ⟨g9, 0, none⟩)), pl 11 (.int .i64 (w64 (i1 + 1)))] hF hS Fol (by kernel_rfl) (by kernel_rfl) (by kernel_rfl) ?_ (fun a w hF hS => ?_)
        · exact obs_nil
        refine then_n ?_
        have hS : Sep w0 B w (blk g5 24 #[.int .i64 0, .int .i64 0, .slice none 0 0] :: blk g6 25 (List.toArray (([] : List Value) ++ (arr1 (Value.int .i64) (0 : Int) 2 (List.replicate 2 (0 : Int)) ++ ([] : List Value)))) :: pg3 :: els encP24 Rel24 pg3 24 3 A8 boards2.length c8 raw2 boards2 :: blk g8 25 (List.toArray (([] : List Value) ++ (arr1 (Value.int .i64) (0 : Int) 2 taken3 ++ ([] : List Value)))) :: blk g9 24 #[.int .i64 now7, .int .i64 now8, .slice A9 now9.length c9] :: fs) := hS
        rw [← hφ1] at hm
        exact ⟨(boards2, taken3, now7, now8, now9, (w64 (i1 + 1))), ⟨pg3, raw2, A8, c8, A9, c9, hF.weak [1, 4, 5, 8, 9, 10, 11] (by kernel_rfl), hS, hp6, hc5⟩, hm⟩
      · refine wpIn_block ?_
        refine seq_cut (fun a w => Fr 104 [pl 1 (.slice A2 moves1.length c2), pl 4 (.pointer (some ⟨g5, 0, none⟩)), pl 5 (.pointer (some ⟨g6, 0, none⟩)), pl 8 (.slice A5 boards1.length c5), pl 9 (.pointer (some ⟨g8, 0, none⟩)), pl 10 (.pointer (some ⟨g9, 0, none⟩)), pl 11 (.int .i64 i1)] a ∧ Sep w0 B w (blk g5 24 #[.int .i64 0, .int .i64 0, .slice none 0 0] :: blk g6 25 (List.toArray (([] : List Value) ++ (arr1 (Value.int .i64) (0 : Int) 2 (List.replicate 2 (0 : Int)) ++ ([] : List Value)))) :: pg1 :: els encP24 Rel24 pg1 24 3 A5 boards1.length c5 raw1 boards1 :: blk g8 25 (List.toArray (([] : List Value) ++ (arr1 (Value.int .i64) (0 : Int) 2 taken1 ++ ([] : List Value)))) :: blk g9 24 #[.int .i64 now1, .int .i64 now2, .slice A6 now3.length c6] :: fs) ∧ ((gameroomref_PlayStones_J4 moves1 boards1 taken1 now1 now2 now3 i1)).bind φ1 = some r) ?_ ?_
        · rintro a w ⟨hF, hS, hm⟩
          unfold gameroomref_PlayStones_J4 at hm
          refine seq_cut (fun a w => Fr 104 [pl 1 (.slice A2 moves1.length c2), pl 4 (.pointer (some ⟨g5, 0, none⟩)), pl 5 (.pointer (some ⟨g6, 0, none⟩)), pl 8 (.slice A5 boards1.length c5), pl 9 (.pointer (some ⟨g8, 0, none⟩)), pl 10 (.pointer (some ⟨g9, 0, none⟩)), pl 11 (.int .i64 i1)] a ∧ Sep w0 B w (blk g5 24 #[.int .i64 0, .int .i64 0, .slice none 0 0] :: blk g6 25 (List.toArray (([] : List Value) ++ (arr1 (Value.int .i64) (0 : Int) 2 (List.replicate 2 (0 : Int)) ++ ([] : List Value)))) :: pg1 :: els encP24 Rel24 pg1 24 3 A5 boards1.length c5 raw1 boards1 :: blk g8 25 (List.toArray (([] : List Value) ++ (arr1 (Value.int .i64) (0 : Int) 2 taken1 ++ ([] : List Value)))) :: blk g9 24 #[.int .i64 now1, .int .i64 now2, .slice A6 now3.length c6] :: fs) ∧ ((gameroomref_PlayStones_J6 moves1 boards1 taken1 now1 now2 now3 i1)).bind φ1 = some r) ?_ ?_
          · rintro a w ⟨hF, hS, hm⟩
            unfold gameroomref_PlayStones_J6 at hm
            refine seq_cut (fun a w => ∃ (next1 : Int) (next2 : Int) (next3 : List Int) (n3 : Int) (e1 : Int) (g11 : Nat) (A12 : Option Addr) (c12 : Nat), Fr 104 [pl 1 (.slice A2 moves1.length c2), pl 4 (.pointer (some ⟨g5, 0, none⟩)), pl 5 (.pointer (some ⟨g6, 0, none⟩)), pl 8 (.slice A5 boards1.length c5), pl 9 (.pointer (some ⟨g8, 0, none⟩)), pl 10 (.pointer (some ⟨g9, 0, none⟩)), pl 11 (.int .i64 i1), pl 12 (.pointer (some ⟨g11, 0, none⟩)), pl 13 (.int .i64 n3), pl 14 (.int .i64 e1)] a ∧ Sep w0 B w (blk g5 24 #[.int .i64 0, .int .i64 0, .slice none 0 0] :: blk g6 25 (List.toArray (([] : List Value) ++ (arr1 (Value.int .i64) (0 : Int) 2 (List.replicate 2 (0 : Int)) ++ ([] : List Value)))) :: pg1 :: els encP24 Rel24 pg1 24 3 A5 boards1.length c5 raw1 boards1 :: blk g8 25 (List.toArray (([] : List Value) ++ (arr1 (Value.int .i64) (0 : Int) 2 taken1 ++ ([] : List Value)))) :: blk g9 24 #[.int .i64 now1, .int .i64 now2, .slice A6 now3.length c6] :: blk g11 24 #[.int .i64 next1, .int .i64 next2, .slice A12 next3.length c12] :: own 3 (.slice A12 next3.length c12) (vI next3) :: fs) ∧ ((gameroomref_PlayStones_J7 boards1 taken1 now1 now2 now3 i1) next1 next2 next3 n3 e1).bind φ1 = some r) ?_ ?_
            · rintro a w ⟨next1, next2, next3, n3, e1, g11, A12, c12, hF, hS, hm⟩
              unfold gameroomref_PlayStones_J7 at hm
              refine seq_cut (fun a w => ∃ (e3 : Int), Fr 104 [pl 1 (.slice A2 moves1.length c2), pl 4 (.pointer (some ⟨g5, 0, none⟩)), pl 5 (.pointer (some ⟨g6, 0, none⟩)), pl 8 (.slice A5 boards1.length c5), pl 9 (.pointer (some ⟨g8, 0, none⟩)), pl 10 (.pointer (some ⟨g9, 0, none⟩)), pl 11 (.int .i64 i1), pl 12 (.pointer (some ⟨g11, 0, none⟩)), pl 13 (.int .i64 n3), pl 14 (.int .i64 e3)] a ∧ Sep w0 B w (blk g5 24 #[.int .i64 0, .int .i64 0, .slice none 0 0] :: blk g6 25 (List.toArray (([] : List Value) ++ (arr1 (Value.int .i64) (0 : Int) 2 (List.replicate 2 (0 : Int)) ++ ([] : List Value)))) :: pg1 :: els encP24 Rel24 pg1 24 3 A5 boards1.length c5 raw1 boards1 :: blk g8 25 (List.toArray (([] : List Value) ++ (arr1 (Value.int .i64) (0 : Int) 2 taken1 ++ ([] : List Value)))) :: blk g9 24 #[.int .i64 now1, .int .i64 now2, .slice A6 now3.length c6] :: blk g11 24 #[.int .i64 next1, .int .i64 next2, .slice A12 next3.length c12] :: own 3 (.slice A12 next3.length c12) (vI next3) :: fs) ∧ ((gameroomref_PlayStones_J8 boards1 taken1 now1 now2 now3 i1 next1 next2 next3 n3) e3).bind φ1 = some r) ?_ ?_
              · rintro a w ⟨e3, hF, hS, hm⟩
                unfold gameroomref_PlayStones_J8 at hm
                refine seq_cut (fun a w => Fr 104 [pl 1 (.slice A2 moves1.length c2), pl 4 (.pointer (some ⟨g5, 0, none⟩)), pl 5 (.pointer (some ⟨g6, 0, none⟩)), pl 8 (.slice A5 boards1.length c5), pl 9 (.pointer (some ⟨g8, 0, none⟩)), pl 10 (.pointer (some ⟨g9, 0, none⟩)), pl 11 (.int .i64 i1), pl 12 (.pointer (some ⟨g11, 0, none⟩)), pl 13 (.int .i64 n3)] a ∧ Sep w0 B w (blk g5 24 #[.int .i64 0, .int .i64 0, .slice none 0 0] :: blk g6 25 (List.toArray (([] : List Value) ++ (arr1 (Value.int .i64) (0 : Int) 2 (List.replicate 2 (0 : Int)) ++ ([] : List Value)))) :: pg1 :: els encP24 Rel24 pg1 24 3 A5 boards1.length c5 raw1 boards1 :: blk g8 25 (List.toArray (([] : List Value) ++ (arr1 (Value.int .i64) (0 : Int) 2 taken1 ++ ([] : List Value)))) :: blk g9 24 #[.int .i64 now1, .int .i64 now2, .slice A6 now3.length c6] :: blk g11 24 #[.int .i64 next1, .int .i64 next2, .slice A12 next3.length c12] :: own 3 (.slice A12 next3.length c12) (vI next3) :: fs) ∧ ((gameroomref_PlayStones_J11 boards1 taken1 i1 next1 next2 next3 n3)).bind φ1 = some r) ?_ ?_
                · rintro a w ⟨hF, hS, hm⟩
                  unfold gameroomref_PlayStones_J11 at hm
                  refine seqR ?_
                  obtain ⟨hp9, hm⟩ := asrt_b hm
                  refine at_run 2 [⟨false, [], vS (Instr.loadAt 24 (.pointer (some ⟨g11, 0, none⟩))), .agg #[.int .i64 next1, .int .i64 next2, .slice A12 next3.length c12]⟩] [none, some (.agg #[.int .i64 next1, .int .i64 next2, .slice A12 next3.length c12])] [1, 4, 5, 9, 10, 11, 12, 13, 88, 89] [pl 1 (.slice A2 moves1.length c2), pl 4 (.pointer (some ⟨g5, 0, none⟩)), pl 5 (.pointer (some ⟨g6, 0, none⟩)), pl 9 (.pointer (some ⟨g8, 0, none⟩)), pl 10 (.pointer (some ⟨g9, 0, none⟩)), pl 11 (.int .i64 i1), pl 12 (.pointer (some ⟨g11, 0, none⟩)), pl 13 (.int .i64 n3), pl 88 (.slice A5 boards1.length c5), pl 89 (.agg #[.int .i64 next1, .int .i64 next2, .slice A12 next3.length c12])] hF hS (by kernel_rfl) (by kernel_rfl) ?_ (fun a w hF hS => ?_)
                  · exact obs_cons (ob_loadA (cs := #[.int .i64 next1, .int .i64 next2, .slice A12 next3.length c12]) (by kernel_rfl) (by kernel_rfl) (fun _ _ hS => (hS.at_ 6 rfl).cellsAt 0 (by rfl))) <| obs_nil
                  have hc6 := (hS.at_ 7 rfl).cap1
                  have hS := hS.pickN 8 [7, 2, 0, 1, 3, 4, 5, 6] (by decide)
                  have hS : Sep w0 B w ((twoB (own 3 (.slice A12 next3.length c12) (vI next3)) pg1) :: blk g5 24 #[.int .i64 0, .int .i64 0, .slice none 0 0] :: blk g6 25 (List.toArray (([] : List Value) ++ (arr1 (Value.int .i64) (0 : Int) 2 (List.replicate 2 (0 : Int)) ++ ([] : List Value)))) :: els encP24 Rel24 pg1 24 3 A5 boards1.length c5 raw1 boards1 :: blk g8 25 (List.toArray (([] : List Value) ++ (arr1 (Value.int .i64) (0 : Int) 2 taken1 ++ ([] : List Value)))) :: blk g9 24 #[.int .i64 now1, .int .i64 now2, .slice A6 now3.length c6] :: blk g11 24 #[.int .i64 next1, .int .i64 next2, .slice A12 next3.length c12] :: fs) := hS.two
                  have hS : Sep w0 B w ((twoB (own 3 (.slice A12 next3.length c12) (vI next3)) pg1) :: blk g5 24 #[.int .i64 0, .int .i64 0, .slice none 0 0] :: blk g6 25 (List.toArray (([] : List Value) ++ (arr1 (Value.int .i64) (0 : Int) 2 (List.replicate 2 (0 : Int)) ++ ([] : List Value)))) :: els encP24 Rel24 (twoB (own 3 (.slice A12 next3.length c12) (vI next3)) pg1) 24 3 A5 boards1.length c5 raw1 boards1 :: blk g8 25 (List.toArray (([] : List Value) ++ (arr1 (Value.int .i64) (0 : Int) 2 taken1 ++ ([] : List Value)))) :: blk g9 24 #[.int .i64 now1, .int .i64 now2, .slice A6 now3.length c6] :: blk g11 24 #[.int .i64 next1, .int .i64 next2, .slice A12 next3.length c12] :: fs) := (hS.at_ 3 rfl).elsMono RelP24 PoolLe.right
                  refine at_do (d := 90) (s := vS (Instr.buildSlice 81 1 #[(0, .agg #[.int .i64 next1, .int .i64 next2, .slice A12 next3.length c12])])) (v := .slice (some ⟨w.heap.size, 0, none⟩) 1 1) (w' := w.alloc (.cells #[.int .i64 next1, .int .i64 next2, .slice A12 next3.length c12] 24)) hF (by kernel_rfl) (by kernel_rfl) (by kernel_rfl) (fun a hF => ?_)
                  have hS : Sep w0 B (w.alloc (.cells #[.int .i64 next1, .int .i64 next2, .slice A12 next3.length c12] 24)) (els encP24 Rel24 (twoB (own 3 (.slice A12 next3.length c12) (vI next3)) pg1) 24 3 (some (⟨w.heap.size, 0, none⟩ : Addr)) 1 1 ([(next1, next2, (A12, next3.length, c12))] : List (Int × Int × Hd3)) ([(next1, next2, next3)] : List (Int × Int × List Int)) :: ((twoB (own 3 (.slice A12 next3.length c12) (vI next3)) pg1) :: blk g5 24 #[.int .i64 0, .int .i64 0, .slice none 0 0] :: blk g6 25 (List.toArray (([] : List Value) ++ (arr1 (Value.int .i64) (0 : Int) 2 (List.replicate 2 (0 : Int)) ++ ([] : List Value)))) :: els encP24 Rel24 (twoB (own 3 (.slice A12 next3.length c12) (vI next3)) pg1) 24 3 A5 boards1.length c5 raw1 boards1 :: blk g8 25 (List.toArray (([] : List Value) ++ (arr1 (Value.int .i64) (0 : Int) 2 taken1 ++ ([] : List Value)))) :: blk g9 24 #[.int .i64 now1, .int .i64 now2, .slice A6 now3.length c6] :: blk g11 24 #[.int .i64 next1, .int .i64 next2, .slice A12 next3.length c12] :: fs)) := Sep.ownEls' (l := []) (hS.litK 24 3 #[.int .i64 next1, .int .i64 next2, .slice A12 next3.length c12] 1 rfl (by omega)) rfl (PAll.cons ⟨rfl, rfl, SlR.of (PoolW.own : PoolW (twoB (own 3 (.slice A12 next3.length c12) (vI next3)) pg1) A12 next3) hc6⟩ (PAll.nil : PAll Rel24 (twoB (own 3 (.slice A12 next3.length c12) (vI next3)) pg1) ([] : List (Int × Int × Hd3)) ([] : List (Int × Int × List Int))))
                  generalize (some (⟨w.heap.size, 0, none⟩ : Addr)) = g12 at hF hS
                  generalize w.alloc (.cells #[.int .i64 next1, .int .i64 next2, .slice A12 next3.length c12] 24) = w at hS ⊢
                  obtain ⟨A14, c14, w, hrun, hS⟩ := run_appE (P := Try.prog) (t := 81) (ys := ([(next1, next2, (A12, next3.length, c12))] : List (Int × Int × Hd3))) (my := ([(next1, next2, next3)] : List (Int × Int × List Int))) (A2 := g12) (m2 := 1) (c2 := 1) encPK24 (hS.at_ 4 rfl) (hS.at_ 0 rfl).rdE (hS.at_ 0 rfl).elsAll ((hS.at_ 0 rfl).lenEr encPK24) 81 Und81 hi24 hz24 hs24 rfl (by omega) hp9
                  have hS : Sep w0 B w (els encP24 Rel24 (twoB (own 3 (.slice A12 next3.length c12) (vI next3)) pg1) 24 3 g12 1 1 ([(next1, next2, (A12, next3.length, c12))] : List (Int × Int × Hd3)) ([(next1, next2, next3)] : List (Int × Int × List Int)) :: (twoB (own 3 (.slice A12 next3.length c12) (vI next3)) pg1) :: blk g5 24 #[.int .i64 0, .int .i64 0, .slice none 0 0] :: blk g6 25 (List.toArray (([] : List Value) ++ (arr1 (Value.int .i64) (0 : Int) 2 (List.replicate 2 (0 : Int)) ++ ([] : List Value)))) :: els encP24 Rel24 (twoB (own 3 (.slice A12 next3.length c12) (vI next3)) pg1) 24 3 A14 ((boards1 ++ ([(next1, next2, next3)] : List (Int × Int × List Int))).length) c14 (raw1 ++ ([(next1, next2, (A12, next3.length, c12))] : List (Int × Int × Hd3))) (boards1 ++ ([(next1, next2, next3)] : List (Int × Int × List Int))) :: blk g8 25 (List.toArray (([] : List Value) ++ (arr1 (Value.int .i64) (0 : Int) 2 taken1 ++ ([] : List Value)))) :: blk g9 24 #[.int .i64 now1, .int .i64 now2, .slice A6 now3.length c6] :: blk g11 24 #[.int .i64 next1, .int .i64 next2, .slice A12 next3.length c12] :: fs) := hS
                  refine at_do (d := 91) hF (by kernel_rfl) (by kernel_rfl) hrun (fun a hF => ?_)
                  refine at_run 1 [] [] [1, 4, 5, 8, 9, 10, 11, 12, 13] [pl 1 (.slice A2 moves1.length c2), pl 4 (.pointer (some ⟨g5, 0, none⟩)), pl 5 (.pointer (some ⟨g6, 0, none⟩)), pl 8 (.slice A14 ((boards1 ++ ([(next1, next2, next3)] : List (Int × Int × List Int))).length) c14), pl 9 (.pointer (some ⟨g8, 0, none⟩)), pl 10 (.pointer (some ⟨g9, 0, none⟩)), pl 11 (.int .i64 i1), pl 12 (.pointer (some ⟨g11, 0, none⟩)), pl 13 (.int .i64 n3)] hF hS (by kernel_rfl) (by kernel_rfl) ?_ (fun a w hF hS => ?_)
                  · exact obs_nil
                  refine at_end [1, 4, 5, 8, 9, 10, 11, 12, 13] [pl 1 (.slice A2 moves1.length c2), pl 4 (.pointer (some ⟨g5, 0, none⟩)), pl 5 (.pointer (some ⟨g6, 0, none⟩)), pl 8 (.slice A14 ((boards1 ++ ([(next1, next2, next3)] : List (Int × Int × List Int))).length) c14), pl 9 (.pointer (some ⟨g8, 0, none⟩)), pl 10 (.pointer (some ⟨g9, 0, none⟩)), pl 11 (.int .i64 i1), pl 12 (.pointer (some ⟨g11, 0, none⟩)), pl 13 (.int .i64 n3)] hF rfl (by kernel_rfl) (fun hF => ?_)
                  refine then_n ?_
                  refine seqR ?_
                  refine at_run 1 [⟨false, [], vS (Instr.loadAt 24 (.pointer (some ⟨g11, 0, none⟩))), .agg #[.int .i64 next1, .int .i64 next2, .slice A12 next3.length c12]⟩] [some (.agg #[.int .i64 next1, .int .i64 next2, .slice A12 next3.length c12])] [1, 4, 5, 8, 9, 10, 11, 13, 92] [pl 1 (.slice A2 moves1.length c2), pl 4 (.pointer (some ⟨g5, 0, none⟩)), pl 5 (.pointer (some ⟨g6, 0, none⟩)), pl 8 (.slice A14 ((boards1 ++ ([(next1, next2, next3)] : List (Int × Int × List Int))).length) c14), pl 9 (.pointer (some ⟨g8, 0, none⟩)), pl 10 (.pointer (some ⟨g9, 0, none⟩)), pl 11 (.int .i64 i1), pl 13 (.int .i64 n3), pl 92 (.agg #[.int .i64 next1, .int .i64 next2, .slice A12 next3.length c12])] hF hS (by kernel_rfl) (by kernel_rfl) ?_ (fun a w hF hS => ?_)
                  · exact obs_cons (ob_loadA (cs := #[.int .i64 next1, .int .i64 next2, .slice A12 next3.length c12]) (by kernel_rfl) (by kernel_rfl) (fun _ _ hS => (hS.at_ 7 rfl).cellsAt 0 (by rfl))) <| obs_nil
                  obtain ⟨w, hrun, hS⟩ := run_putA (P := Try.prog) (t := 24) (us := #[.int .i64 next1, .int .i64 next2, .slice A12 next3.length c12]) (o := 0) (hS.at_ 6 rfl) (by kernel_rfl) (all_one (by kernel_rfl)) (Nat.le_of_ble_eq_true (by kernel_rfl))
                  refine at_skip hF (by kernel_rfl) hrun ?_
                  have hS : Sep w0 B w (els encP24 Rel24 (twoB (own 3 (.slice A12 next3.length c12) (vI next3)) pg1) 24 3 g12 1 1 ([(next1, next2, (A12, next3.length, c12))] : List (Int × Int × Hd3)) ([(next1, next2, next3)] : List (Int × Int × List Int)) :: (twoB (own 3 (.slice A12 next3.length c12) (vI next3)) pg1) :: blk g5 24 #[.int .i64 0, .int .i64 0, .slice none 0 0] :: blk g6 25 (List.toArray (([] : List Value) ++ (arr1 (Value.int .i64) (0 : Int) 2 (List.replicate 2 (0 : Int)) ++ ([] : List Value)))) :: els encP24 Rel24 (twoB (own 3 (.slice A12 next3.length c12) (vI next3)) pg1) 24 3 A14 ((boards1 ++ ([(next1, next2, next3)] : List (Int × Int × List Int))).length) c14 (raw1 ++ ([(next1, next2, (A12, next3.length, c12))] : List (Int × Int × Hd3))) (boards1 ++ ([(next1, next2, next3)] : List (Int × Int × List Int))) :: blk g8 25 (List.toArray (([] : List Value) ++ (arr1 (Value.int .i64) (0 : Int) 2 taken1 ++ ([] : List Value)))) :: blk g9 24 #[.int .i64 next1, .int .i64 next2, .slice A12 next3.length c12] :: blk g11 24 #[.int .i64 next1, .int .i64 next2, .slice A12 next3.length c12] :: fs) := hS
                  refine at_end [1, 4, 5, 8, 9, 10, 11, 13] [pl 1 (.slice A2 moves1.length c2), pl 4 (.pointer (some ⟨g5, 0, none⟩)), pl 5 (.pointer (some ⟨g6, 0, none⟩)), pl 8 (.slice A14 ((boards1 ++ ([(next1, next2, next3)] : List (Int × Int × List Int))).length) c14), pl 9 (.pointer (some ⟨g8, 0, none⟩)), pl 10 (.pointer (some ⟨g9, 0, none⟩)), pl 11 (.int .i64 i1), pl 13 (.int .i64 n3)] hF rfl (by kernel_rfl) (fun hF => ?_)
                  refine then_n ?_
                  refine oneR ?_
                  obtain ⟨hp10, hm⟩ := asrt_b hm
                  obtain ⟨hp11, hm⟩ := asrt_b hm
                  obtain ⟨hp12, hm⟩ := asrt_b hm
                  refine at_run 7 [⟨true, [], vS (Instr.indexAt 25 (.pointer (some ⟨g8, 0, none⟩)) (.int .i64 (Int.tmod i1 2))), .pointer (some ((⟨g8, 0, none⟩ : Addr).add (Int.toNat (Int.tmod i1 2) * 1)))⟩, ⟨false, [], vS (Instr.loadAt 3 (.pointer (some ((⟨g8, 0, none⟩ : Addr).add (Int.toNat (Int.tmod i1 2) * 1))))), .int .i64 (geti taken1 (Int.tmod i1 2))⟩, ⟨true, [], vS (Instr.indexAt 25 (.pointer (some ⟨g8, 0, none⟩)) (.int .i64 (Int.tmod i1 2))), .pointer (some ((⟨g8, 0, none⟩ : Addr).add (Int.toNat (Int.tmod i1 2) * 1)))⟩] [none, none, some (.pointer (some ((⟨g8, 0, none⟩ : Addr).add (Int.toNat (Int.tmod i1 2) * 1)))), some (.int .i64 (geti taken1 (Int.tmod i1 2))), none, none, some (.pointer (some ((⟨g8, 0, none⟩ : Addr).add (Int.toNat (Int.tmod i1 2) * 1))))] [1, 4, 5, 8, 9, 10, 11, 98, 99] [pl 1 (.slice A2 moves1.length c2), pl 4 (.pointer (some ⟨g5, 0, none⟩)), pl 5 (.pointer (some ⟨g6, 0, none⟩)), pl 8 (.slice A14 ((boards1 ++ ([(next1, next2, next3)] : List (Int × Int × List Int))).length) c14), pl 9 (.pointer (some ⟨g8, 0, none⟩)), pl 10 (.pointer (some ⟨g9, 0, none⟩)), pl 11 (.int .i64 i1), pl 98 (.int .i64 (w64 ((geti taken1 (Int.tmod i1 2)) + n3))), pl 99 (.pointer (some ((⟨g8, 0, none⟩ : Addr).add (Int.toNat (Int.tmod i1 2) * 1))))] hF hS (by kernel_rfl) (by kernel_rfl) ?_ (fun a w hF hS => ?_)
                  · exact obs_cons (ob_ixA UndA25 hi3 hs3 (fun _ => hp10)) <| obs_cons (ob_getA (m := taken1) (Value.int .i64) (0 : Int) 2 ([] : List Value) ([] : List Value) (Int.tmod i1 2) Agg3 rfl (fun _ hS => ⟨_, _, _, _, _, hS.at_ 5 rfl⟩) (fun hy => by have h0 := hp10; omega)) <| obs_cons (ob_ixA UndA25 hi3 hs3 (fun _ => hp11)) <| obs_nil
                  obtain ⟨w, hrun, hS⟩ := run_setA (P := Try.prog) (t := 3) (x := (w64 ((geti taken1 (Int.tmod i1 2)) + n3))) (i := (Int.tmod i1 2)) (m := taken1) (d := Int.toNat (Int.tmod i1 2) * 1) (Value.int .i64) (0 : Int) 2 ([] : List Value) ([] : List Value) (hS.at_ 5 rfl) rfl hi3 hs3 rfl (by have h0 := hp11; omega) (by have h0 := hp11; have h9 := hp12; omega)
                  refine at_skip hF (by kernel_rfl) hrun ?_
                  have hS : Sep w0 B w (els encP24 Rel24 (twoB (own 3 (.slice A12 next3.length c12) (vI next3)) pg1) 24 3 g12 1 1 ([(next1, next2, (A12, next3.length, c12))] : List (Int × Int × Hd3)) ([(next1, next2, next3)] : List (Int × Int × List Int)) :: (twoB (own 3 (.slice A12 next3.length c12) (vI next3)) pg1) :: blk g5 24 #[.int .i64 0, .int .i64 0, .slice none 0 0] :: blk g6 25 (List.toArray (([] : List Value) ++ (arr1 (Value.int .i64) (0 : Int) 2 (List.replicate 2 (0 : Int)) ++ ([] : List Value)))) :: els encP24 Rel24 (twoB (own 3 (.slice A12 next3.length c12) (vI next3)) pg1) 24 3 A14 ((boards1 ++ ([(next1, next2, next3)] : List (Int × Int × List Int))).length) c14 (raw1 ++ ([(next1, next2, (A12, next3.length, c12))] : List (Int × Int × Hd3))) (boards1 ++ ([(next1, next2, next3)] : List (Int × Int × List Int))) :: blk g8 25 (List.toArray (([] : List Value) ++ (arr1 (Value.int .i64) (0 : Int) 2 (taken1.set (Int.toNat (Int.tmod i1 2)) (w64 ((geti taken1 (Int.tmod i1 2)) + n3))) ++ ([] : List Value)))) :: blk g9 24 #[.int .i64 next1, .int .i64 next2, .slice A12 next3.length c12] :: blk g11 24 #[.int .i64 next1, .int .i64 next2, .slice A12 next3.length c12] :: fs) := hS
                  refine at_end [1, 4, 5, 8, 9, 10, 11] [pl 1 (.slice A2 moves1.length c2), pl 4 (.pointer (some ⟨g5, 0, none⟩)), pl 5 (.pointer (some ⟨g6, 0, none⟩)), pl 8 (.slice A14 ((boards1 ++ ([(next1, next2, next3)] : List (Int × Int × List Int))).length) c14), pl 9 (.pointer (some ⟨g8, 0, none⟩)), pl 10 (.pointer (some ⟨g9, 0, none⟩)), pl 11 (.int .i64 i1)] hF rfl (by kernel_rfl) (fun hF => ?_)
                  refine block_n ?_
                  refine then_n ?_
                  have hS : Sep w0 B w (els encP24 Rel24 (twoB (own 3 (.slice A12 next3.length c12) (vI next3)) pg1) 24 3 g12 1 1 ([(next1, next2, (A12, next3.length, c12))] : List (Int × Int × Hd3)) ([(next1, next2, next3)] : List (Int × Int × List Int)) :: (twoB (own 3 (.slice A12 next3.length c12) (vI next3)) pg1) :: blk g5 24 #[.int .i64 0, .int .i64 0, .slice none 0 0] :: blk g6 25 (List.toArray (([] : List Value) ++ (arr1 (Value.int .i64) (0 : Int) 2 (List.replicate 2 (0 : Int)) ++ ([] : List Value)))) :: els encP24 Rel24 (twoB (own 3 (.slice A12 next3.length c12) (vI next3)) pg1) 24 3 A14 ((boards1 ++ ([(next1, next2, next3)] : List (Int × Int × List Int))).length) c14 (raw1 ++ ([(next1, next2, (A12, next3.length, c12))] : List (Int × Int × Hd3))) (boards1 ++ ([(next1, next2, next3)] : List (Int × Int × List Int))) :: blk g8 25 (List.toArray (([] : List Value) ++ (arr1 (Value.int .i64) (0 : Int) 2 (taken1.set (Int.toNat (Int.tmod i1 2)) (w64 ((geti taken1 (Int.tmod i1 2)) + n3))) ++ ([] : List Value)))) :: blk g9 24 #[.int .i64 next1, .int .i64 next2, .slice A12 next3.length c12] :: blk g11 24 #[.int .i64 next1, .int .i64 next2, .slice A12 next3.length c12] :: fs) := hS
                  have hS := hS.pickN 8 [2, 3, 1, 4, 5, 6] (by decide)
                  exact ⟨(boards1 ++ ([(next1, next2, next3)] : List (Int × Int × List Int))), (taken1.set (Int.toNat (Int.tmod i1 2)) (w64 ((geti taken1 (Int.tmod i1 2)) + n3))), next1, next2, next3, (twoB (own 3 (.slice A12 next3.length c12) (vI next3)) pg1), (raw1 ++ ([(next1, next2, (A12, next3.length, c12))] : List (Int × Int × Hd3))), A14, c14, A12, c12, hF.weak [1, 4, 5, 8, 9, 10, 11] (by kernel_rfl), hS, (PoolW.own : PoolW (twoB (own 3 (.slice A12 next3.length c12) (vI next3)) pg1) A12 next3), hc6, hm⟩
                · refine reg [] [] [1, 4, 5, 8, 9, 10, 11, 12, 13, 14, 83] [pl 1 (.slice A2 moves1.length c2), pl 4 (.pointer (some ⟨g5, 0, none⟩)), pl 5 (.pointer (some ⟨g6, 0, none⟩)), pl 8 (.slice A5 boards1.length c5), pl 9 (.pointer (some ⟨g8, 0, none⟩)), pl 10 (.pointer (some ⟨g9, 0, none⟩)), pl 11 (.int .i64 i1), pl 12 (.pointer (some ⟨g11, 0, none⟩)), pl 13 (.int .i64 n3), pl 14 (.int .i64 e3), pl 83 (.bool (e3 != 0))] hF hS Fol (by kernel_rfl) (by kernel_rfl) (by kernel_rfl) ?_ (fun a w hF hS => ?_)
                  · exact obs_nil
                  refine cond_ev (t := 83) (b := (e3 != 0)) hF (by kernel_rfl) (fun hb => ?_) (fun hb => ?_)
                  · replace hm := if_t hm hb
                    refine seq_cut (fun a w => Fr 104 [pl 4 (.pointer (some ⟨g5, 0, none⟩)), pl 5 (.pointer (some ⟨g6, 0, none⟩)), pl 6 (.int .i64 i1), pl 7 (.int .i64 e3)] a ∧ Sep w0 B w (blk g5 24 #[.int .i64 now1, .int .i64 now2, .slice A6 now3.length c6] :: pg1 :: blk g6 25 (List.toArray (([] : List Value) ++ (arr1 (Value.int .i64) (0 : Int) 2 taken1 ++ ([] : List Value)))) :: fs) ∧ ((gameroomref_PlayStones_J12 taken1 now1 now2 now3 i1 e3)).bind φ1 = some r) ?_ ?_
                    · rintro a w ⟨hF, hS, hm⟩
                      unfold gameroomref_PlayStones_J12 at hm
                      refine wpIn_ret ?_
                      refine then_r (block_r (then_r (then_r (block_r (then_r ?_)))))
                      rw [← hφ1] at hm
                      replace hm := done_b hm
                      unfold gameroomref_PlayStones_K1 at hm
                      try dsimp only at hm
                      have hld0 := run_loadVarA (P := Try.prog) (t := 24) (cs := #[.int .i64 now1, .int .i64 now2, .slice A6 now3.length c6]) (by kernel_rfl) (by kernel_rfl) ((hS.at_ 0 rfl).cellsAt 0 (by rfl))
                      have hld1 := run_loadVarA (P := Try.prog) (t := 25) (cs := (List.toArray (([] : List Value) ++ (arr1 (Value.int .i64) (0 : Int) 2 taken1 ++ ([] : List Value))))) (by kernel_rfl) (by kernel_rfl) ((hS.at_ 2 rfl).cellsAt 0 (by rfl))
                      have hS := hS.pickN 3 [1] (by decide)
                      have hm : some (now1, now2, now3, taken1, i1, e3) = some r := hm
                      obtain rfl := Option.some.inj hm
                      exact retV (rs := [.cell 4 24, .cell 5 25, .tmp 6, .tmp 7]) (vs := [.agg #[.int .i64 now1, .int .i64 now2, .slice A6 now3.length c6], .agg (List.toArray (([] : List Value) ++ (arr1 (Value.int .i64) (0 : Int) 2 taken1 ++ ([] : List Value)))), .int .i64 i1, .int .i64 e3]) hF rfl (rv_c (by kernel_rfl) hld0 <| rv_c (by kernel_rfl) hld1 <| rv_t (by kernel_rfl) <| rv_t (by kernel_rfl) <| rv_nil) rfl ⟨_, rfl, pg1, A6, c6, rfl, hp1, hc2, hS⟩
                    · refine regMix5 [0, 2, 3] [4, 5] 5 #[true, false, true, true, false, false, false, false] [⟨false, [], vS (Instr.loadAt 24 (.pointer (some ⟨g9, 0, none⟩))), .agg #[.int .i64 now1, .int .i64 now2, .slice A6 now3.length c6]⟩] [some (.agg #[.int .i64 now1, .int .i64 now2, .slice A6 now3.length c6]), none, none] [4, 5, 9, 84, 86, 87] [pl 4 (.pointer (some ⟨g5, 0, none⟩)), pl 5 (.pointer (some ⟨g6, 0, none⟩)), pl 9 (.pointer (some ⟨g8, 0, none⟩)), pl 84 (.agg #[.int .i64 now1, .int .i64 now2, .slice A6 now3.length c6]), pl 86 (.int .i64 i1), pl 87 (.int .i64 e3)] hF hS Fol (by kernel_rfl) (by kernel_rfl) (by kernel_rfl) (by kernel_rfl) ?_ (fun a w hF hS => ?_)
                      · exact obs_cons (ob_loadA (cs := #[.int .i64 now1, .int .i64 now2, .slice A6 now3.length c6]) (by kernel_rfl) (by kernel_rfl) (fun _ _ hS => (hS.at_ 5 rfl).cellsAt 0 (by rfl))) <| obs_nil
                      refine any_share 3 #[true, true, true, true, true, false, false, false] (fun a w => Fr 104 [pl 4 (.pointer (some ⟨g5, 0, none⟩)), pl 5 (.pointer (some ⟨g6, 0, none⟩)), pl 85 (.agg (List.toArray (([] : List Value) ++ (arr1 (Value.int .i64) (0 : Int) 2 taken1 ++ ([] : List Value))))), pl 86 (.int .i64 i1), pl 87 (.int .i64 e3)] a ∧ Sep w0 B w (blk g5 24 #[.int .i64 now1, .int .i64 now2, .slice A6 now3.length c6] :: blk g6 25 (List.toArray (([] : List Value) ++ (arr1 (Value.int .i64) (0 : Int) 2 (List.replicate 2 (0 : Int)) ++ ([] : List Value)))) :: pg1 :: els encP24 Rel24 pg1 24 3 A5 boards1.length c5 raw1 boards1 :: blk g8 25 (List.toArray (([] : List Value) ++ (arr1 (Value.int .i64) (0 : Int) 2 taken1 ++ ([] : List Value)))) :: blk g9 24 #[.int .i64 now1, .int .i64 now2, .slice A6 now3.length c6] :: blk g11 24 #[.int .i64 next1, .int .i64 next2, .slice A12 next3.length c12] :: own 3 (.slice A12 next3.length c12) (vI next3) :: fs)) (fun a w hI => ?_) (fun sh19 => ?_)
                      · obtain ⟨hF, hS⟩ := hI
                        refine any_step [5] (by kernel_rfl) rfl ?_
                        refine (all_cons ?_ all_nil)
                        · refine any_op (listed' := #[true, true, true, true, true, true, false, false]) (by kernel_rfl) (by kernel_rfl) ?_
                          obtain ⟨w, hrun, hS⟩ := run_putA (P := Try.prog) (t := 25) (us := (List.toArray (([] : List Value) ++ (arr1 (Value.int .i64) (0 : Int) 2 taken1 ++ ([] : List Value))))) (o := 0) (hS.at_ 1 rfl) (by kernel_rfl) (all_one (by kernel_rfl)) (Nat.le_of_ble_eq_true (by kernel_rfl))
                          refine at_skip hF (by kernel_rfl) hrun ?_
                          have hS : Sep w0 B w (blk g5 24 #[.int .i64 now1, .int .i64 now2, .slice A6 now3.length c6] :: blk g6 25 (List.toArray (([] : List Value) ++ (arr1 (Value.int .i64) (0 : Int) 2 taken1 ++ ([] : List Value)))) :: pg1 :: els encP24 Rel24 pg1 24 3 A5 boards1.length c5 raw1 boards1 :: blk g8 25 (List.toArray (([] : List Value) ++ (arr1 (Value.int .i64) (0 : Int) 2 taken1 ++ ([] : List Value)))) :: blk g9 24 #[.int .i64 now1, .int .i64 now2, .slice A6 now3.length c6] :: blk g11 24 #[.int .i64 next1, .int .i64 next2, .slice A12 next3.length c12] :: own 3 (.slice A12 next3.length c12) (vI next3) :: fs) := hS
                          refine any_finE rfl (by decide) ?_
                          refine any_step [6] (by kernel_rfl) rfl ?_
                          refine (all_cons ?_ all_nil)
                          · refine any_op (listed' := #[true, true, true, true, true, true, true, false]) (by kernel_rfl) (by kernel_rfl) ?_
                            refine at_runW 1 [] [] [4, 5, 6, 87] [pl 4 (.pointer (some ⟨g5, 0, none⟩)), pl 5 (.pointer (some ⟨g6, 0, none⟩)), pl 6 (.int .i64 i1), pl 87 (.int .i64 e3)] hF hS (by kernel_rfl) (by kernel_rfl) ?_ (fun a hF => ?_)
                            · exact obs_nil
                            refine any_finI rfl (fun h => h) ?_
                            refine any_step [7] (by kernel_rfl) rfl ?_
                            refine (all_cons ?_ all_nil)
                            · refine any_op (listed' := #[true, true, true, true, true, true, true, true]) (by kernel_rfl) (by kernel_rfl) ?_
                              refine at_runW 1 [] [] [4, 5, 6, 7] [pl 4 (.pointer (some ⟨g5, 0, none⟩)), pl 5 (.pointer (some ⟨g6, 0, none⟩)), pl 6 (.int .i64 i1), pl 7 (.int .i64 e3)] hF hS (by kernel_rfl) (by kernel_rfl) ?_ (fun a hF => ?_)
                              · exact obs_nil
                              refine any_finI rfl (fun h => h) ?_
                              refine any_end (by kernel_rfl) ?_
                              refine np_n ?_
                              refine then_n ?_
                              have hS := hS.pickN 8 [0, 2, 1] (by decide)
                              exact ⟨hF.weak [4, 5, 6, 7] (by kernel_rfl), hS, hm⟩
                      refine any_step [1, 4] (by kernel_rfl) rfl ?_
                      refine (all_cons ?_ (all_cons ?_ all_nil))
                      · refine any_op (listed' := #[true, true, true, true, false, false, false, false]) (by kernel_rfl) (by kernel_rfl) ?_
                        refine at_runW 1 [⟨false, [], vS (Instr.loadAt 25 (.pointer (some ⟨g8, 0, none⟩))), .agg (List.toArray (([] : List Value) ++ (arr1 (Value.int .i64) (0 : Int) 2 taken1 ++ ([] : List Value))))⟩] [some (.agg (List.toArray (([] : List Value) ++ (arr1 (Value.int .i64) (0 : Int) 2 taken1 ++ ([] : List Value)))))] [4, 5, 84, 85, 86, 87] [pl 4 (.pointer (some ⟨g5, 0, none⟩)), pl 5 (.pointer (some ⟨g6, 0, none⟩)), pl 84 (.agg #[.int .i64 now1, .int .i64 now2, .slice A6 now3.length c6]), pl 85 (.agg (List.toArray (([] : List Value) ++ (arr1 (Value.int .i64) (0 : Int) 2 taken1 ++ ([] : List Value))))), pl 86 (.int .i64 i1), pl 87 (.int .i64 e3)] hF hS (by kernel_rfl) (by kernel_rfl) ?_ (fun a hF => ?_)
                        · exact obs_cons (ob_loadA (cs := (List.toArray (([] : List Value) ++ (arr1 (Value.int .i64) (0 : Int) 2 taken1 ++ ([] : List Value))))) (by kernel_rfl) (by kernel_rfl) (fun _ _ hS => (hS.at_ 4 rfl).cellsAt 0 (by rfl))) <| obs_nil
                        refine any_finI rfl (fun h => h) ?_
                        refine any_step [4] (by kernel_rfl) rfl ?_
                        refine (all_cons ?_ all_nil)
                        · refine any_op (listed' := #[true, true, true, true, true, false, false, false]) (by kernel_rfl) (by kernel_rfl) ?_
                          obtain ⟨w, hrun, hS⟩ := run_putA (P := Try.prog) (t := 24) (us := #[.int .i64 now1, .int .i64 now2, .slice A6 now3.length c6]) (o := 0) (hS.at_ 0 rfl) (by kernel_rfl) (all_one (by kernel_rfl)) (Nat.le_of_ble_eq_true (by kernel_rfl))
                          refine at_skip hF (by kernel_rfl) hrun ?_
                          have hS : Sep w0 B w (blk g5 24 #[.int .i64 now1, .int .i64 now2, .slice A6 now3.length c6] :: blk g6 25 (List.toArray (([] : List Value) ++ (arr1 (Value.int .i64) (0 : Int) 2 (List.replicate 2 (0 : Int)) ++ ([] : List Value)))) :: pg1 :: els encP24 Rel24 pg1 24 3 A5 boards1.length c5 raw1 boards1 :: blk g8 25 (List.toArray (([] : List Value) ++ (arr1 (Value.int .i64) (0 : Int) 2 taken1 ++ ([] : List Value)))) :: blk g9 24 #[.int .i64 now1, .int .i64 now2, .slice A6 now3.length c6] :: blk g11 24 #[.int .i64 next1, .int .i64 next2, .slice A12 next3.length c12] :: own 3 (.slice A12 next3.length c12) (vI next3) :: fs) := hS
                          refine any_finE rfl (by decide) ?_
                          exact sh19 _ _ ⟨hF.weak [4, 5, 85, 86, 87] (by kernel_rfl), hS⟩
                      · refine any_op (listed' := #[true, false, true, true, true, false, false, false]) (by kernel_rfl) (by kernel_rfl) ?_
                        obtain ⟨w, hrun, hS⟩ := run_putA (P := Try.prog) (t := 24) (us := #[.int .i64 now1, .int .i64 now2, .slice A6 now3.length c6]) (o := 0) (hS.at_ 0 rfl) (by kernel_rfl) (all_one (by kernel_rfl)) (Nat.le_of_ble_eq_true (by kernel_rfl))
                        refine at_skip hF (by kernel_rfl) hrun ?_
                        have hS : Sep w0 B w (blk g5 24 #[.int .i64 now1, .int .i64 now2, .slice A6 now3.length c6] :: blk g6 25 (List.toArray (([] : List Value) ++ (arr1 (Value.int .i64) (0 : Int) 2 (List.replicate 2 (0 : Int)) ++ ([] : List Value)))) :: pg1 :: els encP24 Rel24 pg1 24 3 A5 boards1.length c5 raw1 boards1 :: blk g8 25 (List.toArray (([] : List Value) ++ (arr1 (Value.int .i64) (0 : Int) 2 taken1 ++ ([] : List Value)))) :: blk g9 24 #[.int .i64 now1, .int .i64 now2, .slice A6 now3.length c6] :: blk g11 24 #[.int .i64 next1, .int .i64 next2, .slice A12 next3.length c12] :: own 3 (.slice A12 next3.length c12) (vI next3) :: fs) := hS
                        refine any_finE rfl (by decide) ?_
                        refine any_step [1] (by kernel_rfl) rfl ?_
                        refine (all_cons ?_ all_nil)
                        · refine any_op (listed' := #[true, true, true, true, true, false, false, false]) (by kernel_rfl) (by kernel_rfl) ?_
                          refine at_runW 1 [⟨false, [], vS (Instr.loadAt 25 (.pointer (some ⟨g8, 0, none⟩))), .agg (List.toArray (([] : List Value) ++ (arr1 (Value.int .i64) (0 : Int) 2 taken1 ++ ([] : List Value))))⟩] [some (.agg (List.toArray (([] : List Value) ++ (arr1 (Value.int .i64) (0 : Int) 2 taken1 ++ ([] : List Value)))))] [4, 5, 85, 86, 87] [pl 4 (.pointer (some ⟨g5, 0, none⟩)), pl 5 (.pointer (some ⟨g6, 0, none⟩)), pl 85 (.agg (List.toArray (([] : List Value) ++ (arr1 (Value.int .i64) (0 : Int) 2 taken1 ++ ([] : List Value))))), pl 86 (.int .i64 i1), pl 87 (.int .i64 e3)] hF hS (by kernel_rfl) (by kernel_rfl) ?_ (fun a hF => ?_)
                          · exact obs_cons (ob_loadA (cs := (List.toArray (([] : List Value) ++ (arr1 (Value.int .i64) (0 : Int) 2 taken1 ++ ([] : List Value))))) (by kernel_rfl) (by kernel_rfl) (fun _ _ hS => (hS.at_ 4 rfl).cellsAt 0 (by rfl))) <| obs_nil
                          refine any_finI rfl (fun h => h) ?_
                          exact sh19 _ _ ⟨hF.weak [4, 5, 85, 86, 87] (by kernel_rfl), hS⟩
                  · replace hm := if_f hm hb
                    refine wpIn_skip ?_
                    refine then_n ?_
                    exact ⟨hF.weak [1, 4, 5, 8, 9, 10, 11, 12, 13] (by kernel_rfl), hS, hm⟩
              · refine reg [] [] [1, 4, 5, 8, 9, 10, 11, 12, 13, 14, 15] [pl 1 (.slice A2 moves1.length c2), pl 4 (.pointer (some ⟨g5, 0, none⟩)), pl 5 (.pointer (some ⟨g6, 0, none⟩)), pl 8 (.slice A5 boards1.length c5), pl 9 (.pointer (some ⟨g8, 0, none⟩)), pl 10 (.pointer (some ⟨g9, 0, none⟩)), pl 11 (.int .i64 i1), pl 12 (.pointer (some ⟨g11, 0, none⟩)), pl 13 (.int .i64 n3), pl 14 (.int .i64 e1), pl 15 (.int .i64 0)] hF hS Fol (by kernel_rfl) (by kernel_rfl) (by kernel_rfl) ?_ (fun a w hF hS => ?_)
                · exact obs_nil
                refine wpIn_block ?_
                refine wp_loop_model (S := (Int × Int)) (R := Int) (gameroomref_PlayStones_L2 boards1 next1 next2 next3) (fun x => ((gameroomref_PlayStones_K2 boards1 taken1 now1 now2 now3 i1 next1 next2 next3 n3) x).bind φ1) r (fun (x : (Int × Int)) a w => Fr 104 [pl 1 (.slice A2 moves1.length c2), pl 4 (.pointer (some ⟨g5, 0, none⟩)), pl 5 (.pointer (some ⟨g6, 0, none⟩)), pl 8 (.slice A5 boards1.length c5), pl 9 (.pointer (some ⟨g8, 0, none⟩)), pl 10 (.pointer (some ⟨g9, 0, none⟩)), pl 11 (.int .i64 i1), pl 12 (.pointer (some ⟨g11, 0, none⟩)), pl 13 (.int .i64 n3), pl 14 (.int .i64 x.1), pl 15 (.int .i64 x.2)] a ∧ Sep w0 B w (blk g5 24 #[.int .i64 0, .int .i64 0, .slice none 0 0] :: blk g6 25 (List.toArray (([] : List Value) ++ (arr1 (Value.int .i64) (0 : Int) 2 (List.replicate 2 (0 : Int)) ++ ([] : List Value)))) :: pg1 :: els encP24 Rel24 pg1 24 3 A5 boards1.length c5 raw1 boards1 :: blk g8 25 (List.toArray (([] : List Value) ++ (arr1 (Value.int .i64) (0 : Int) 2 taken1 ++ ([] : List Value)))) :: blk g9 24 #[.int .i64 now1, .int .i64 now2, .slice A6 now3.length c6] :: blk g11 24 #[.int .i64 next1, .int .i64 next2, .slice A12 next3.length c12] :: own 3 (.slice A12 next3.length c12) (vI next3) :: fs)) (assoc_b hm) ⟨hF.weak [1, 4, 5, 8, 9, 10, 11, 12, 13, 14, 15] (by kernel_rfl), hS⟩ ?_
                clear hF hS hm
                rintro nn2 ⟨e2, k1⟩ a w ⟨hF, hS⟩ hm
                generalize hφ2 : stK (gameroomref_PlayStones_L2 boards1 next1 next2 next3) nn2 (fun x => ((gameroomref_PlayStones_K2 boards1 taken1 now1 now2 now3 i1 next1 next2 next3 n3) x).bind φ1) = φ2 at hm
                unfold gameroomref_PlayStones_L2 at hm
                dsimp only at hF hS hm
                refine seq_cut (fun a w => Fr 104 [pl 1 (.slice A2 moves1.length c2), pl 4 (.pointer (some ⟨g5, 0, none⟩)), pl 5 (.pointer (some ⟨g6, 0, none⟩)), pl 8 (.slice A5 boards1.length c5), pl 9 (.pointer (some ⟨g8, 0, none⟩)), pl 10 (.pointer (some ⟨g9, 0, none⟩)), pl 11 (.int .i64 i1), pl 12 (.pointer (some ⟨g11, 0, none⟩)), pl 13 (.int .i64 n3), pl 14 (.int .i64 e2), pl 15 (.int .i64 k1)] a ∧ Sep w0 B w (blk g5 24 #[.int .i64 0, .int .i64 0, .slice none 0 0] :: blk g6 25 (List.toArray (([] : List Value) ++ (arr1 (Value.int .i64) (0 : Int) 2 (List.replicate 2 (0 : Int)) ++ ([] : List Value)))) :: pg1 :: els encP24 Rel24 pg1 24 3 A5 boards1.length c5 raw1 boards1 :: blk g8 25 (List.toArray (([] : List Value) ++ (arr1 (Value.int .i64) (0 : Int) 2 taken1 ++ ([] : List Value)))) :: blk g9 24 #[.int .i64 now1, .int .i64 now2, .slice A6 now3.length c6] :: blk g11 24 #[.int .i64 next1, .int .i64 next2, .slice A12 next3.length c12] :: own 3 (.slice A12 next3.length c12) (vI next3) :: fs) ∧ ((gameroomref_PlayStones_J9 boards1 next1 next2 next3 e2 k1)).bind φ2 = some r) ?_ ?_
                · rintro a w ⟨hF, hS, hm⟩
                  unfold gameroomref_PlayStones_J9 at hm
                  refine seq_cut (fun a w => ∃ (e4 : Int), Fr 104 [pl 1 (.slice A2 moves1.length c2), pl 4 (.pointer (some ⟨g5, 0, none⟩)), pl 5 (.pointer (some ⟨g6, 0, none⟩)), pl 8 (.slice A5 boards1.length c5), pl 9 (.pointer (some ⟨g8, 0, none⟩)), pl 10 (.pointer (some ⟨g9, 0, none⟩)), pl 11 (.int .i64 i1), pl 12 (.pointer (some ⟨g11, 0, none⟩)), pl 13 (.int .i64 n3), pl 14 (.int .i64 e4), pl 15 (.int .i64 k1)] a ∧ Sep w0 B w (blk g5 24 #[.int .i64 0, .int .i64 0, .slice none 0 0] :: blk g6 25 (List.toArray (([] : List Value) ++ (arr1 (Value.int .i64) (0 : Int) 2 (List.replicate 2 (0 : Int)) ++ ([] : List Value)))) :: pg1 :: els encP24 Rel24 pg1 24 3 A5 boards1.length c5 raw1 boards1 :: blk g8 25 (List.toArray (([] : List Value) ++ (arr1 (Value.int .i64) (0 : Int) 2 taken1 ++ ([] : List Value)))) :: blk g9 24 #[.int .i64 now1, .int .i64 now2, .slice A6 now3.length c6] :: blk g11 24 #[.int .i64 next1, .int .i64 next2, .slice A12 next3.length c12] :: own 3 (.slice A12 next3.length c12) (vI next3) :: fs) ∧ ((gameroomref_PlayStones_J10 k1) e4).bind φ2 = some r) ?_ ?_
                  · rintro a w ⟨e4, hF, hS, hm⟩
                    unfold gameroomref_PlayStones_J10 at hm
                    refine reg1 [] [] [1, 4, 5, 8, 9, 10, 11, 12, 13, 14, 15] [pl 1 (.slice A2 moves1.length c2), pl 4 (.pointer (some ⟨g5, 0, none⟩)), pl 5 (.pointer (some ⟨g6, 0, none⟩)), pl 8 (.slice A5 boards1.length c5), pl 9 (.pointer (some ⟨g8, 0, none⟩)), pl 10 (.pointer (some ⟨g9, 0, none⟩)), pl 11 (.int .i64 i1), pl 12 (.pointer (some ⟨g11, 0, none⟩)), pl 13 (.int .i64 n3), pl 14 (.int .i64 e4), pl 15 (.int .i64 (w64 (k1 + 1)))] hF hS Fol (by kernel_rfl) (by kernel_rfl) (by kernel_rfl) ?_ (fun a w hF hS => ?_)
                    · exact obs_nil
                    refine then_n ?_
                    rw [← hφ2] at hm
                    exact ⟨(e4, (w64 (k1 + 1))), ⟨hF.weak [1, 4, 5, 8, 9, 10, 11, 12, 13, 14, 15] (by kernel_rfl), hS⟩, hm⟩
                  · refine wpIn_block ?_
                    obtain ⟨hp8, hm⟩ := asrt_b hm
                    obtain ⟨r4, hr4, hm⟩ := call_b hm
                    have hg1 := (hS.at_ 3 rfl).elsAll
                    refine reg [⟨true, [], vS (Instr.indexAt 81 (.slice A5 boards1.length c5) (.int .i64 k1)), .pointer (some (sAddrK A5 3 k1))⟩, ⟨false, [], vS (Instr.loadAt 24 (.pointer (some (sAddrK A5 3 k1)))), .agg #[.int .i64 ((getd zP24 boards1 k1).1), .int .i64 ((getd zP24 boards1 k1).2.1), .slice ((getd rzP24 raw1 k1).2.2.1) (((getd zP24 boards1 k1).2.2).length) ((getd rzP24 raw1 k1).2.2.2.2)]⟩, ⟨false, [], vS (Instr.loadAt 24 (.pointer (some ⟨g11, 0, none⟩))), .agg #[.int .i64 next1, .int .i64 next2, .slice A12 next3.length c12]⟩, ⟨false, [], callFunc 14 #[.agg #[.int .i64 ((getd zP24 boards1 k1).1), .int .i64 ((getd zP24 boards1 k1).2.1), .slice ((getd rzP24 raw1 k1).2.2.1) (((getd zP24 boards1 k1).2.2).length) ((getd rzP24 raw1 k1).2.2.2.2)], .agg #[.int .i64 next1, .int .i64 next2, .slice A12 next3.length c12]], .bool r4⟩] [none, none, some (.pointer (some (sAddrK A5 3 k1))), some (.agg #[.int .i64 ((getd zP24 boards1 k1).1), .int .i64 ((getd zP24 boards1 k1).2.1), .slice ((getd rzP24 raw1 k1).2.2.1) (((getd zP24 boards1 k1).2.2).length) ((getd rzP24 raw1 k1).2.2.2.2)]), some (.agg #[.int .i64 next1, .int .i64 next2, .slice A12 next3.length c12]), some (.bool r4)] [1, 4, 5, 8, 9, 10, 11, 12, 13, 14, 15, 81] [pl 1 (.slice A2 moves1.length c2), pl 4 (.pointer (some ⟨g5, 0, none⟩)), pl 5 (.pointer (some ⟨g6, 0, none⟩)), pl 8 (.slice A5 boards1.length c5), pl 9 (.pointer (some ⟨g8, 0, none⟩)), pl 10 (.pointer (some ⟨g9, 0, none⟩)), pl 11 (.int .i64 i1), pl 12 (.pointer (some ⟨g11, 0, none⟩)), pl 13 (.int .i64 n3), pl 14 (.int .i64 e2), pl 15 (.int .i64 k1), pl 81 (.bool r4)] hF hS Fol (by kernel_rfl) (by kernel_rfl) (by kernel_rfl) ?_ (fun a w hF hS => ?_)
                    · exact obs_cons (ob_ixK (m := raw1) encPK24 Und81 hi24 hs24 (hS.at_ 3 rfl).rdE ((hS.at_ 3 rfl).lenEr encPK24) (fun _ => hp8)) <| obs_cons (ob_getP (n := boards1.length) (raw := raw1) encPK24 rzP24 (by kernel_rfl) (by kernel_rfl) (fun _ hS => ⟨_, (hS.at_ 3 rfl).rdE⟩) (fun _ hS => (hS.at_ 3 rfl).lenEr encPK24) (fun _ => hp8) (val24 (PAll.any RelP24 hg1 k1))) <| obs_cons (ob_loadA (cs := #[.int .i64 next1, .int .i64 next2, .slice A12 next3.length c12]) (by kernel_rfl) (by kernel_rfl) (fun _ _ hS => (hS.at_ 6 rfl).cellsAt 0 (by rfl))) <| obs_cons (ob_call Try.func14 (by kernel_rfl) rfl (fun _ _ hS => gameroomref_SameGrid_w hr4 hS (fun _ hS => ((PAll.any RelP24 hg1 k1).2.2.2.2.at_ hS 2 rfl)) (PAll.any RelP24 hg1 k1).2.2.2.1 rfl (fun _ hS => (hS.at_ 7 rfl).rd) ((hS.at_ 7 rfl).cap1) rfl)) <| obs_nil
                    refine cond_ev (t := 81) (b := r4) hF (by kernel_rfl) (fun hb => ?_) (fun hb => ?_)
                    · replace hm := if_t hm hb
                      refine reg1 [] [] [1, 4, 5, 8, 9, 10, 11, 12, 13, 14, 15] [pl 1 (.slice A2 moves1.length c2), pl 4 (.pointer (some ⟨g5, 0, none⟩)), pl 5 (.pointer (some ⟨g6, 0, none⟩)), pl 8 (.slice A5 boards1.length c5), pl 9 (.pointer (some ⟨g8, 0, none⟩)), pl 10 (.pointer (some ⟨g9, 0, none⟩)), pl 11 (.int .i64 i1), pl 12 (.pointer (some ⟨g11, 0, none⟩)), pl 13 (.int .i64 n3), pl 14 (.int .i64 8), pl 15 (.int .i64 k1)] hF hS Fol (by kernel_rfl) (by kernel_rfl) (by kernel_rfl) ?_ (fun a w hF hS => ?_)
                      · exact obs_nil
                      refine block_n ?_
                      refine then_n ?_
                      exact ⟨8, hF.weak [1, 4, 5, 8, 9, 10, 11, 12, 13, 14, 15] (by kernel_rfl), hS, hm⟩
                    · replace hm := if_f hm hb
                      refine wpIn_skip ?_
                      refine block_n ?_
                      refine then_n ?_
                      exact ⟨e2, hF.weak [1, 4, 5, 8, 9, 10, 11, 12, 13, 14, 15] (by kernel_rfl), hS, hm⟩
                · refine reg [] [] [1, 4, 5, 8, 9, 10, 11, 12, 13, 14, 15, 73] [pl 1 (.slice A2 moves1.length c2), pl 4 (.pointer (some ⟨g5, 0, none⟩)), pl 5 (.pointer (some ⟨g6, 0, none⟩)), pl 8 (.slice A5 boards1.length c5), pl 9 (.pointer (some ⟨g8, 0, none⟩)), pl 10 (.pointer (some ⟨g9, 0, none⟩)), pl 11 (.int .i64 i1), pl 12 (.pointer (some ⟨g11, 0, none⟩)), pl 13 (.int .i64 n3), pl 14 (.int .i64 e2), pl 15 (.int .i64 k1), pl 73 (.bool ((decide (k1 < (boards1.length : Int))) && (e2 == 0)))] hF hS Fol (by kernel_rfl) (by kernel_rfl) (by kernel_rfl) ?_ (fun a w hF hS => ?_)
                  · exact obs_nil
                  refine cond_ev (t := 73) (b := (decide (k1 < (boards1.length : Int))) && (e2 == 0)) hF (by kernel_rfl) (fun hb => ?_) (fun hb => ?_)
                  · replace hm := if_t hm hb
                    refine wpIn_skip ?_
                    refine then_n ?_
                    exact ⟨hF.weak [1, 4, 5, 8, 9, 10, 11, 12, 13, 14, 15] (by kernel_rfl), hS, hm⟩
                  · replace hm := if_f hm hb
                    refine wpIn_exit ?_
                    refine then_e (then_e (block_e (then_n ?_)))
                    rw [← hφ2] at hm
                    replace hm := done_b hm
                    unfold gameroomref_PlayStones_K2 at hm
                    try dsimp only at hm
                    have hm : ((gameroomref_PlayStones_J8 boards1 taken1 now1 now2 now3 i1 next1 next2 next3 n3) e2).bind φ1 = some r := hm
                    exact ⟨e2, hF.weak [1, 4, 5, 8, 9, 10, 11, 12, 13, 14] (by kernel_rfl), hS, hm⟩
            · obtain ⟨hp7, hm⟩ := asrt_b hm
              obtain ⟨r3, hr3, hm⟩ := call_b hm
              refine regMix5 [0, 1, 2, 3, 4, 5, 6, 7] [] 9 #[true, true, true, true, true, true, true, true, false, false, false, false, false, false, false, false, false] [⟨false, [], vS (Instr.loadAt 24 (.pointer (some ⟨g9, 0, none⟩))), .agg #[.int .i64 now1, .int .i64 now2, .slice A6 now3.length c6]⟩, ⟨true, [], vS (Instr.indexAt 22 (.slice A2 moves1.length c2) (.int .i64 i1)), .pointer (some (sAddr A2 i1))⟩, ⟨false, [], vS (Instr.loadAt 3 (.pointer (some (sAddr A2 i1)))), .int .i64 (geti moves1 i1)⟩] [some (.agg #[.int .i64 now1, .int .i64 now2, .slice A6 now3.length c6]), none, none, none, none, none, some (.pointer (some (sAddr A2 i1))), some (.int .i64 (geti moves1 i1))] [1, 4, 5, 8, 9, 10, 11, 54, 57, 61] [pl 1 (.slice A2 moves1.length c2), pl 4 (.pointer (some ⟨g5, 0, none⟩)), pl 5 (.pointer (some ⟨g6, 0, none⟩)), pl 8 (.slice A5 boards1.length c5), pl 9 (.pointer (some ⟨g8, 0, none⟩)), pl 10 (.pointer (some ⟨g9, 0, none⟩)), pl 11 (.int .i64 i1), pl 54 (.agg #[.int .i64 now1, .int .i64 now2, .slice A6 now3.length c6]), pl 57 (.int .i64 (w64 (1 + (Int.tmod i1 2)))), pl 61 (.int .i64 (geti moves1 i1))] hF hS Fol (by kernel_rfl) (by kernel_rfl) (by kernel_rfl) (by kernel_rfl) ?_ (fun a w hF hS => ?_)
              · exact obs_cons (ob_loadA (cs := #[.int .i64 now1, .int .i64 now2, .slice A6 now3.length c6]) (by kernel_rfl) (by kernel_rfl) (fun _ _ hS => (hS.at_ 5 rfl).cellsAt 0 (by rfl))) <| obs_cons (ob_ix1 (f := (Value.int .i64)) (m := moves1) Und22 hi3 hs3 (hr_moves1 _ (hS.dropN 6)) rfl (fun _ => hp7)) <| obs_cons (ob_get1 (n := moves1.length) (m := moves1) (Value.int .i64) (0 : Int) Agg3 (fun _ hS => ⟨_, (hr_moves1 _ (hS.dropN 6))⟩) (fun _ hS => rfl) (fun _ => hp7)) <| obs_nil
              refine any_share 1 #[true, true, true, true, true, true, true, true, true, true, true, true, true, true, true, true, false] (fun a w => ∃ g10 A11 c11, Fr 104 [pl 1 (.slice A2 moves1.length c2), pl 4 (.pointer (some ⟨g5, 0, none⟩)), pl 5 (.pointer (some ⟨g6, 0, none⟩)), pl 8 (.slice A5 boards1.length c5), pl 9 (.pointer (some ⟨g8, 0, none⟩)), pl 10 (.pointer (some ⟨g9, 0, none⟩)), pl 11 (.int .i64 i1), pl 12 (.pointer (some ⟨g10, 0, none⟩)), pl 13 (.int .i64 r3.2.2.2.1), pl 65 (.int .i64 r3.2.2.2.2)] a ∧ Sep w0 B w (blk g10 24 #[.int .i64 r3.1, .int .i64 r3.2.1, .slice A11 r3.2.2.1.length c11] :: own 3 (.slice A11 r3.2.2.1.length c11) (vI r3.2.2.1) :: blk g5 24 #[.int .i64 0, .int .i64 0, .slice none 0 0] :: blk g6 25 (List.toArray (([] : List Value) ++ (arr1 (Value.int .i64) (0 : Int) 2 (List.replicate 2 (0 : Int)) ++ ([] : List Value)))) :: pg1 :: els encP24 Rel24 pg1 24 3 A5 boards1.length c5 raw1 boards1 :: blk g8 25 (List.toArray (([] : List Value) ++ (arr1 (Value.int .i64) (0 : Int) 2 taken1 ++ ([] : List Value)))) :: blk g9 24 #[.int .i64 now1, .int .i64 now2, .slice A6 now3.length c6] :: fs)) (fun a w hI => ?_) (fun sh2 => ?_)
              · obtain ⟨g10, A11, c11, hF, hS⟩ := hI
                refine any_step [16] (by kernel_rfl) rfl ?_
                refine (all_cons ?_ all_nil)
                · refine any_op (listed' := #[true, true, true, true, true, true, true, true, true, true, true, true, true, true, true, true, true]) (by kernel_rfl) (by kernel_rfl) ?_
                  refine at_runW 1 [] [] [1, 4, 5, 8, 9, 10, 11, 12, 13, 14] [pl 1 (.slice A2 moves1.length c2), pl 4 (.pointer (some ⟨g5, 0, none⟩)), pl 5 (.pointer (some ⟨g6, 0, none⟩)), pl 8 (.slice A5 boards1.length c5), pl 9 (.pointer (some ⟨g8, 0, none⟩)), pl 10 (.pointer (some ⟨g9, 0, none⟩)), pl 11 (.int .i64 i1), pl 12 (.pointer (some ⟨g10, 0, none⟩)), pl 13 (.int .i64 r3.2.2.2.1), pl 14 (.int .i64 r3.2.2.2.2)] hF hS (by kernel_rfl) (by kernel_rfl) ?_ (fun a hF => ?_)
                  · exact obs_nil
                  refine any_finI rfl (fun h => h) ?_
                  refine any_end (by kernel_rfl) ?_
                  refine np_n ?_
                  refine then_n ?_
                  have hS := hS.pickN 8 [2, 3, 4, 5, 6, 7, 0, 1] (by decide)
                  exact ⟨r3.1, r3.2.1, r3.2.2.1, r3.2.2.2.1, r3.2.2.2.2, g10, A11, c11, hF.weak [1, 4, 5, 8, 9, 10, 11, 12, 13, 14] (by kernel_rfl), hS, hm⟩
              refine any_share 2 #[true, true, true, true, true, true, true, true, true, true, true, true, true, true, true, false, false] (fun a w => ∃ g10 A11 c11, Fr 104 [pl 1 (.slice A2 moves1.length c2), pl 4 (.pointer (some ⟨g5, 0, none⟩)), pl 5 (.pointer (some ⟨g6, 0, none⟩)), pl 8 (.slice A5 boards1.length c5), pl 9 (.pointer (some ⟨g8, 0, none⟩)), pl 10 (.pointer (some ⟨g9, 0, none⟩)), pl 11 (.int .i64 i1), pl 12 (.pointer (some ⟨g10, 0, none⟩)), pl 64 (.int .i64 r3.2.2.2.1), pl 65 (.int .i64 r3.2.2.2.2)] a ∧ Sep w0 B w (blk g10 24 #[.int .i64 r3.1, .int .i64 r3.2.1, .slice A11 r3.2.2.1.length c11] :: own 3 (.slice A11 r3.2.2.1.length c11) (vI r3.2.2.1) :: blk g5 24 #[.int .i64 0, .int .i64 0, .slice none 0 0] :: blk g6 25 (List.toArray (([] : List Value) ++ (arr1 (Value.int .i64) (0 : Int) 2 (List.replicate 2 (0 : Int)) ++ ([] : List Value)))) :: pg1 :: els encP24 Rel24 pg1 24 3 A5 boards1.length c5 raw1 boards1 :: blk g8 25 (List.toArray (([] : List Value) ++ (arr1 (Value.int .i64) (0 : Int) 2 taken1 ++ ([] : List Value)))) :: blk g9 24 #[.int .i64 now1, .int .i64 now2, .slice A6 now3.length c6] :: fs)) (fun a w hI => ?_) (fun sh3 => ?_)
              · obtain ⟨g10, A11, c11, hF, hS⟩ := hI
                refine any_step [15] (by kernel_rfl) rfl ?_
                refine (all_cons ?_ all_nil)
                · refine any_op (listed' := #[true, true, true, true, true, true, true, true, true, true, true, true, true, true, true, true, false]) (by kernel_rfl) (by kernel_rfl) ?_
                  refine at_runW 1 [] [] [1, 4, 5, 8, 9, 10, 11, 12, 13, 65] [pl 1 (.slice A2 moves1.length c2), pl 4 (.pointer (some ⟨g5, 0, none⟩)), pl 5 (.pointer (some ⟨g6, 0, none⟩)), pl 8 (.slice A5 boards1.length c5), pl 9 (.pointer (some ⟨g8, 0, none⟩)), pl 10 (.pointer (some ⟨g9, 0, none⟩)), pl 11 (.int .i64 i1), pl 12 (.pointer (some ⟨g10, 0, none⟩)), pl 13 (.int .i64 r3.2.2.2.1), pl 65 (.int .i64 r3.2.2.2.2)] hF hS (by kernel_rfl) (by kernel_rfl) ?_ (fun a hF => ?_)
                  · exact obs_nil
                  refine any_finI rfl (fun h => h) ?_
                  exact sh2 _ _ ⟨g10, A11, c11, hF.weak [1, 4, 5, 8, 9, 10, 11, 12, 13, 65] (by kernel_rfl), hS⟩
              refine any_share 3 #[true, true, true, true, true, true, true, true, true, true, true, true, true, true, false, false, false] (fun a w => ∃ g10 A11 c11, Fr 104 [pl 1 (.slice A2 moves1.length c2), pl 4 (.pointer (some ⟨g5, 0, none⟩)), pl 5 (.pointer (some ⟨g6, 0, none⟩)), pl 8 (.slice A5 boards1.length c5), pl 9 (.pointer (some ⟨g8, 0, none⟩)), pl 10 (.pointer (some ⟨g9, 0, none⟩)), pl 11 (.int .i64 i1), pl 12 (.pointer (some ⟨g10, 0, none⟩)), pl 63 (.agg #[.int .i64 r3.1, .int .i64 r3.2.1, .slice A11 r3.2.2.1.length c11]), pl 64 (.int .i64 r3.2.2.2.1), pl 65 (.int .i64 r3.2.2.2.2)] a ∧ Sep w0 B w (blk g10 24 #[.int .i64 0, .int .i64 0, .slice none 0 0] :: own 3 (.slice A11 r3.2.2.1.length c11) (vI r3.2.2.1) :: blk g5 24 #[.int .i64 0, .int .i64 0, .slice none 0 0] :: blk g6 25 (List.toArray (([] : List Value) ++ (arr1 (Value.int .i64) (0 : Int) 2 (List.replicate 2 (0 : Int)) ++ ([] : List Value)))) :: pg1 :: els encP24 Rel24 pg1 24 3 A5 boards1.length c5 raw1 boards1 :: blk g8 25 (List.toArray (([] : List Value) ++ (arr1 (Value.int .i64) (0 : Int) 2 taken1 ++ ([] : List Value)))) :: blk g9 24 #[.int .i64 now1, .int .i64 now2, .slice A6 now3.length c6] :: fs)) (fun a w hI => ?_) (fun sh4 => ?_)
              · obtain ⟨g10, A11, c11, hF, hS⟩ := hI
                refine any_step [14] (by kernel_rfl) rfl ?_
                refine (all_cons ?_ all_nil)
                · refine any_op (listed' := #[true, true, true, true, true, true, true, true, true, true, true, true, true, true, true, false, false]) (by kernel_rfl) (by kernel_rfl) ?_
                  obtain ⟨w, hrun, hS⟩ := run_putA (P := Try.prog) (t := 24) (us := #[.int .i64 r3.1, .int .i64 r3.2.1, .slice A11 r3.2.2.1.length c11]) (o := 0) (hS.at_ 0 rfl) (by kernel_rfl) (all_one (by kernel_rfl)) (Nat.le_of_ble_eq_true (by kernel_rfl))
                  refine at_skip hF (by kernel_rfl) hrun ?_
                  have hS : Sep w0 B w (blk g10 24 #[.int .i64 r3.1, .int .i64 r3.2.1, .slice A11 r3.2.2.1.length c11] :: own 3 (.slice A11 r3.2.2.1.length c11) (vI r3.2.2.1) :: blk g5 24 #[.int .i64 0, .int .i64 0, .slice none 0 0] :: blk g6 25 (List.toArray (([] : List Value) ++ (arr1 (Value.int .i64) (0 : Int) 2 (List.replicate 2 (0 : Int)) ++ ([] : List Value)))) :: pg1 :: els encP24 Rel24 pg1 24 3 A5 boards1.length c5 raw1 boards1 :: blk g8 25 (List.toArray (([] : List Value) ++ (arr1 (Value.int .i64) (0 : Int) 2 taken1 ++ ([] : List Value)))) :: blk g9 24 #[.int .i64 now1, .int .i64 now2, .slice A6 now3.length c6] :: fs) := hS
                  refine any_fin rfl (hS.pickN 8 [2, 3, 4, 5, 6, 7] (by decide)) ?_
                  exact sh3 _ _ ⟨g10, A11, c11, hF.weak [1, 4, 5, 8, 9, 10, 11, 12, 64, 65] (by kernel_rfl), hS⟩
              refine any_share 4 #[true, true, true, true, true, true, true, true, true, true, true, true, true, false, false, false, false] (fun a w => ∃ A11 c11, Fr 104 [pl 1 (.slice A2 moves1.length c2), pl 4 (.pointer (some ⟨g5, 0, none⟩)), pl 5 (.pointer (some ⟨g6, 0, none⟩)), pl 8 (.slice A5 boards1.length c5), pl 9 (.pointer (some ⟨g8, 0, none⟩)), pl 10 (.pointer (some ⟨g9, 0, none⟩)), pl 11 (.int .i64 i1), pl 63 (.agg #[.int .i64 r3.1, .int .i64 r3.2.1, .slice A11 r3.2.2.1.length c11]), pl 64 (.int .i64 r3.2.2.2.1), pl 65 (.int .i64 r3.2.2.2.2)] a ∧ Sep w0 B w (own 3 (.slice A11 r3.2.2.1.length c11) (vI r3.2.2.1) :: blk g5 24 #[.int .i64 0, .int .i64 0, .slice none 0 0] :: blk g6 25 (List.toArray (([] : List Value) ++ (arr1 (Value.int .i64) (0 : Int) 2 (List.replicate 2 (0 : Int)) ++ ([] : List Value)))) :: pg1 :: els encP24 Rel24 pg1 24 3 A5 boards1.length c5 raw1 boards1 :: blk g8 25 (List.toArray (([] : List Value) ++ (arr1 (Value.int .i64) (0 : Int) 2 taken1 ++ ([] : List Value)))) :: blk g9 24 #[.int .i64 now1, .int .i64 now2, .slice A6 now3.length c6] :: fs)) (fun a w hI => ?_) (fun sh5 => ?_)
              · obtain ⟨A11, c11, hF, hS⟩ := hI
                refine any_step [13] (by kernel_rfl) rfl ?_
                refine (all_cons ?_ all_nil)
                · refine any_op (listed' := #[true, true, true, true, true, true, true, true, true, true, true, true, true, true, false, false, false]) (by kernel_rfl) (by kernel_rfl) ?_
                  refine at_do (d := 12) (s := vS (Instr.alloc 24 true (.tuple #[]))) (v := .pointer (some ⟨w.heap.size, 0, none⟩)) (w' := w.alloc (.cells #[.int .i64 0, .int .i64 0, .slice none 0 0] 24)) hF (by kernel_rfl) (by kernel_rfl) (by kernel_rfl) (fun a hF => ?_)
                  have hS : Sep w0 B (w.alloc (.cells #[.int .i64 0, .int .i64 0, .slice none 0 0] 24)) (blk w.heap.size 24 #[.int .i64 0, .int .i64 0, .slice none 0 0] :: (own 3 (.slice A11 r3.2.2.1.length c11) (vI r3.2.2.1) :: blk g5 24 #[.int .i64 0, .int .i64 0, .slice none 0 0] :: blk g6 25 (List.toArray (([] : List Value) ++ (arr1 (Value.int .i64) (0 : Int) 2 (List.replicate 2 (0 : Int)) ++ ([] : List Value)))) :: pg1 :: els encP24 Rel24 pg1 24 3 A5 boards1.length c5 raw1 boards1 :: blk g8 25 (List.toArray (([] : List Value) ++ (arr1 (Value.int .i64) (0 : Int) 2 taken1 ++ ([] : List Value)))) :: blk g9 24 #[.int .i64 now1, .int .i64 now2, .slice A6 now3.length c6] :: fs)) := hS.box 24 #[.int .i64 0, .int .i64 0, .slice none 0 0]
                  generalize w.heap.size = g10 at hF hS
                  generalize w.alloc (.cells #[.int .i64 0, .int .i64 0, .slice none 0 0] 24) = w at hS ⊢
                  refine any_fin rfl (hS.pickN 8 [2, 3, 4, 5, 6, 7] (by decide)) ?_
                  exact sh4 _ _ ⟨g10, A11, c11, hF.weak [1, 4, 5, 8, 9, 10, 11, 12, 63, 64, 65] (by kernel_rfl), hS⟩
              refine any_share 3 #[true, true, true, true, true, true, true, true, true, true, true, true, false, true, true, false, false] (fun a w => ∃ g10 A11 c11, Fr 104 [pl 1 (.slice A2 moves1.length c2), pl 4 (.pointer (some ⟨g5, 0, none⟩)), pl 5 (.pointer (some ⟨g6, 0, none⟩)), pl 8 (.slice A5 boards1.length c5), pl 9 (.pointer (some ⟨g8, 0, none⟩)), pl 10 (.pointer (some ⟨g9, 0, none⟩)), pl 11 (.int .i64 i1), pl 12 (.pointer (some ⟨g10, 0, none⟩)), pl 53 (.tuple #[.agg #[.int .i64 r3.1, .int .i64 r3.2.1, .slice A11 r3.2.2.1.length c11], .int .i64 r3.2.2.2.1, .int .i64 r3.2.2.2.2]), pl 64 (.int .i64 r3.2.2.2.1)] a ∧ Sep w0 B w (blk g10 24 #[.int .i64 r3.1, .int .i64 r3.2.1, .slice A11 r3.2.2.1.length c11] :: own 3 (.slice A11 r3.2.2.1.length c11) (vI r3.2.2.1) :: blk g5 24 #[.int .i64 0, .int .i64 0, .slice none 0 0] :: blk g6 25 (List.toArray (([] : List Value) ++ (arr1 (Value.int .i64) (0 : Int) 2 (List.replicate 2 (0 : Int)) ++ ([] : List Value)))) :: pg1 :: els encP24 Rel24 pg1 24 3 A5 boards1.length c5 raw1 boards1 :: blk g8 25 (List.toArray (([] : List Value) ++ (arr1 (Value.int .i64) (0 : Int) 2 taken1 ++ ([] : List Value)))) :: blk g9 24 #[.int .i64 now1, .int .i64 now2, .slice A6 now3.length c6] :: fs)) (fun a w hI => ?_) (fun sh6 => ?_)
              · obtain ⟨g10, A11, c11, hF, hS⟩ := hI
                refine any_step [12, 15] (by kernel_rfl) rfl ?_
                refine (all_cons ?_ (all_cons ?_ all_nil))
                · refine any_op (listed' := #[true, true, true, true, true, true, true, true, true, true, true, true, true, true, true, false, false]) (by kernel_rfl) (by kernel_rfl) ?_
                  refine at_runW 1 [] [] [1, 4, 5, 8, 9, 10, 11, 12, 64, 65] [pl 1 (.slice A2 moves1.length c2), pl 4 (.pointer (some ⟨g5, 0, none⟩)), pl 5 (.pointer (some ⟨g6, 0, none⟩)), pl 8 (.slice A5 boards1.length c5), pl 9 (.pointer (some ⟨g8, 0, none⟩)), pl 10 (.pointer (some ⟨g9, 0, none⟩)), pl 11 (.int .i64 i1), pl 12 (.pointer (some ⟨g10, 0, none⟩)), pl 64 (.int .i64 r3.2.2.2.1), pl 65 (.int .i64 r3.2.2.2.2)] hF hS (by kernel_rfl) (by kernel_rfl) ?_ (fun a hF => ?_)
                  · exact obs_nil
                  refine any_finI rfl (fun h => h) ?_
                  exact sh3 _ _ ⟨g10, A11, c11, hF.weak [1, 4, 5, 8, 9, 10, 11, 12, 64, 65] (by kernel_rfl), hS⟩
                · refine any_op (listed' := #[true, true, true, true, true, true, true, true, true, true, true, true, false, true, true, true, false]) (by kernel_rfl) (by kernel_rfl) ?_
                  refine at_runW 1 [] [] [1, 4, 5, 8, 9, 10, 11, 12, 13, 53] [pl 1 (.slice A2 moves1.length c2), pl 4 (.pointer (some ⟨g5, 0, none⟩)), pl 5 (.pointer (some ⟨g6, 0, none⟩)), pl 8 (.slice A5 boards1.length c5), pl 9 (.pointer (some ⟨g8, 0, none⟩)), pl 10 (.pointer (some ⟨g9, 0, none⟩)), pl 11 (.int .i64 i1), pl 12 (.pointer (some ⟨g10, 0, none⟩)), pl 13 (.int .i64 r3.2.2.2.1), pl 53 (.tuple #[.agg #[.int .i64 r3.1, .int .i64 r3.2.1, .slice A11 r3.2.2.1.length c11], .int .i64 r3.2.2.2.1, .int .i64 r3.2.2.2.2])] hF hS (by kernel_rfl) (by kernel_rfl) ?_ (fun a hF => ?_)
                  · exact obs_nil
                  refine any_finI rfl (fun h => h) ?_
                  refine any_step [12] (by kernel_rfl) rfl ?_
                  refine (all_cons ?_ all_nil)
                  · refine any_op (listed' := #[true, true, true, true, true, true, true, true, true, true, true, true, true, true, true, true, false]) (by kernel_rfl) (by kernel_rfl) ?_
                    refine at_runW 1 [] [] [1, 4, 5, 8, 9, 10, 11, 12, 13, 65] [pl 1 (.slice A2 moves1.length c2), pl 4 (.pointer (some ⟨g5, 0, none⟩)), pl 5 (.pointer (some ⟨g6, 0, none⟩)), pl 8 (.slice A5 boards1.length c5), pl 9 (.pointer (some ⟨g8, 0, none⟩)), pl 10 (.pointer (some ⟨g9, 0, none⟩)), pl 11 (.int .i64 i1), pl 12 (.pointer (some ⟨g10, 0, none⟩)), pl 13 (.int .i64 r3.2.2.2.1), pl 65 (.int .i64 r3.2.2.2.2)] hF hS (by kernel_rfl) (by kernel_rfl) ?_ (fun a hF => ?_)
                    · exact obs_nil
                    refine any_finI rfl (fun h => h) ?_
                    exact sh2 _ _ ⟨g10, A11, c11, hF.weak [1, 4, 5, 8, 9, 10, 11, 12, 13, 65] (by kernel_rfl), hS⟩
              refine any_share 4 #[true, true, true, true, true, true, true, true, true, true, true, true, false, true, false, false, false] (fun a w => ∃ g10 A11 c11, Fr 104 [pl 1 (.slice A2 moves1.length c2), pl 4 (.pointer (some ⟨g5, 0, none⟩)), pl 5 (.pointer (some ⟨g6, 0, none⟩)), pl 8 (.slice A5 boards1.length c5), pl 9 (.pointer (some ⟨g8, 0, none⟩)), pl 10 (.pointer (some ⟨g9, 0, none⟩)), pl 11 (.int .i64 i1), pl 12 (.pointer (some ⟨g10, 0, none⟩)), pl 53 (.tuple #[.agg #[.int .i64 r3.1, .int .i64 r3.2.1, .slice A11 r3.2.2.1.length c11], .int .i64 r3.2.2.2.1, .int .i64 r3.2.2.2.2]), pl 63 (.agg #[.int .i64 r3.1, .int .i64 r3.2.1, .slice A11 r3.2.2.1.length c11]), pl 64 (.int .i64 r3.2.2.2.1)] a ∧ Sep w0 B w (blk g10 24 #[.int .i64 0, .int .i64 0, .slice none 0 0] :: own 3 (.slice A11 r3.2.2.1.length c11) (vI r3.2.2.1) :: blk g5 24 #[.int .i64 0, .int .i64 0, .slice none 0 0] :: blk g6 25 (List.toArray (([] : List Value) ++ (arr1 (Value.int .i64) (0 : Int) 2 (List.replicate 2 (0 : Int)) ++ ([] : List Value)))) :: pg1 :: els encP24 Rel24 pg1 24 3 A5 boards1.length c5 raw1 boards1 :: blk g8 25 (List.toArray (([] : List Value) ++ (arr1 (Value.int .i64) (0 : Int) 2 taken1 ++ ([] : List Value)))) :: blk g9 24 #[.int .i64 now1, .int .i64 now2, .slice A6 now3.length c6] :: fs)) (fun a w hI => ?_) (fun sh7 => ?_)
              · obtain ⟨g10, A11, c11, hF, hS⟩ := hI
                refine any_step [12, 14] (by kernel_rfl) rfl ?_
                refine (all_cons ?_ (all_cons ?_ all_nil))
                · refine any_op (listed' := #[true, true, true, true, true, true, true, true, true, true, true, true, true, true, false, false, false]) (by kernel_rfl) (by kernel_rfl) ?_
                  refine at_runW 1 [] [] [1, 4, 5, 8, 9, 10, 11, 12, 63, 64, 65] [pl 1 (.slice A2 moves1.length c2), pl 4 (.pointer (some ⟨g5, 0, none⟩)), pl 5 (.pointer (some ⟨g6, 0, none⟩)), pl 8 (.slice A5 boards1.length c5), pl 9 (.pointer (some ⟨g8, 0, none⟩)), pl 10 (.pointer (some ⟨g9, 0, none⟩)), pl 11 (.int .i64 i1), pl 12 (.pointer (some ⟨g10, 0, none⟩)), pl 63 (.agg #[.int .i64 r3.1, .int .i64 r3.2.1, .slice A11 r3.2.2.1.length c11]), pl 64 (.int .i64 r3.2.2.2.1), pl 65 (.int .i64 r3.2.2.2.2)] hF hS (by kernel_rfl) (by kernel_rfl) ?_ (fun a hF => ?_)
                  · exact obs_nil
                  refine any_finI rfl (fun h => h) ?_
                  exact sh4 _ _ ⟨g10, A11, c11, hF.weak [1, 4, 5, 8, 9, 10, 11, 12, 63, 64, 65] (by kernel_rfl), hS⟩
                · refine any_op (listed' := #[true, true, true, true, true, true, true, true, true, true, true, true, false, true, true, false, false]) (by kernel_rfl) (by kernel_rfl) ?_
                  obtain ⟨w, hrun, hS⟩ := run_putA (P := Try.prog) (t := 24) (us := #[.int .i64 r3.1, .int .i64 r3.2.1, .slice A11 r3.2.2.1.length c11]) (o := 0) (hS.at_ 0 rfl) (by kernel_rfl) (all_one (by kernel_rfl)) (Nat.le_of_ble_eq_true (by kernel_rfl))
                  refine at_skip hF (by kernel_rfl) hrun ?_
                  have hS : Sep w0 B w (blk g10 24 #[.int .i64 r3.1, .int .i64 r3.2.1, .slice A11 r3.2.2.1.length c11] :: own 3 (.slice A11 r3.2.2.1.length c11) (vI r3.2.2.1) :: blk g5 24 #[.int .i64 0, .int .i64 0, .slice none 0 0] :: blk g6 25 (List.toArray (([] : List Value) ++ (arr1 (Value.int .i64) (0 : Int) 2 (List.replicate 2 (0 : Int)) ++ ([] : List Value)))) :: pg1 :: els encP24 Rel24 pg1 24 3 A5 boards1.length c5 raw1 boards1 :: blk g8 25 (List.toArray (([] : List Value) ++ (arr1 (Value.int .i64) (0 : Int) 2 taken1 ++ ([] : List Value)))) :: blk g9 24 #[.int .i64 now1, .int .i64 now2, .slice A6 now3.length c6] :: fs) := hS
                  refine any_fin rfl (hS.pickN 8 [2, 3, 4, 5, 6, 7] (by decide)) ?_
                  exact sh6 _ _ ⟨g10, A11, c11, hF.weak [1, 4, 5, 8, 9, 10, 11, 12, 53, 64] (by kernel_rfl), hS⟩
              refine any_share 5 #[true, true, true, true, true, true, true, true, true, true, true, true, false, false, false, false, false] (fun a w => ∃ A11 c11, Fr 104 [pl 1 (.slice A2 moves1.length c2), pl 4 (.pointer (some ⟨g5, 0, none⟩)), pl 5 (.pointer (some ⟨g6, 0, none⟩)), pl 8 (.slice A5 boards1.length c5), pl 9 (.pointer (some ⟨g8, 0, none⟩)), pl 10 (.pointer (some ⟨g9, 0, none⟩)), pl 11 (.int .i64 i1), pl 53 (.tuple #[.agg #[.int .i64 r3.1, .int .i64 r3.2.1, .slice A11 r3.2.2.1.length c11], .int .i64 r3.2.2.2.1, .int .i64 r3.2.2.2.2]), pl 63 (.agg #[.int .i64 r3.1, .int .i64 r3.2.1, .slice A11 r3.2.2.1.length c11]), pl 64 (.int .i64 r3.2.2.2.1)] a ∧ Sep w0 B w (own 3 (.slice A11 r3.2.2.1.length c11) (vI r3.2.2.1) :: blk g5 24 #[.int .i64 0, .int .i64 0, .slice none 0 0] :: blk g6 25 (List.toArray (([] : List Value) ++ (arr1 (Value.int .i64) (0 : Int) 2 (List.replicate 2 (0 : Int)) ++ ([] : List Value)))) :: pg1 :: els encP24 Rel24 pg1 24 3 A5 boards1.length c5 raw1 boards1 :: blk g8 25 (List.toArray (([] : List Value) ++ (arr1 (Value.int .i64) (0 : Int) 2 taken1 ++ ([] : List Value)))) :: blk g9 24 #[.int .i64 now1, .int .i64 now2, .slice A6 now3.length c6] :: fs)) (fun a w hI => ?_) (fun sh8 => ?_)
              · obtain ⟨A11, c11, hF, hS⟩ := hI
                refine any_step [12, 13] (by kernel_rfl) rfl ?_
                refine (all_cons ?_ (all_cons ?_ all_nil))
                · refine any_op (listed' := #[true, true, true, true, true, true, true, true, true, true, true, true, true, false, false, false, false]) (by kernel_rfl) (by kernel_rfl) ?_
                  refine at_runW 1 [] [] [1, 4, 5, 8, 9, 10, 11, 63, 64, 65] [pl 1 (.slice A2 moves1.length c2), pl 4 (.pointer (some ⟨g5, 0, none⟩)), pl 5 (.pointer (some ⟨g6, 0, none⟩)), pl 8 (.slice A5 boards1.length c5), pl 9 (.pointer (some ⟨g8, 0, none⟩)), pl 10 (.pointer (some ⟨g9, 0, none⟩)), pl 11 (.int .i64 i1), pl 63 (.agg #[.int .i64 r3.1, .int .i64 r3.2.1, .slice A11 r3.2.2.1.length c11]), pl 64 (.int .i64 r3.2.2.2.1), pl 65 (.int .i64 r3.2.2.2.2)] hF hS (by kernel_rfl) (by kernel_rfl) ?_ (fun a hF => ?_)
                  · exact obs_nil
                  refine any_finI rfl (fun h => h) ?_
                  exact sh5 _ _ ⟨A11, c11, hF.weak [1, 4, 5, 8, 9, 10, 11, 63, 64, 65] (by kernel_rfl), hS⟩
                · refine any_op (listed' := #[true, true, true, true, true, true, true, true, true, true, true, true, false, true, false, false, false]) (by kernel_rfl) (by kernel_rfl) ?_
                  refine at_do (d := 12) (s := vS (Instr.alloc 24 true (.tuple #[]))) (v := .pointer (some ⟨w.heap.size, 0, none⟩)) (w' := w.alloc (.cells #[.int .i64 0, .int .i64 0, .slice none 0 0] 24)) hF (by kernel_rfl) (by kernel_rfl) (by kernel_rfl) (fun a hF => ?_)
                  have hS : Sep w0 B (w.alloc (.cells #[.int .i64 0, .int .i64 0, .slice none 0 0] 24)) (blk w.heap.size 24 #[.int .i64 0, .int .i64 0, .slice none 0 0] :: (own 3 (.slice A11 r3.2.2.1.length c11) (vI r3.2.2.1) :: blk g5 24 #[.int .i64 0, .int .i64 0, .slice none 0 0] :: blk g6 25 (List.toArray (([] : List Value) ++ (arr1 (Value.int .i64) (0 : Int) 2 (List.replicate 2 (0 : Int)) ++ ([] : List Value)))) :: pg1 :: els encP24 Rel24 pg1 24 3 A5 boards1.length c5 raw1 boards1 :: blk g8 25 (List.toArray (([] : List Value) ++ (arr1 (Value.int .i64) (0 : Int) 2 taken1 ++ ([] : List Value)))) :: blk g9 24 #[.int .i64 now1, .int .i64 now2, .slice A6 now3.length c6] :: fs)) := hS.box 24 #[.int .i64 0, .int .i64 0, .slice none 0 0]
                  generalize w.heap.size = g10 at hF hS
                  generalize w.alloc (.cells #[.int .i64 0, .int .i64 0, .slice none 0 0] 24) = w at hS ⊢
                  refine any_fin rfl (hS.pickN 8 [2, 3, 4, 5, 6, 7] (by decide)) ?_
                  exact sh7 _ _ ⟨g10, A11, c11, hF.weak [1, 4, 5, 8, 9, 10, 11, 12, 53, 63, 64] (by kernel_rfl), hS⟩
              refine any_share 3 #[true, true, true, true, true, true, true, true, true, true, true, false, true, true, true, false, false] (fun a w => ∃ g10 A11 c11, Fr 104 [pl 1 (.slice A2 moves1.length c2), pl 4 (.pointer (some ⟨g5, 0, none⟩)), pl 5 (.pointer (some ⟨g6, 0, none⟩)), pl 8 (.slice A5 boards1.length c5), pl 9 (.pointer (some ⟨g8, 0, none⟩)), pl 10 (.pointer (some ⟨g9, 0, none⟩)), pl 11 (.int .i64 i1), pl 12 (.pointer (some ⟨g10, 0, none⟩)), pl 53 (.tuple #[.agg #[.int .i64 r3.1, .int .i64 r3.2.1, .slice A11 r3.2.2.1.length c11], .int .i64 r3.2.2.2.1, .int .i64 r3.2.2.2.2]), pl 65 (.int .i64 r3.2.2.2.2)] a ∧ Sep w0 B w (blk g10 24 #[.int .i64 r3.1, .int .i64 r3.2.1, .slice A11 r3.2.2.1.length c11] :: own 3 (.slice A11 r3.2.2.1.length c11) (vI r3.2.2.1) :: blk g5 24 #[.int .i64 0, .int .i64 0, .slice none 0 0] :: blk g6 25 (List.toArray (([] : List Value) ++ (arr1 (Value.int .i64) (0 : Int) 2 (List.replicate 2 (0 : Int)) ++ ([] : List Value)))) :: pg1 :: els encP24 Rel24 pg1 24 3 A5 boards1.length c5 raw1 boards1 :: blk g8 25 (List.toArray (([] : List Value) ++ (arr1 (Value.int .i64) (0 : Int) 2 taken1 ++ ([] : List Value)))) :: blk g9 24 #[.int .i64 now1, .int .i64 now2, .slice A6 now3.length c6] :: fs)) (fun a w hI => ?_) (fun sh9 => ?_)
              · obtain ⟨g10, A11, c11, hF, hS⟩ := hI
                refine any_step [11] (by kernel_rfl) rfl ?_
                refine (all_cons ?_ all_nil)
                · refine any_op (listed' := #[true, true, true, true, true, true, true, true, true, true, true, true, true, true, true, false, false]) (by kernel_rfl) (by kernel_rfl) ?_
                  refine at_runW 1 [] [] [1, 4, 5, 8, 9, 10, 11, 12, 64, 65] [pl 1 (.slice A2 moves1.length c2), pl 4 (.pointer (some ⟨g5, 0, none⟩)), pl 5 (.pointer (some ⟨g6, 0, none⟩)), pl 8 (.slice A5 boards1.length c5), pl 9 (.pointer (some ⟨g8, 0, none⟩)), pl 10 (.pointer (some ⟨g9, 0, none⟩)), pl 11 (.int .i64 i1), pl 12 (.pointer (some ⟨g10, 0, none⟩)), pl 64 (.int .i64 r3.2.2.2.1), pl 65 (.int .i64 r3.2.2.2.2)] hF hS (by kernel_rfl) (by kernel_rfl) ?_ (fun a hF => ?_)
                  · exact obs_nil
                  refine any_finI rfl (fun h => h) ?_
                  exact sh3 _ _ ⟨g10, A11, c11, hF.weak [1, 4, 5, 8, 9, 10, 11, 12, 64, 65] (by kernel_rfl), hS⟩
              refine any_share 4 #[true, true, true, true, true, true, true, true, true, true, true, false, true, true, false, false, false] (fun a w => ∃ g10 A11 c11, Fr 104 [pl 1 (.slice A2 moves1.length c2), pl 4 (.pointer (some ⟨g5, 0, none⟩)), pl 5 (.pointer (some ⟨g6, 0, none⟩)), pl 8 (.slice A5 boards1.length c5), pl 9 (.pointer (some ⟨g8, 0, none⟩)), pl 10 (.pointer (some ⟨g9, 0, none⟩)), pl 11 (.int .i64 i1), pl 12 (.pointer (some ⟨g10, 0, none⟩)), pl 53 (.tuple #[.agg #[.int .i64 r3.1, .int .i64 r3.2.1, .slice A11 r3.2.2.1.length c11], .int .i64 r3.2.2.2.1, .int .i64 r3.2.2.2.2]), pl 63 (.agg #[.int .i64 r3.1, .int .i64 r3.2.1, .slice A11 r3.2.2.1.length c11]), pl 65 (.int .i64 r3.2.2.2.2)] a ∧ Sep w0 B w (blk g10 24 #[.int .i64 0, .int .i64 0, .slice none 0 0] :: own 3 (.slice A11 r3.2.2.1.length c11) (vI r3.2.2.1) :: blk g5 24 #[.int .i64 0, .int .i64 0, .slice none 0 0] :: blk g6 25 (List.toArray (([] : List Value) ++ (arr1 (Value.int .i64) (0 : Int) 2 (List.replicate 2 (0 : Int)) ++ ([] : List Value)))) :: pg1 :: els encP24 Rel24 pg1 24 3 A5 boards1.length c5 raw1 boards1 :: blk g8 25 (List.toArray (([] : List Value) ++ (arr1 (Value.int .i64) (0 : Int) 2 taken1 ++ ([] : List Value)))) :: blk g9 24 #[.int .i64 now1, .int .i64 now2, .slice A6 now3.length c6] :: fs)) (fun a w hI => ?_) (fun sh10 => ?_)
              · obtain ⟨g10, A11, c11, hF, hS⟩ := hI
                refine any_step [11, 14] (by kernel_rfl) rfl ?_
                refine (all_cons ?_ (all_cons ?_ all_nil))
                · refine any_op (listed' := #[true, true, true, true, true, true, true, true, true, true, true, true, true, true, false, false, false]) (by kernel_rfl) (by kernel_rfl) ?_
                  refine at_runW 1 [] [] [1, 4, 5, 8, 9, 10, 11, 12, 63, 64, 65] [pl 1 (.slice A2 moves1.length c2), pl 4 (.pointer (some ⟨g5, 0, none⟩)), pl 5 (.pointer (some ⟨g6, 0, none⟩)), pl 8 (.slice A5 boards1.length c5), pl 9 (.pointer (some ⟨g8, 0, none⟩)), pl 10 (.pointer (some ⟨g9, 0, none⟩)), pl 11 (.int .i64 i1), pl 12 (.pointer (some ⟨g10, 0, none⟩)), pl 63 (.agg #[.int .i64 r3.1, .int .i64 r3.2.1, .slice A11 r3.2.2.1.length c11]), pl 64 (.int .i64 r3.2.2.2.1), pl 65 (.int .i64 r3.2.2.2.2)] hF hS (by kernel_rfl) (by kernel_rfl) ?_ (fun a hF => ?_)
                  · exact obs_nil
                  refine any_finI rfl (fun h => h) ?_
                  exact sh4 _ _ ⟨g10, A11, c11, hF.weak [1, 4, 5, 8, 9, 10, 11, 12, 63, 64, 65] (by kernel_rfl), hS⟩
                · refine any_op (listed' := #[true, true, true, true, true, true, true, true, true, true, true, false, true, true, true, false, false]) (by kernel_rfl) (by kernel_rfl) ?_
                  obtain ⟨w, hrun, hS⟩ := run_putA (P := Try.prog) (t := 24) (us := #[.int .i64 r3.1, .int .i64 r3.2.1, .slice A11 r3.2.2.1.length c11]) (o := 0) (hS.at_ 0 rfl) (by kernel_rfl) (all_one (by kernel_rfl)) (Nat.le_of_ble_eq_true (by kernel_rfl))
                  refine at_skip hF (by kernel_rfl) hrun ?_
                  have hS : Sep w0 B w (blk g10 24 #[.int .i64 r3.1, .int .i64 r3.2.1, .slice A11 r3.2.2.1.length c11] :: own 3 (.slice A11 r3.2.2.1.length c11) (vI r3.2.2.1) :: blk g5 24 #[.int .i64 0, .int .i64 0, .slice none 0 0] :: blk g6 25 (List.toArray (([] : List Value) ++ (arr1 (Value.int .i64) (0 : Int) 2 (List.replicate 2 (0 : Int)) ++ ([] : List Value)))) :: pg1 :: els encP24 Rel24 pg1 24 3 A5 boards1.length c5 raw1 boards1 :: blk g8 25 (List.toArray (([] : List Value) ++ (arr1 (Value.int .i64) (0 : Int) 2 taken1 ++ ([] : List Value)))) :: blk g9 24 #[.int .i64 now1, .int .i64 now2, .slice A6 now3.length c6] :: fs) := hS
                  refine any_fin rfl (hS.pickN 8 [2, 3, 4, 5, 6, 7] (by decide)) ?_
                  exact sh9 _ _ ⟨g10, A11, c11, hF.weak [1, 4, 5, 8, 9, 10, 11, 12, 53, 65] (by kernel_rfl), hS⟩
              refine any_share 5 #[true, true, true, true, true, true, true, true, true, true, true, false, true, false, false, false, false] (fun a w => ∃ A11 c11, Fr 104 [pl 1 (.slice A2 moves1.length c2), pl 4 (.pointer (some ⟨g5, 0, none⟩)), pl 5 (.pointer (some ⟨g6, 0, none⟩)), pl 8 (.slice A5 boards1.length c5), pl 9 (.pointer (some ⟨g8, 0, none⟩)), pl 10 (.pointer (some ⟨g9, 0, none⟩)), pl 11 (.int .i64 i1), pl 53 (.tuple #[.agg #[.int .i64 r3.1, .int .i64 r3.2.1, .slice A11 r3.2.2.1.length c11], .int .i64 r3.2.2.2.1, .int .i64 r3.2.2.2.2]), pl 63 (.agg #[.int .i64 r3.1, .int .i64 r3.2.1, .slice A11 r3.2.2.1.length c11]), pl 65 (.int .i64 r3.2.2.2.2)] a ∧ Sep w0 B w (own 3 (.slice A11 r3.2.2.1.length c11) (vI r3.2.2.1) :: blk g5 24 #[.int .i64 0, .int .i64 0, .slice none 0 0] :: blk g6 25 (List.toArray (([] : List Value) ++ (arr1 (Value.int .i64) (0 : Int) 2 (List.replicate 2 (0 : Int)) ++ ([] : List Value)))) :: pg1 :: els encP24 Rel24 pg1 24 3 A5 boards1.length c5 raw1 boards1 :: blk g8 25 (List.toArray (([] : List Value) ++ (arr1 (Value.int .i64) (0 : Int) 2 taken1 ++ ([] : List Value)))) :: blk g9 24 #[.int .i64 now1, .int .i64 now2, .slice A6 now3.length c6] :: fs)) (fun a w hI => ?_) (fun sh11 => ?_)
              · obtain ⟨A11, c11, hF, hS⟩ := hI
                refine any_step [11, 13] (by kernel_rfl) rfl ?_
                refine (all_cons ?_ (all_cons ?_ all_nil))
                · refine any_op (listed' := #[true, true, true, true, true, true, true, true, true, true, true, true, true, false, false, false, false]) (by kernel_rfl) (by kernel_rfl) ?_
                  refine at_runW 1 [] [] [1, 4, 5, 8, 9, 10, 11, 63, 64, 65] [pl 1 (.slice A2 moves1.length c2), pl 4 (.pointer (some ⟨g5, 0, none⟩)), pl 5 (.pointer (some ⟨g6, 0, none⟩)), pl 8 (.slice A5 boards1.length c5), pl 9 (.pointer (some ⟨g8, 0, none⟩)), pl 10 (.pointer (some ⟨g9, 0, none⟩)), pl 11 (.int .i64 i1), pl 63 (.agg #[.int .i64 r3.1, .int .i64 r3.2.1, .slice A11 r3.2.2.1.length c11]), pl 64 (.int .i64 r3.2.2.2.1), pl 65 (.int .i64 r3.2.2.2.2)] hF hS (by kernel_rfl) (by kernel_rfl) ?_ (fun a hF => ?_)
                  · exact obs_nil
                  refine any_finI rfl (fun h => h) ?_
                  exact sh5 _ _ ⟨A11, c11, hF.weak [1, 4, 5, 8, 9, 10, 11, 63, 64, 65] (by kernel_rfl), hS⟩
                · refine any_op (listed' := #[true, true, true, true, true, true, true, true, true, true, true, false, true, true, false, false, false]) (by kernel_rfl) (by kernel_rfl) ?_
                  refine at_do (d := 12) (s := vS (Instr.alloc 24 true (.tuple #[]))) (v := .pointer (some ⟨w.heap.size, 0, none⟩)) (w' := w.alloc (.cells #[.int .i64 0, .int .i64 0, .slice none 0 0] 24)) hF (by kernel_rfl) (by kernel_rfl) (by kernel_rfl) (fun a hF => ?_)
                  have hS : Sep w0 B (w.alloc (.cells #[.int .i64 0, .int .i64 0, .slice none 0 0] 24)) (blk w.heap.size 24 #[.int .i64 0, .int .i64 0, .slice none 0 0] :: (own 3 (.slice A11 r3.2.2.1.length c11) (vI r3.2.2.1) :: blk g5 24 #[.int .i64 0, .int .i64 0, .slice none 0 0] :: blk g6 25 (List.toArray (([] : List Value) ++ (arr1 (Value.int .i64) (0 : Int) 2 (List.replicate 2 (0 : Int)) ++ ([] : List Value)))) :: pg1 :: els encP24 Rel24 pg1 24 3 A5 boards1.length c5 raw1 boards1 :: blk g8 25 (List.toArray (([] : List Value) ++ (arr1 (Value.int .i64) (0 : Int) 2 taken1 ++ ([] : List Value)))) :: blk g9 24 #[.int .i64 now1, .int .i64 now2, .slice A6 now3.length c6] :: fs)) := hS.box 24 #[.int .i64 0, .int .i64 0, .slice none 0 0]
                  generalize w.heap.size = g10 at hF hS
                  generalize w.alloc (.cells #[.int .i64 0, .int .i64 0, .slice none 0 0] 24) = w at hS ⊢
                  refine any_fin rfl (hS.pickN 8 [2, 3, 4, 5, 6, 7] (by decide)) ?_
                  exact sh10 _ _ ⟨g10, A11, c11, hF.weak [1, 4, 5, 8, 9, 10, 11, 12, 53, 63, 65] (by kernel_rfl), hS⟩
              refine any_share 5 #[true, true, true, true, true, true, true, true, true, true, true, false, false, true, false, false, false] (fun a w => ∃ g10 A11 c11, Fr 104 [pl 1 (.slice A2 moves1.length c2), pl 4 (.pointer (some ⟨g5, 0, none⟩)), pl 5 (.pointer (some ⟨g6, 0, none⟩)), pl 8 (.slice A5 boards1.length c5), pl 9 (.pointer (some ⟨g8, 0, none⟩)), pl 10 (.pointer (some ⟨g9, 0, none⟩)), pl 11 (.int .i64 i1), pl 12 (.pointer (some ⟨g10, 0, none⟩)), pl 53 (.tuple #[.agg #[.int .i64 r3.1, .int .i64 r3.2.1, .slice A11 r3.2.2.1.length c11], .int .i64 r3.2.2.2.1, .int .i64 r3.2.2.2.2]), pl 63 (.agg #[.int .i64 r3.1, .int .i64 r3.2.1, .slice A11 r3.2.2.1.length c11])] a ∧ Sep w0 B w (blk g10 24 #[.int .i64 0, .int .i64 0, .slice none 0 0] :: own 3 (.slice A11 r3.2.2.1.length c11) (vI r3.2.2.1) :: blk g5 24 #[.int .i64 0, .int .i64 0, .slice none 0 0] :: blk g6 25 (List.toArray (([] : List Value) ++ (arr1 (Value.int .i64) (0 : Int) 2 (List.replicate 2 (0 : Int)) ++ ([] : List Value)))) :: pg1 :: els encP24 Rel24 pg1 24 3 A5 boards1.length c5 raw1 boards1 :: blk g8 25 (List.toArray (([] : List Value) ++ (arr1 (Value.int .i64) (0 : Int) 2 taken1 ++ ([] : List Value)))) :: blk g9 24 #[.int .i64 now1, .int .i64 now2, .slice A6 now3.length c6] :: fs)) (fun a w hI => ?_) (fun sh12 => ?_)
              · obtain ⟨g10, A11, c11, hF, hS⟩ := hI
                refine any_step [11, 12, 14] (by kernel_rfl) rfl ?_
                refine (all_cons ?_ (all_cons ?_ (all_cons ?_ all_nil)))
                · refine any_op (listed' := #[true, true, true, true, true, true, true, true, true, true, true, true, false, true, false, false, false]) (by kernel_rfl) (by kernel_rfl) ?_
                  refine at_runW 1 [] [] [1, 4, 5, 8, 9, 10, 11, 12, 53, 63, 64] [pl 1 (.slice A2 moves1.length c2), pl 4 (.pointer (some ⟨g5, 0, none⟩)), pl 5 (.pointer (some ⟨g6, 0, none⟩)), pl 8 (.slice A5 boards1.length c5), pl 9 (.pointer (some ⟨g8, 0, none⟩)), pl 10 (.pointer (some ⟨g9, 0, none⟩)), pl 11 (.int .i64 i1), pl 12 (.pointer (some ⟨g10, 0, none⟩)), pl 53 (.tuple #[.agg #[.int .i64 r3.1, .int .i64 r3.2.1, .slice A11 r3.2.2.1.length c11], .int .i64 r3.2.2.2.1, .int .i64 r3.2.2.2.2]), pl 63 (.agg #[.int .i64 r3.1, .int .i64 r3.2.1, .slice A11 r3.2.2.1.length c11]), pl 64 (.int .i64 r3.2.2.2.1)] hF hS (by kernel_rfl) (by kernel_rfl) ?_ (fun a hF => ?_)
                  · exact obs_nil
                  refine any_finI rfl (fun h => h) ?_
                  exact sh7 _ _ ⟨g10, A11, c11, hF.weak [1, 4, 5, 8, 9, 10, 11, 12, 53, 63, 64] (by kernel_rfl), hS⟩
                · refine any_op (listed' := #[true, true, true, true, true, true, true, true, true, true, true, false, true, true, false, false, false]) (by kernel_rfl) (by kernel_rfl) ?_
                  refine at_runW 1 [] [] [1, 4, 5, 8, 9, 10, 11, 12, 53, 63, 65] [pl 1 (.slice A2 moves1.length c2), pl 4 (.pointer (some ⟨g5, 0, none⟩)), pl 5 (.pointer (some ⟨g6, 0, none⟩)), pl 8 (.slice A5 boards1.length c5), pl 9 (.pointer (some ⟨g8, 0, none⟩)), pl 10 (.pointer (some ⟨g9, 0, none⟩)), pl 11 (.int .i64 i1), pl 12 (.pointer (some ⟨g10, 0, none⟩)), pl 53 (.tuple #[.agg #[.int .i64 r3.1, .int .i64 r3.2.1, .slice A11 r3.2.2.1.length c11], .int .i64 r3.2.2.2.1, .int .i64 r3.2.2.2.2]), pl 63 (.agg #[.int .i64 r3.1, .int .i64 r3.2.1, .slice A11 r3.2.2.1.length c11]), pl 65 (.int .i64 r3.2.2.2.2)] hF hS (by kernel_rfl) (by kernel_rfl) ?_ (fun a hF => ?_)
                  · exact obs_nil
                  refine any_finI rfl (fun h => h) ?_
                  exact sh10 _ _ ⟨g10, A11, c11, hF.weak [1, 4, 5, 8, 9, 10, 11, 12, 53, 63, 65] (by kernel_rfl), hS⟩
                · refine any_op (listed' := #[true, true, true, true, true, true, true, true, true, true, true, false, false, true, true, false, false]) (by kernel_rfl) (by kernel_rfl) ?_
                  obtain ⟨w, hrun, hS⟩ := run_putA (P := Try.prog) (t := 24) (us := #[.int .i64 r3.1, .int .i64 r3.2.1, .slice A11 r3.2.2.1.length c11]) (o := 0) (hS.at_ 0 rfl) (by kernel_rfl) (all_one (by kernel_rfl)) (Nat.le_of_ble_eq_true (by kernel_rfl))
                  refine at_skip hF (by kernel_rfl) hrun ?_
                  have hS : Sep w0 B w (blk g10 24 #[.int .i64 r3.1, .int .i64 r3.2.1, .slice A11 r3.2.2.1.length c11] :: own 3 (.slice A11 r3.2.2.1.length c11) (vI r3.2.2.1) :: blk g5 24 #[.int .i64 0, .int .i64 0, .slice none 0 0] :: blk g6 25 (List.toArray (([] : List Value) ++ (arr1 (Value.int .i64) (0 : Int) 2 (List.replicate 2 (0 : Int)) ++ ([] : List Value)))) :: pg1 :: els encP24 Rel24 pg1 24 3 A5 boards1.length c5 raw1 boards1 :: blk g8 25 (List.toArray (([] : List Value) ++ (arr1 (Value.int .i64) (0 : Int) 2 taken1 ++ ([] : List Value)))) :: blk g9 24 #[.int .i64 now1, .int .i64 now2, .slice A6 now3.length c6] :: fs) := hS
                  refine any_fin rfl (hS.pickN 8 [2, 3, 4, 5, 6, 7] (by decide)) ?_
                  refine any_step [11, 12] (by kernel_rfl) rfl ?_
                  refine (all_cons ?_ (all_cons ?_ all_nil))
                  · refine any_op (listed' := #[true, true, true, true, true, true, true, true, true, true, true, true, false, true, true, false, false]) (by kernel_rfl) (by kernel_rfl) ?_
                    refine at_runW 1 [] [] [1, 4, 5, 8, 9, 10, 11, 12, 53, 64] [pl 1 (.slice A2 moves1.length c2), pl 4 (.pointer (some ⟨g5, 0, none⟩)), pl 5 (.pointer (some ⟨g6, 0, none⟩)), pl 8 (.slice A5 boards1.length c5), pl 9 (.pointer (some ⟨g8, 0, none⟩)), pl 10 (.pointer (some ⟨g9, 0, none⟩)), pl 11 (.int .i64 i1), pl 12 (.pointer (some ⟨g10, 0, none⟩)), pl 53 (.tuple #[.agg #[.int .i64 r3.1, .int .i64 r3.2.1, .slice A11 r3.2.2.1.length c11], .int .i64 r3.2.2.2.1, .int .i64 r3.2.2.2.2]), pl 64 (.int .i64 r3.2.2.2.1)] hF hS (by kernel_rfl) (by kernel_rfl) ?_ (fun a hF => ?_)
                    · exact obs_nil
                    refine any_finI rfl (fun h => h) ?_
                    exact sh6 _ _ ⟨g10, A11, c11, hF.weak [1, 4, 5, 8, 9, 10, 11, 12, 53, 64] (by kernel_rfl), hS⟩
                  · refine any_op (listed' := #[true, true, true, true, true, true, true, true, true, true, true, false, true, true, true, false, false]) (by kernel_rfl) (by kernel_rfl) ?_
                    refine at_runW 1 [] [] [1, 4, 5, 8, 9, 10, 11, 12, 53, 65] [pl 1 (.slice A2 moves1.length c2), pl 4 (.pointer (some ⟨g5, 0, none⟩)), pl 5 (.pointer (some ⟨g6, 0, none⟩)), pl 8 (.slice A5 boards1.length c5), pl 9 (.pointer (some ⟨g8, 0, none⟩)), pl 10 (.pointer (some ⟨g9, 0, none⟩)), pl 11 (.int .i64 i1), pl 12 (.pointer (some ⟨g10, 0, none⟩)), pl 53 (.tuple #[.agg #[.int .i64 r3.1, .int .i64 r3.2.1, .slice A11 r3.2.2.1.length c11], .int .i64 r3.2.2.2.1, .int .i64 r3.2.2.2.2]), pl 65 (.int .i64 r3.2.2.2.2)] hF hS (by kernel_rfl) (by kernel_rfl) ?_ (fun a hF => ?_)
                    · exact obs_nil
                    refine any_finI rfl (fun h => h) ?_
                    exact sh9 _ _ ⟨g10, A11, c11, hF.weak [1, 4, 5, 8, 9, 10, 11, 12, 53, 65] (by kernel_rfl), hS⟩
              refine any_share 4 #[true, true, true, true, true, true, true, true, true, true, false, true, true, true, false, false, false] (fun a w => ∃ g10 A11 c11, Fr 104 [pl 1 (.slice A2 moves1.length c2), pl 4 (.pointer (some ⟨g5, 0, none⟩)), pl 5 (.pointer (some ⟨g6, 0, none⟩)), pl 8 (.slice A5 boards1.length c5), pl 9 (.pointer (some ⟨g8, 0, none⟩)), pl 10 (.pointer (some ⟨g9, 0, none⟩)), pl 11 (.int .i64 i1), pl 12 (.pointer (some ⟨g10, 0, none⟩)), pl 53 (.tuple #[.agg #[.int .i64 r3.1, .int .i64 r3.2.1, .slice A11 r3.2.2.1.length c11], .int .i64 r3.2.2.2.1, .int .i64 r3.2.2.2.2]), pl 64 (.int .i64 r3.2.2.2.1), pl 65 (.int .i64 r3.2.2.2.2)] a ∧ Sep w0 B w (blk g10 24 #[.int .i64 0, .int .i64 0, .slice none 0 0] :: own 3 (.slice A11 r3.2.2.1.length c11) (vI r3.2.2.1) :: blk g5 24 #[.int .i64 0, .int .i64 0, .slice none 0 0] :: blk g6 25 (List.toArray (([] : List Value) ++ (arr1 (Value.int .i64) (0 : Int) 2 (List.replicate 2 (0 : Int)) ++ ([] : List Value)))) :: pg1 :: els encP24 Rel24 pg1 24 3 A5 boards1.length c5 raw1 boards1 :: blk g8 25 (List.toArray (([] : List Value) ++ (arr1 (Value.int .i64) (0 : Int) 2 taken1 ++ ([] : List Value)))) :: blk g9 24 #[.int .i64 now1, .int .i64 now2, .slice A6 now3.length c6] :: fs)) (fun a w hI => ?_) (fun sh13 => ?_)
              · obtain ⟨g10, A11, c11, hF, hS⟩ := hI
                refine any_step [10] (by kernel_rfl) rfl ?_
                refine (all_cons ?_ all_nil)
                · refine any_op (listed' := #[true, true, true, true, true, true, true, true, true, true, true, true, true, true, false, false, false]) (by kernel_rfl) (by kernel_rfl) ?_
                  refine at_runW 1 [] [] [1, 4, 5, 8, 9, 10, 11, 12, 63, 64, 65] [pl 1 (.slice A2 moves1.length c2), pl 4 (.pointer (some ⟨g5, 0, none⟩)), pl 5 (.pointer (some ⟨g6, 0, none⟩)), pl 8 (.slice A5 boards1.length c5), pl 9 (.pointer (some ⟨g8, 0, none⟩)), pl 10 (.pointer (some ⟨g9, 0, none⟩)), pl 11 (.int .i64 i1), pl 12 (.pointer (some ⟨g10, 0, none⟩)), pl 63 (.agg #[.int .i64 r3.1, .int .i64 r3.2.1, .slice A11 r3.2.2.1.length c11]), pl 64 (.int .i64 r3.2.2.2.1), pl 65 (.int .i64 r3.2.2.2.2)] hF hS (by kernel_rfl) (by kernel_rfl) ?_ (fun a hF => ?_)
                  · exact obs_nil
                  refine any_finI rfl (fun h => h) ?_
                  exact sh4 _ _ ⟨g10, A11, c11, hF.weak [1, 4, 5, 8, 9, 10, 11, 12, 63, 64, 65] (by kernel_rfl), hS⟩
              refine any_share 5 #[true, true, true, true, true, true, true, true, true, true, false, true, true, false, false, false, false] (fun a w => ∃ A11 c11, Fr 104 [pl 1 (.slice A2 moves1.length c2), pl 4 (.pointer (some ⟨g5, 0, none⟩)), pl 5 (.pointer (some ⟨g6, 0, none⟩)), pl 8 (.slice A5 boards1.length c5), pl 9 (.pointer (some ⟨g8, 0, none⟩)), pl 10 (.pointer (some ⟨g9, 0, none⟩)), pl 11 (.int .i64 i1), pl 53 (.tuple #[.agg #[.int .i64 r3.1, .int .i64 r3.2.1, .slice A11 r3.2.2.1.length c11], .int .i64 r3.2.2.2.1, .int .i64 r3.2.2.2.2]), pl 64 (.int .i64 r3.2.2.2.1), pl 65 (.int .i64 r3.2.2.2.2)] a ∧ Sep w0 B w (own 3 (.slice A11 r3.2.2.1.length c11) (vI r3.2.2.1) :: blk g5 24 #[.int .i64 0, .int .i64 0, .slice none 0 0] :: blk g6 25 (List.toArray (([] : List Value) ++ (arr1 (Value.int .i64) (0 : Int) 2 (List.replicate 2 (0 : Int)) ++ ([] : List Value)))) :: pg1 :: els encP24 Rel24 pg1 24 3 A5 boards1.length c5 raw1 boards1 :: blk g8 25 (List.toArray (([] : List Value) ++ (arr1 (Value.int .i64) (0 : Int) 2 taken1 ++ ([] : List Value)))) :: blk g9 24 #[.int .i64 now1, .int .i64 now2, .slice A6 now3.length c6] :: fs)) (fun a w hI => ?_) (fun sh14 => ?_)
              · obtain ⟨A11, c11, hF, hS⟩ := hI
                refine any_step [10, 13] (by kernel_rfl) rfl ?_
                refine (all_cons ?_ (all_cons ?_ all_nil))
                · refine any_op (listed' := #[true, true, true, true, true, true, true, true, true, true, true, true, true, false, false, false, false]) (by kernel_rfl) (by kernel_rfl) ?_
                  refine at_runW 1 [] [] [1, 4, 5, 8, 9, 10, 11, 63, 64, 65] [pl 1 (.slice A2 moves1.length c2), pl 4 (.pointer (some ⟨g5, 0, none⟩)), pl 5 (.pointer (some ⟨g6, 0, none⟩)), pl 8 (.slice A5 boards1.length c5), pl 9 (.pointer (some ⟨g8, 0, none⟩)), pl 10 (.pointer (some ⟨g9, 0, none⟩)), pl 11 (.int .i64 i1), pl 63 (.agg #[.int .i64 r3.1, .int .i64 r3.2.1, .slice A11 r3.2.2.1.length c11]), pl 64 (.int .i64 r3.2.2.2.1), pl 65 (.int .i64 r3.2.2.2.2)] hF hS (by kernel_rfl) (by kernel_rfl) ?_ (fun a hF => ?_)
                  · exact obs_nil
                  refine any_finI rfl (fun h => h) ?_
                  exact sh5 _ _ ⟨A11, c11, hF.weak [1, 4, 5, 8, 9, 10, 11, 63, 64, 65] (by kernel_rfl), hS⟩
                · refine any_op (listed' := #[true, true, true, true, true, true, true, true, true, true, false, true, true, true, false, false, false]) (by kernel_rfl) (by kernel_rfl) ?_
                  refine at_do (d := 12) (s := vS (Instr.alloc 24 true (.tuple #[]))) (v := .pointer (some ⟨w.heap.size, 0, none⟩)) (w' := w.alloc (.cells #[.int .i64 0, .int .i64 0, .slice none 0 0] 24)) hF (by kernel_rfl) (by kernel_rfl) (by kernel_rfl) (fun a hF => ?_)
                  have hS : Sep w0 B (w.alloc (.cells #[.int .i64 0, .int .i64 0, .slice none 0 0] 24)) (blk w.heap.size 24 #[.int .i64 0, .int .i64 0, .slice none 0 0] :: (own 3 (.slice A11 r3.2.2.1.length c11) (vI r3.2.2.1) :: blk g5 24 #[.int .i64 0, .int .i64 0, .slice none 0 0] :: blk g6 25 (List.toArray (([] : List Value) ++ (arr1 (Value.int .i64) (0 : Int) 2 (List.replicate 2 (0 : Int)) ++ ([] : List Value)))) :: pg1 :: els encP24 Rel24 pg1 24 3 A5 boards1.length c5 raw1 boards1 :: blk g8 25 (List.toArray (([] : List Value) ++ (arr1 (Value.int .i64) (0 : Int) 2 taken1 ++ ([] : List Value)))) :: blk g9 24 #[.int .i64 now1, .int .i64 now2, .slice A6 now3.length c6] :: fs)) := hS.box 24 #[.int .i64 0, .int .i64 0, .slice none 0 0]
                  generalize w.heap.size = g10 at hF hS
                  generalize w.alloc (.cells #[.int .i64 0, .int .i64 0, .slice none 0 0] 24) = w at hS ⊢
                  refine any_fin rfl (hS.pickN 8 [2, 3, 4, 5, 6, 7] (by decide)) ?_
                  exact sh13 _ _ ⟨g10, A11, c11, hF.weak [1, 4, 5, 8, 9, 10, 11, 12, 53, 64, 65] (by kernel_rfl), hS⟩
              refine any_share 5 #[true, true, true, true, true, true, true, true, true, true, false, true, false, true, false, false, false] (fun a w => ∃ g10 A11 c11, Fr 104 [pl 1 (.slice A2 moves1.length c2), pl 4 (.pointer (some ⟨g5, 0, none⟩)), pl 5 (.pointer (some ⟨g6, 0, none⟩)), pl 8 (.slice A5 boards1.length c5), pl 9 (.pointer (some ⟨g8, 0, none⟩)), pl 10 (.pointer (some ⟨g9, 0, none⟩)), pl 11 (.int .i64 i1), pl 12 (.pointer (some ⟨g10, 0, none⟩)), pl 53 (.tuple #[.agg #[.int .i64 r3.1, .int .i64 r3.2.1, .slice A11 r3.2.2.1.length c11], .int .i64 r3.2.2.2.1, .int .i64 r3.2.2.2.2]), pl 64 (.int .i64 r3.2.2.2.1)] a ∧ Sep w0 B w (blk g10 24 #[.int .i64 0, .int .i64 0, .slice none 0 0] :: own 3 (.slice A11 r3.2.2.1.length c11) (vI r3.2.2.1) :: blk g5 24 #[.int .i64 0, .int .i64 0, .slice none 0 0] :: blk g6 25 (List.toArray (([] : List Value) ++ (arr1 (Value.int .i64) (0 : Int) 2 (List.replicate 2 (0 : Int)) ++ ([] : List Value)))) :: pg1 :: els encP24 Rel24 pg1 24 3 A5 boards1.length c5 raw1 boards1 :: blk g8 25 (List.toArray (([] : List Value) ++ (arr1 (Value.int .i64) (0 : Int) 2 taken1 ++ ([] : List Value)))) :: blk g9 24 #[.int .i64 now1, .int .i64 now2, .slice A6 now3.length c6] :: fs)) (fun a w hI => ?_) (fun sh15 => ?_)
              · obtain ⟨g10, A11, c11, hF, hS⟩ := hI
                refine any_step [10, 12] (by kernel_rfl) rfl ?_
                refine (all_cons ?_ (all_cons ?_ all_nil))
                · refine any_op (listed' := #[true, true, true, true, true, true, true, true, true, true, true, true, false, true, false, false, false]) (by kernel_rfl) (by kernel_rfl) ?_
                  refine at_runW 1 [] [] [1, 4, 5, 8, 9, 10, 11, 12, 53, 63, 64] [pl 1 (.slice A2 moves1.length c2), pl 4 (.pointer (some ⟨g5, 0, none⟩)), pl 5 (.pointer (some ⟨g6, 0, none⟩)), pl 8 (.slice A5 boards1.length c5), pl 9 (.pointer (some ⟨g8, 0, none⟩)), pl 10 (.pointer (some ⟨g9, 0, none⟩)), pl 11 (.int .i64 i1), pl 12 (.pointer (some ⟨g10, 0, none⟩)), pl 53 (.tuple #[.agg #[.int .i64 r3.1, .int .i64 r3.2.1, .slice A11 r3.2.2.1.length c11], .int .i64 r3.2.2.2.1, .int .i64 r3.2.2.2.2]), pl 63 (.agg #[.int .i64 r3.1, .int .i64 r3.2.1, .slice A11 r3.2.2.1.length c11]), pl 64 (.int .i64 r3.2.2.2.1)] hF hS (by kernel_rfl) (by kernel_rfl) ?_ (fun a hF => ?_)
                  · exact obs_nil
                  refine any_finI rfl (fun h => h) ?_
                  exact sh7 _ _ ⟨g10, A11, c11, hF.weak [1, 4, 5, 8, 9, 10, 11, 12, 53, 63, 64] (by kernel_rfl), hS⟩
                · refine any_op (listed' := #[true, true, true, true, true, true, true, true, true, true, false, true, true, true, false, false, false]) (by kernel_rfl) (by kernel_rfl) ?_
                  refine at_runW 1 [] [] [1, 4, 5, 8, 9, 10, 11, 12, 53, 64, 65] [pl 1 (.slice A2 moves1.length c2), pl 4 (.pointer (some ⟨g5, 0, none⟩)), pl 5 (.pointer (some ⟨g6, 0, none⟩)), pl 8 (.slice A5 boards1.length c5), pl 9 (.pointer (some ⟨g8, 0, none⟩)), pl 10 (.pointer (some ⟨g9, 0, none⟩)), pl 11 (.int .i64 i1), pl 12 (.pointer (some ⟨g10, 0, none⟩)), pl 53 (.tuple #[.agg #[.int .i64 r3.1, .int .i64 r3.2.1, .slice A11 r3.2.2.1.length c11], .int .i64 r3.2.2.2.1, .int .i64 r3.2.2.2.2]), pl 64 (.int .i64 r3.2.2.2.1), pl 65 (.int .i64 r3.2.2.2.2)] hF hS (by kernel_rfl) (by kernel_rfl) ?_ (fun a hF => ?_)
                  · exact obs_nil
                  refine any_finI rfl (fun h => h) ?_
                  exact sh13 _ _ ⟨g10, A11, c11, hF.weak [1, 4, 5, 8, 9, 10, 11, 12, 53, 64, 65] (by kernel_rfl), hS⟩
              refine any_share 5 #[true, true, true, true, true, true, true, true, true, true, false, false, true, true, false, false, false] (fun a w => ∃ g10 A11 c11, Fr 104 [pl 1 (.slice A2 moves1.length c2), pl 4 (.pointer (some ⟨g5, 0, none⟩)), pl 5 (.pointer (some ⟨g6, 0, none⟩)), pl 8 (.slice A5 boards1.length c5), pl 9 (.pointer (some ⟨g8, 0, none⟩)), pl 10 (.pointer (some ⟨g9, 0, none⟩)), pl 11 (.int .i64 i1), pl 12 (.pointer (some ⟨g10, 0, none⟩)), pl 53 (.tuple #[.agg #[.int .i64 r3.1, .int .i64 r3.2.1, .slice A11 r3.2.2.1.length c11], .int .i64 r3.2.2.2.1, .int .i64 r3.2.2.2.2]), pl 65 (.int .i64 r3.2.2.2.2)] a ∧ Sep w0 B w (blk g10 24 #[.int .i64 0, .int .i64 0, .slice none 0 0] :: own 3 (.slice A11 r3.2.2.1.length c11) (vI r3.2.2.1) :: blk g5 24 #[.int .i64 0, .int .i64 0, .slice none 0 0] :: blk g6 25 (List.toArray (([] : List Value) ++ (arr1 (Value.int .i64) (0 : Int) 2 (List.replicate 2 (0 : Int)) ++ ([] : List Value)))) :: pg1 :: els encP24 Rel24 pg1 24 3 A5 boards1.length c5 raw1 boards1 :: blk g8 25 (List.toArray (([] : List Value) ++ (arr1 (Value.int .i64) (0 : Int) 2 taken1 ++ ([] : List Value)))) :: blk g9 24 #[.int .i64 now1, .int .i64 now2, .slice A6 now3.length c6] :: fs)) (fun a w hI => ?_) (fun sh16 => ?_)
              · obtain ⟨g10, A11, c11, hF, hS⟩ := hI
                refine any_step [10, 11] (by kernel_rfl) rfl ?_
                refine (all_cons ?_ (all_cons ?_ all_nil))
                · refine any_op (listed' := #[true, true, true, true, true, true, true, true, true, true, true, false, true, true, false, false, false]) (by kernel_rfl) (by kernel_rfl) ?_
                  refine at_runW 1 [] [] [1, 4, 5, 8, 9, 10, 11, 12, 53, 63, 65] [pl 1 (.slice A2 moves1.length c2), pl 4 (.pointer (some ⟨g5, 0, none⟩)), pl 5 (.pointer (some ⟨g6, 0, none⟩)), pl 8 (.slice A5 boards1.length c5), pl 9 (.pointer (some ⟨g8, 0, none⟩)), pl 10 (.pointer (some ⟨g9, 0, none⟩)), pl 11 (.int .i64 i1), pl 12 (.pointer (some ⟨g10, 0, none⟩)), pl 53 (.tuple #[.agg #[.int .i64 r3.1, .int .i64 r3.2.1, .slice A11 r3.2.2.1.length c11], .int .i64 r3.2.2.2.1, .int .i64 r3.2.2.2.2]), pl 63 (.agg #[.int .i64 r3.1, .int .i64 r3.2.1, .slice A11 r3.2.2.1.length c11]), pl 65 (.int .i64 r3.2.2.2.2)] hF hS (by kernel_rfl) (by kernel_rfl) ?_ (fun a hF => ?_)
                  · exact obs_nil
                  refine any_finI rfl (fun h => h) ?_
                  exact sh10 _ _ ⟨g10, A11, c11, hF.weak [1, 4, 5, 8, 9, 10, 11, 12, 53, 63, 65] (by kernel_rfl), hS⟩
                · refine any_op (listed' := #[true, true, true, true, true, true, true, true, true, true, false, true, true, true, false, false, false]) (by kernel_rfl) (by kernel_rfl) ?_
                  refine at_runW 1 [] [] [1, 4, 5, 8, 9, 10, 11, 12, 53, 64, 65] [pl 1 (.slice A2 moves1.length c2), pl 4 (.pointer (some ⟨g5, 0, none⟩)), pl 5 (.pointer (some ⟨g6, 0, none⟩)), pl 8 (.slice A5 boards1.length c5), pl 9 (.pointer (some ⟨g8, 0, none⟩)), pl 10 (.pointer (some ⟨g9, 0, none⟩)), pl 11 (.int .i64 i1), pl 12 (.pointer (some ⟨g10, 0, none⟩)), pl 53 (.tuple #[.agg #[.int .i64 r3.1, .int .i64 r3.2.1, .slice A11 r3.2.2.1.length c11], .int .i64 r3.2.2.2.1, .int .i64 r3.2.2.2.2]), pl 64 (.int .i64 r3.2.2.2.1), pl 65 (.int .i64 r3.2.2.2.2)] hF hS (by kernel_rfl) (by kernel_rfl) ?_ (fun a hF => ?_)
                  · exact obs_nil
                  refine any_finI rfl (fun h => h) ?_
                  exact sh13 _ _ ⟨g10, A11, c11, hF.weak [1, 4, 5, 8, 9, 10, 11, 12, 53, 64, 65] (by kernel_rfl), hS⟩
              refine any_share 6 #[true, true, true, true, true, true, true, true, true, true, false, false, false, true, false, false, false] (fun a w => ∃ g10 A11 c11, Fr 104 [pl 1 (.slice A2 moves1.length c2), pl 4 (.pointer (some ⟨g5, 0, none⟩)), pl 5 (.pointer (some ⟨g6, 0, none⟩)), pl 8 (.slice A5 boards1.length c5), pl 9 (.pointer (some ⟨g8, 0, none⟩)), pl 10 (.pointer (some ⟨g9, 0, none⟩)), pl 11 (.int .i64 i1), pl 12 (.pointer (some ⟨g10, 0, none⟩)), pl 53 (.tuple #[.agg #[.int .i64 r3.1, .int .i64 r3.2.1, .slice A11 r3.2.2.1.length c11], .int .i64 r3.2.2.2.1, .int .i64 r3.2.2.2.2])] a ∧ Sep w0 B w (blk g10 24 #[.int .i64 0, .int .i64 0, .slice none 0 0] :: own 3 (.slice A11 r3.2.2.1.length c11) (vI r3.2.2.1) :: blk g5 24 #[.int .i64 0, .int .i64 0, .slice none 0 0] :: blk g6 25 (List.toArray (([] : List Value) ++ (arr1 (Value.int .i64) (0 : Int) 2 (List.replicate 2 (0 : Int)) ++ ([] : List Value)))) :: pg1 :: els encP24 Rel24 pg1 24 3 A5 boards1.length c5 raw1 boards1 :: blk g8 25 (List.toArray (([] : List Value) ++ (arr1 (Value.int .i64) (0 : Int) 2 taken1 ++ ([] : List Value)))) :: blk g9 24 #[.int .i64 now1, .int .i64 now2, .slice A6 now3.length c6] :: fs)) (fun a w hI => ?_) (fun sh17 => ?_)
              · obtain ⟨g10, A11, c11, hF, hS⟩ := hI
                refine any_step [10, 11, 12] (by kernel_rfl) rfl ?_
                refine (all_cons ?_ (all_cons ?_ (all_cons ?_ all_nil)))
                · refine any_op (listed' := #[true, true, true, true, true, true, true, true, true, true, true, false, false, true, false, false, false]) (by kernel_rfl) (by kernel_rfl) ?_
                  refine at_runW 1 [] [] [1, 4, 5, 8, 9, 10, 11, 12, 53, 63] [pl 1 (.slice A2 moves1.length c2), pl 4 (.pointer (some ⟨g5, 0, none⟩)), pl 5 (.pointer (some ⟨g6, 0, none⟩)), pl 8 (.slice A5 boards1.length c5), pl 9 (.pointer (some ⟨g8, 0, none⟩)), pl 10 (.pointer (some ⟨g9, 0, none⟩)), pl 11 (.int .i64 i1), pl 12 (.pointer (some ⟨g10, 0, none⟩)), pl 53 (.tuple #[.agg #[.int .i64 r3.1, .int .i64 r3.2.1, .slice A11 r3.2.2.1.length c11], .int .i64 r3.2.2.2.1, .int .i64 r3.2.2.2.2]), pl 63 (.agg #[.int .i64 r3.1, .int .i64 r3.2.1, .slice A11 r3.2.2.1.length c11])] hF hS (by kernel_rfl) (by kernel_rfl) ?_ (fun a hF => ?_)
                  · exact obs_nil
                  refine any_finI rfl (fun h => h) ?_
                  exact sh12 _ _ ⟨g10, A11, c11, hF.weak [1, 4, 5, 8, 9, 10, 11, 12, 53, 63] (by kernel_rfl), hS⟩
                · refine any_op (listed' := #[true, true, true, true, true, true, true, true, true, true, false, true, false, true, false, false, false]) (by kernel_rfl) (by kernel_rfl) ?_
                  refine at_runW 1 [] [] [1, 4, 5, 8, 9, 10, 11, 12, 53, 64] [pl 1 (.slice A2 moves1.length c2), pl 4 (.pointer (some ⟨g5, 0, none⟩)), pl 5 (.pointer (some ⟨g6, 0, none⟩)), pl 8 (.slice A5 boards1.length c5), pl 9 (.pointer (some ⟨g8, 0, none⟩)), pl 10 (.pointer (some ⟨g9, 0, none⟩)), pl 11 (.int .i64 i1), pl 12 (.pointer (some ⟨g10, 0, none⟩)), pl 53 (.tuple #[.agg #[.int .i64 r3.1, .int .i64 r3.2.1, .slice A11 r3.2.2.1.length c11], .int .i64 r3.2.2.2.1, .int .i64 r3.2.2.2.2]), pl 64 (.int .i64 r3.2.2.2.1)] hF hS (by kernel_rfl) (by kernel_rfl) ?_ (fun a hF => ?_)
                  · exact obs_nil
                  refine any_finI rfl (fun h => h) ?_
                  exact sh15 _ _ ⟨g10, A11, c11, hF.weak [1, 4, 5, 8, 9, 10, 11, 12, 53, 64] (by kernel_rfl), hS⟩
                · refine any_op (listed' := #[true, true, true, true, true, true, true, true, true, true, false, false, true, true, false, false, false]) (by kernel_rfl) (by kernel_rfl) ?_
                  refine at_runW 1 [] [] [1, 4, 5, 8, 9, 10, 11, 12, 53, 65] [pl 1 (.slice A2 moves1.length c2), pl 4 (.pointer (some ⟨g5, 0, none⟩)), pl 5 (.pointer (some ⟨g6, 0, none⟩)), pl 8 (.slice A5 boards1.length c5), pl 9 (.pointer (some ⟨g8, 0, none⟩)), pl 10 (.pointer (some ⟨g9, 0, none⟩)), pl 11 (.int .i64 i1), pl 12 (.pointer (some ⟨g10, 0, none⟩)), pl 53 (.tuple #[.agg #[.int .i64 r3.1, .int .i64 r3.2.1, .slice A11 r3.2.2.1.length c11], .int .i64 r3.2.2.2.1, .int .i64 r3.2.2.2.2]), pl 65 (.int .i64 r3.2.2.2.2)] hF hS (by kernel_rfl) (by kernel_rfl) ?_ (fun a hF => ?_)
                  · exact obs_nil
                  refine any_finI rfl (fun h => h) ?_
                  exact sh16 _ _ ⟨g10, A11, c11, hF.weak [1, 4, 5, 8, 9, 10, 11, 12, 53, 65] (by kernel_rfl), hS⟩
              refine any_share 7 #[true, true, true, true, true, true, true, true, true, false, false, false, false, true, false, false, false] (fun a w => ∃ g10 A11 c11, Fr 104 [pl 1 (.slice A2 moves1.length c2), pl 4 (.pointer (some ⟨g5, 0, none⟩)), pl 5 (.pointer (some ⟨g6, 0, none⟩)), pl 8 (.slice A5 boards1.length c5), pl 9 (.pointer (some ⟨g8, 0, none⟩)), pl 10 (.pointer (some ⟨g9, 0, none⟩)), pl 11 (.int .i64 i1), pl 12 (.pointer (some ⟨g10, 0, none⟩)), pl 62 (.tuple #[.agg #[.int .i64 r3.1, .int .i64 r3.2.1, .slice A11 r3.2.2.1.length c11], .int .i64 r3.2.2.2.1, .int .i64 r3.2.2.2.2])] a ∧ Sep w0 B w (blk g10 24 #[.int .i64 0, .int .i64 0, .slice none 0 0] :: own 3 (.slice A11 r3.2.2.1.length c11) (vI r3.2.2.1) :: blk g5 24 #[.int .i64 0, .int .i64 0, .slice none 0 0] :: blk g6 25 (List.toArray (([] : List Value) ++ (arr1 (Value.int .i64) (0 : Int) 2 (List.replicate 2 (0 : Int)) ++ ([] : List Value)))) :: pg1 :: els encP24 Rel24 pg1 24 3 A5 boards1.length c5 raw1 boards1 :: blk g8 25 (List.toArray (([] : List Value) ++ (arr1 (Value.int .i64) (0 : Int) 2 taken1 ++ ([] : List Value)))) :: blk g9 24 #[.int .i64 now1, .int .i64 now2, .slice A6 now3.length c6] :: fs)) (fun a w hI => ?_) (fun sh18 => ?_)
              · obtain ⟨g10, A11, c11, hF, hS⟩ := hI
                refine any_step [9] (by kernel_rfl) rfl ?_
                refine (all_cons ?_ all_nil)
                · refine any_op (listed' := #[true, true, true, true, true, true, true, true, true, true, false, false, false, true, false, false, false]) (by kernel_rfl) (by kernel_rfl) ?_
                  refine at_runW 1 [] [] [1, 4, 5, 8, 9, 10, 11, 12, 53] [pl 1 (.slice A2 moves1.length c2), pl 4 (.pointer (some ⟨g5, 0, none⟩)), pl 5 (.pointer (some ⟨g6, 0, none⟩)), pl 8 (.slice A5 boards1.length c5), pl 9 (.pointer (some ⟨g8, 0, none⟩)), pl 10 (.pointer (some ⟨g9, 0, none⟩)), pl 11 (.int .i64 i1), pl 12 (.pointer (some ⟨g10, 0, none⟩)), pl 53 (.tuple #[.agg #[.int .i64 r3.1, .int .i64 r3.2.1, .slice A11 r3.2.2.1.length c11], .int .i64 r3.2.2.2.1, .int .i64 r3.2.2.2.2])] hF hS (by kernel_rfl) (by kernel_rfl) ?_ (fun a hF => ?_)
                  · exact obs_nil
                  refine any_finI rfl (fun h => h) ?_
                  exact sh17 _ _ ⟨g10, A11, c11, hF.weak [1, 4, 5, 8, 9, 10, 11, 12, 53] (by kernel_rfl), hS⟩
              refine any_step [8, 13] (by kernel_rfl) rfl ?_
              refine (all_cons ?_ (all_cons ?_ all_nil))
              · refine any_op (listed' := #[true, true, true, true, true, true, true, true, true, false, false, false, false, false, false, false, false]) (by kernel_rfl) (by kernel_rfl) ?_
                refine at_call (f := 44) (args := #[.agg #[.int .i64 now1, .int .i64 now2, .slice A6 now3.length c6], .int .i64 (w64 (1 + (Int.tmod i1 2))), .int .i64 (geti moves1 i1)]) (d := 62) hF (by kernel_rfl) (by kernel_rfl) Try.func44 (by kernel_rfl) rfl (gameroomref_PutStone_w hr3 hS (fun _ hS => (hp1.at_ hS 2 rfl)) hc2 rfl) (fun v a w hR hF => ?_)
                clear hS
                obtain ⟨A11, c11, rfl, hS⟩ := hR
                have hS : Sep w0 B w (own 3 (.slice A11 r3.2.2.1.length c11) (vI r3.2.2.1) :: blk g5 24 #[.int .i64 0, .int .i64 0, .slice none 0 0] :: blk g6 25 (List.toArray (([] : List Value) ++ (arr1 (Value.int .i64) (0 : Int) 2 (List.replicate 2 (0 : Int)) ++ ([] : List Value)))) :: pg1 :: els encP24 Rel24 pg1 24 3 A5 boards1.length c5 raw1 boards1 :: blk g8 25 (List.toArray (([] : List Value) ++ (arr1 (Value.int .i64) (0 : Int) 2 taken1 ++ ([] : List Value)))) :: blk g9 24 #[.int .i64 now1, .int .i64 now2, .slice A6 now3.length c6] :: fs) := hS
                refine any_fin rfl (hS.pickN 7 [1, 2, 3, 4, 5, 6] (by decide)) ?_
                refine any_step [9, 13] (by kernel_rfl) rfl ?_
                refine (all_cons ?_ (all_cons ?_ all_nil))
                · refine any_op (listed' := #[true, true, true, true, true, true, true, true, true, true, false, false, false, false, false, false, false]) (by kernel_rfl) (by kernel_rfl) ?_
                  refine at_runW 1 [] [] [1, 4, 5, 8, 9, 10, 11, 53] [pl 1 (.slice A2 moves1.length c2), pl 4 (.pointer (some ⟨g5, 0, none⟩)), pl 5 (.pointer (some ⟨g6, 0, none⟩)), pl 8 (.slice A5 boards1.length c5), pl 9 (.pointer (some ⟨g8, 0, none⟩)), pl 10 (.pointer (some ⟨g9, 0, none⟩)), pl 11 (.int .i64 i1), pl 53 (.tuple #[.agg #[.int .i64 r3.1, .int .i64 r3.2.1, .slice A11 r3.2.2.1.length c11], .int .i64 r3.2.2.2.1, .int .i64 r3.2.2.2.2])] hF hS (by kernel_rfl) (by kernel_rfl) ?_ (fun a hF => ?_)
                  · exact obs_nil
                  refine any_finI rfl (fun h => h) ?_
                  refine any_step [10, 11, 12, 13] (by kernel_rfl) rfl ?_
                  refine (all_cons ?_ (all_cons ?_ (all_cons ?_ (all_cons ?_ all_nil))))
                  · refine any_op (listed' := #[true, true, true, true, true, true, true, true, true, true, true, false, false, false, false, false, false]) (by kernel_rfl) (by kernel_rfl) ?_
                    refine at_runW 1 [] [] [1, 4, 5, 8, 9, 10, 11, 53, 63] [pl 1 (.slice A2 moves1.length c2), pl 4 (.pointer (some ⟨g5, 0, none⟩)), pl 5 (.pointer (some ⟨g6, 0, none⟩)), pl 8 (.slice A5 boards1.length c5), pl 9 (.pointer (some ⟨g8, 0, none⟩)), pl 10 (.pointer (some ⟨g9, 0, none⟩)), pl 11 (.int .i64 i1), pl 53 (.tuple #[.agg #[.int .i64 r3.1, .int .i64 r3.2.1, .slice A11 r3.2.2.1.length c11], .int .i64 r3.2.2.2.1, .int .i64 r3.2.2.2.2]), pl 63 (.agg #[.int .i64 r3.1, .int .i64 r3.2.1, .slice A11 r3.2.2.1.length c11])] hF hS (by kernel_rfl) (by kernel_rfl) ?_ (fun a hF => ?_)
                    · exact obs_nil
                    refine any_finI rfl (fun h => h) ?_
                    refine any_step [11, 12, 13] (by kernel_rfl) rfl ?_
                    refine (all_cons ?_ (all_cons ?_ (all_cons ?_ all_nil)))
                    · refine any_op (listed' := #[true, true, true, true, true, true, true, true, true, true, true, true, false, false, false, false, false]) (by kernel_rfl) (by kernel_rfl) ?_
                      refine at_runW 1 [] [] [1, 4, 5, 8, 9, 10, 11, 53, 63, 64] [pl 1 (.slice A2 moves1.length c2), pl 4 (.pointer (some ⟨g5, 0, none⟩)), pl 5 (.pointer (some ⟨g6, 0, none⟩)), pl 8 (.slice A5 boards1.length c5), pl 9 (.pointer (some ⟨g8, 0, none⟩)), pl 10 (.pointer (some ⟨g9, 0, none⟩)), pl 11 (.int .i64 i1), pl 53 (.tuple #[.agg #[.int .i64 r3.1, .int .i64 r3.2.1, .slice A11 r3.2.2.1.length c11], .int .i64 r3.2.2.2.1, .int .i64 r3.2.2.2.2]), pl 63 (.agg #[.int .i64 r3.1, .int .i64 r3.2.1, .slice A11 r3.2.2.1.length c11]), pl 64 (.int .i64 r3.2.2.2.1)] hF hS (by kernel_rfl) (by kernel_rfl) ?_ (fun a hF => ?_)
                      · exact obs_nil
                      refine any_finI rfl (fun h => h) ?_
                      exact sh8 _ _ ⟨A11, c11, hF.weak [1, 4, 5, 8, 9, 10, 11, 53, 63, 64] (by kernel_rfl), hS⟩
                    · refine any_op (listed' := #[true, true, true, true, true, true, true, true, true, true, true, false, true, false, false, false, false]) (by kernel_rfl) (by kernel_rfl) ?_
                      refine at_runW 1 [] [] [1, 4, 5, 8, 9, 10, 11, 53, 63, 65] [pl 1 (.slice A2 moves1.length c2), pl 4 (.pointer (some ⟨g5, 0, none⟩)), pl 5 (.pointer (some ⟨g6, 0, none⟩)), pl 8 (.slice A5 boards1.length c5), pl 9 (.pointer (some ⟨g8, 0, none⟩)), pl 10 (.pointer (some ⟨g9, 0, none⟩)), pl 11 (.int .i64 i1), pl 53 (.tuple #[.agg #[.int .i64 r3.1, .int .i64 r3.2.1, .slice A11 r3.2.2.1.length c11], .int .i64 r3.2.2.2.1, .int .i64 r3.2.2.2.2]), pl 63 (.agg #[.int .i64 r3.1, .int .i64 r3.2.1, .slice A11 r3.2.2.1.length c11]), pl 65 (.int .i64 r3.2.2.2.2)] hF hS (by kernel_rfl) (by kernel_rfl) ?_ (fun a hF => ?_)
                      · exact obs_nil
                      refine any_finI rfl (fun h => h) ?_
                      exact sh11 _ _ ⟨A11, c11, hF.weak [1, 4, 5, 8, 9, 10, 11, 53, 63, 65] (by kernel_rfl), hS⟩
                    · refine any_op (listed' := #[true, true, true, true, true, true, true, true, true, true, true, false, false, true, false, false, false]) (by kernel_rfl) (by kernel_rfl) ?_
                      refine at_do (d := 12) (s := vS (Instr.alloc 24 true (.tuple #[]))) (v := .pointer (some ⟨w.heap.size, 0, none⟩)) (w' := w.alloc (.cells #[.int .i64 0, .int .i64 0, .slice none 0 0] 24)) hF (by kernel_rfl) (by kernel_rfl) (by kernel_rfl) (fun a hF => ?_)
                      have hS : Sep w0 B (w.alloc (.cells #[.int .i64 0, .int .i64 0, .slice none 0 0] 24)) (blk w.heap.size 24 #[.int .i64 0, .int .i64 0, .slice none 0 0] :: (own 3 (.slice A11 r3.2.2.1.length c11) (vI r3.2.2.1) :: blk g5 24 #[.int .i64 0, .int .i64 0, .slice none 0 0] :: blk g6 25 (List.toArray (([] : List Value) ++ (arr1 (Value.int .i64) (0 : Int) 2 (List.replicate 2 (0 : Int)) ++ ([] : List Value)))) :: pg1 :: els encP24 Rel24 pg1 24 3 A5 boards1.length c5 raw1 boards1 :: blk g8 25 (List.toArray (([] : List Value) ++ (arr1 (Value.int .i64) (0 : Int) 2 taken1 ++ ([] : List Value)))) :: blk g9 24 #[.int .i64 now1, .int .i64 now2, .slice A6 now3.length c6] :: fs)) := hS.box 24 #[.int .i64 0, .int .i64 0, .slice none 0 0]
                      generalize w.heap.size = g10 at hF hS
                      generalize w.alloc (.cells #[.int .i64 0, .int .i64 0, .slice none 0 0] 24) = w at hS ⊢
                      refine any_fin rfl (hS.pickN 8 [2, 3, 4, 5, 6, 7] (by decide)) ?_
                      exact sh12 _ _ ⟨g10, A11, c11, hF.weak [1, 4, 5, 8, 9, 10, 11, 12, 53, 63] (by kernel_rfl), hS⟩
                  · refine any_op (listed' := #[true, true, true, true, true, true, true, true, true, true, false, true, false, false, false, false, false]) (by kernel_rfl) (by kernel_rfl) ?_
                    refine at_runW 1 [] [] [1, 4, 5, 8, 9, 10, 11, 53, 64] [pl 1 (.slice A2 moves1.length c2), pl 4 (.pointer (some ⟨g5, 0, none⟩)), pl 5 (.pointer (some ⟨g6, 0, none⟩)), pl 8 (.slice A5 boards1.length c5), pl 9 (.pointer (some ⟨g8, 0, none⟩)), pl 10 (.pointer (some ⟨g9, 0, none⟩)), pl 11 (.int .i64 i1), pl 53 (.tuple #[.agg #[.int .i64 r3.1, .int .i64 r3.2.1, .slice A11 r3.2.2.1.length c11], .int .i64 r3.2.2.2.1, .int .i64 r3.2.2.2.2]), pl 64 (.int .i64 r3.2.2.2.1)] hF hS (by kernel_rfl) (by kernel_rfl) ?_ (fun a hF => ?_)
                    · exact obs_nil
                    refine any_finI rfl (fun h => h) ?_
                    refine any_step [10, 12, 13] (by kernel_rfl) rfl ?_
                    refine (all_cons ?_ (all_cons ?_ (all_cons ?_ all_nil)))
                    · refine any_op (listed' := #[true, true, true, true, true, true, true, true, true, true, true, true, false, false, false, false, false]) (by kernel_rfl) (by kernel_rfl) ?_
                      refine at_runW 1 [] [] [1, 4, 5, 8, 9, 10, 11, 53, 63, 64] [pl 1 (.slice A2 moves1.length c2), pl 4 (.pointer (some ⟨g5, 0, none⟩)), pl 5 (.pointer (some ⟨g6, 0, none⟩)), pl 8 (.slice A5 boards1.length c5), pl 9 (.pointer (some ⟨g8, 0, none⟩)), pl 10 (.pointer (some ⟨g9, 0, none⟩)), pl 11 (.int .i64 i1), pl 53 (.tuple #[.agg #[.int .i64 r3.1, .int .i64 r3.2.1, .slice A11 r3.2.2.1.length c11], .int .i64 r3.2.2.2.1, .int .i64 r3.2.2.2.2]), pl 63 (.agg #[.int .i64 r3.1, .int .i64 r3.2.1, .slice A11 r3.2.2.1.length c11]), pl 64 (.int .i64 r3.2.2.2.1)] hF hS (by kernel_rfl) (by kernel_rfl) ?_ (fun a hF => ?_)
                      · exact obs_nil
                      refine any_finI rfl (fun h => h) ?_
                      exact sh8 _ _ ⟨A11, c11, hF.weak [1, 4, 5, 8, 9, 10, 11, 53, 63, 64] (by kernel_rfl), hS⟩
                    · refine any_op (listed' := #[true, true, true, true, true, true, true, true, true, true, false, true, true, false, false, false, false]) (by kernel_rfl) (by kernel_rfl) ?_
                      refine at_runW 1 [] [] [1, 4, 5, 8, 9, 10, 11, 53, 64, 65] [pl 1 (.slice A2 moves1.length c2), pl 4 (.pointer (some ⟨g5, 0, none⟩)), pl 5 (.pointer (some ⟨g6, 0, none⟩)), pl 8 (.slice A5 boards1.length c5), pl 9 (.pointer (some ⟨g8, 0, none⟩)), pl 10 (.pointer (some ⟨g9, 0, none⟩)), pl 11 (.int .i64 i1), pl 53 (.tuple #[.agg #[.int .i64 r3.1, .int .i64 r3.2.1, .slice A11 r3.2.2.1.length c11], .int .i64 r3.2.2.2.1, .int .i64 r3.2.2.2.2]), pl 64 (.int .i64 r3.2.2.2.1), pl 65 (.int .i64 r3.2.2.2.2)] hF hS (by kernel_rfl) (by kernel_rfl) ?_ (fun a hF => ?_)
                      · exact obs_nil
                      refine any_finI rfl (fun h => h) ?_
                      exact sh14 _ _ ⟨A11, c11, hF.weak [1, 4, 5, 8, 9, 10, 11, 53, 64, 65] (by kernel_rfl), hS⟩
                    · refine any_op (listed' := #[true, true, true, true, true, true, true, true, true, true, false, true, false, true, false, false, false]) (by kernel_rfl) (by kernel_rfl) ?_
                      refine at_do (d := 12) (s := vS (Instr.alloc 24 true (.tuple #[]))) (v := .pointer (some ⟨w.heap.size, 0, none⟩)) (w' := w.alloc (.cells #[.int .i64 0, .int .i64 0, .slice none 0 0] 24)) hF (by kernel_rfl) (by kernel_rfl) (by kernel_rfl) (fun a hF => ?_)
                      have hS : Sep w0 B (w.alloc (.cells #[.int .i64 0, .int .i64 0, .slice none 0 0] 24)) (blk w.heap.size 24 #[.int .i64 0, .int .i64 0, .slice none 0 0] :: (own 3 (.slice A11 r3.2.2.1.length c11) (vI r3.2.2.1) :: blk g5 24 #[.int .i64 0, .int .i64 0, .slice none 0 0] :: blk g6 25 (List.toArray (([] : List Value) ++ (arr1 (Value.int .i64) (0 : Int) 2 (List.replicate 2 (0 : Int)) ++ ([] : List Value)))) :: pg1 :: els encP24 Rel24 pg1 24 3 A5 boards1.length c5 raw1 boards1 :: blk g8 25 (List.toArray (([] : List Value) ++ (arr1 (Value.int .i64) (0 : Int) 2 taken1 ++ ([] : List Value)))) :: blk g9 24 #[.int .i64 now1, .int .i64 now2, .slice A6 now3.length c6] :: fs)) := hS.box 24 #[.int .i64 0, .int .i64 0, .slice none 0 0]
                      generalize w.heap.size = g10 at hF hS
                      generalize w.alloc (.cells #[.int .i64 0, .int .i64 0, .slice none 0 0] 24) = w at hS ⊢
                      refine any_fin rfl (hS.pickN 8 [2, 3, 4, 5, 6, 7] (by decide)) ?_
                      exact sh15 _ _ ⟨g10, A11, c11, hF.weak [1, 4, 5, 8, 9, 10, 11, 12, 53, 64] (by kernel_rfl), hS⟩
                  · refine any_op (listed' := #[true, true, true, true, true, true, true, true, true, true, false, false, true, false, false, false, false]) (by kernel_rfl) (by kernel_rfl) ?_
                    refine at_runW 1 [] [] [1, 4, 5, 8, 9, 10, 11, 53, 65] [pl 1 (.slice A2 moves1.length c2), pl 4 (.pointer (some ⟨g5, 0, none⟩)), pl 5 (.pointer (some ⟨g6, 0, none⟩)), pl 8 (.slice A5 boards1.length c5), pl 9 (.pointer (some ⟨g8, 0, none⟩)), pl 10 (.pointer (some ⟨g9, 0, none⟩)), pl 11 (.int .i64 i1), pl 53 (.tuple #[.agg #[.int .i64 r3.1, .int .i64 r3.2.1, .slice A11 r3.2.2.1.length c11], .int .i64 r3.2.2.2.1, .int .i64 r3.2.2.2.2]), pl 65 (.int .i64 r3.2.2.2.2)] hF hS (by kernel_rfl) (by kernel_rfl) ?_ (fun a hF => ?_)
                    · exact obs_nil
                    refine any_finI rfl (fun h => h) ?_
                    refine any_step [10, 11, 13] (by kernel_rfl) rfl ?_
                    refine (all_cons ?_ (all_cons ?_ (all_cons ?_ all_nil)))
                    · refine any_op (listed' := #[true, true, true, true, true, true, true, true, true, true, true, false, true, false, false, false, false]) (by kernel_rfl) (by kernel_rfl) ?_
                      refine at_runW 1 [] [] [1, 4, 5, 8, 9, 10, 11, 53, 63, 65] [pl 1 (.slice A2 moves1.length c2), pl 4 (.pointer (some ⟨g5, 0, none⟩)), pl 5 (.pointer (some ⟨g6, 0, none⟩)), pl 8 (.slice A5 boards1.length c5), pl 9 (.pointer (some ⟨g8, 0, none⟩)), pl 10 (.pointer (some ⟨g9, 0, none⟩)), pl 11 (.int .i64 i1), pl 53 (.tuple #[.agg #[.int .i64 r3.1, .int .i64 r3.2.1, .slice A11 r3.2.2.1.length c11], .int .i64 r3.2.2.2.1, .int .i64 r3.2.2.2.2]), pl 63 (.agg #[.int .i64 r3.1, .int .i64 r3.2.1, .slice A11 r3.2.2.1.length c11]), pl 65 (.int .i64 r3.2.2.2.2)] hF hS (by kernel_rfl) (by kernel_rfl) ?_ (fun a hF => ?_)
                      · exact obs_nil
                      refine any_finI rfl (fun h => h) ?_
                      exact sh11 _ _ ⟨A11, c11, hF.weak [1, 4, 5, 8, 9, 10, 11, 53, 63, 65] (by kernel_rfl), hS⟩
                    · refine any_op (listed' := #[true, true, true, true, true, true, true, true, true, true, false, true, true, false, false, false, false]) (by kernel_rfl) (by kernel_rfl) ?_
                      refine at_runW 1 [] [] [1, 4, 5, 8, 9, 10, 11, 53, 64, 65] [pl 1 (.slice A2 moves1.length c2), pl 4 (.pointer (some ⟨g5, 0, none⟩)), pl 5 (.pointer (some ⟨g6, 0, none⟩)), pl 8 (.slice A5 boards1.length c5), pl 9 (.pointer (some ⟨g8, 0, none⟩)), pl 10 (.pointer (some ⟨g9, 0, none⟩)), pl 11 (.int .i64 i1), pl 53 (.tuple #[.agg #[.int .i64 r3.1, .int .i64 r3.2.1, .slice A11 r3.2.2.1.length c11], .int .i64 r3.2.2.2.1, .int .i64 r3.2.2.2.2]), pl 64 (.int .i64 r3.2.2.2.1), pl 65 (.int .i64 r3.2.2.2.2)] hF hS (by kernel_rfl) (by kernel_rfl) ?_ (fun a hF => ?_)
                      · exact obs_nil
                      refine any_finI rfl (fun h => h) ?_
                      exact sh14 _ _ ⟨A11, c11, hF.weak [1, 4, 5, 8, 9, 10, 11, 53, 64, 65] (by kernel_rfl), hS⟩
                    · refine any_op (listed' := #[true, true, true, true, true, true, true, true, true, true, false, false, true, true, false, false, false]) (by kernel_rfl) (by kernel_rfl) ?_
                      refine at_do (d := 12) (s := vS (Instr.alloc 24 true (.tuple #[]))) (v := .pointer (some ⟨w.heap.size, 0, none⟩)) (w' := w.alloc (.cells #[.int .i64 0, .int .i64 0, .slice none 0 0] 24)) hF (by kernel_rfl) (by kernel_rfl) (by kernel_rfl) (fun a hF => ?_)
                      have hS : Sep w0 B (w.alloc (.cells #[.int .i64 0, .int .i64 0, .slice none 0 0] 24)) (blk w.heap.size 24 #[.int .i64 0, .int .i64 0, .slice none 0 0] :: (own 3 (.slice A11 r3.2.2.1.length c11) (vI r3.2.2.1) :: blk g5 24 #[.int .i64 0, .int .i64 0, .slice none 0 0] :: blk g6 25 (List.toArray (([] : List Value) ++ (arr1 (Value.int .i64) (0 : Int) 2 (List.replicate 2 (0 : Int)) ++ ([] : List Value)))) :: pg1 :: els encP24 Rel24 pg1 24 3 A5 boards1.length c5 raw1 boards1 :: blk g8 25 (List.toArray (([] : List Value) ++ (arr1 (Value.int .i64) (0 : Int) 2 taken1 ++ ([] : List Value)))) :: blk g9 24 #[.int .i64 now1, .int .i64 now2, .slice A6 now3.length c6] :: fs)) := hS.box 24 #[.int .i64 0, .int .i64 0, .slice none 0 0]
                      generalize w.heap.size = g10 at hF hS
                      generalize w.alloc (.cells #[.int .i64 0, .int .i64 0, .slice none 0 0] 24) = w at hS ⊢
                      refine any_fin rfl (hS.pickN 8 [2, 3, 4, 5, 6, 7] (by decide)) ?_
                      exact sh16 _ _ ⟨g10, A11, c11, hF.weak [1, 4, 5, 8, 9, 10, 11, 12, 53, 65] (by kernel_rfl), hS⟩
                  · refine any_op (listed' := #[true, true, true, true, true, true, true, true, true, true, false, false, false, true, false, false, false]) (by kernel_rfl) (by kernel_rfl) ?_
                    refine at_do (d := 12) (s := vS (Instr.alloc 24 true (.tuple #[]))) (v := .pointer (some ⟨w.heap.size, 0, none⟩)) (w' := w.alloc (.cells #[.int .i64 0, .int .i64 0, .slice none 0 0] 24)) hF (by kernel_rfl) (by kernel_rfl) (by kernel_rfl) (fun a hF => ?_)
                    have hS : Sep w0 B (w.alloc (.cells #[.int .i64 0, .int .i64 0, .slice none 0 0] 24)) (blk w.heap.size 24 #[.int .i64 0, .int .i64 0, .slice none 0 0] :: (own 3 (.slice A11 r3.2.2.1.length c11) (vI r3.2.2.1) :: blk g5 24 #[.int .i64 0, .int .i64 0, .slice none 0 0] :: blk g6 25 (List.toArray (([] : List Value) ++ (arr1 (Value.int .i64) (0 : Int) 2 (List.replicate 2 (0 : Int)) ++ ([] : List Value)))) :: pg1 :: els encP24 Rel24 pg1 24 3 A5 boards1.length c5 raw1 boards1 :: blk g8 25 (List.toArray (([] : List Value) ++ (arr1 (Value.int .i64) (0 : Int) 2 taken1 ++ ([] : List Value)))) :: blk g9 24 #[.int .i64 now1, .int .i64 now2, .slice A6 now3.length c6] :: fs)) := hS.box 24 #[.int .i64 0, .int .i64 0, .slice none 0 0]
                    generalize w.heap.size = g10 at hF hS
                    generalize w.alloc (.cells #[.int .i64 0, .int .i64 0, .slice none 0 0] 24) = w at hS ⊢
                    refine any_fin rfl (hS.pickN 8 [2, 3, 4, 5, 6, 7] (by decide)) ?_
                    exact sh17 _ _ ⟨g10, A11, c11, hF.weak [1, 4, 5, 8, 9, 10, 11, 12, 53] (by kernel_rfl), hS⟩
                · refine any_op (listed' := #[true, true, true, true, true, true, true, true, true, false, false, false, false, true, false, false, false]) (by kernel_rfl) (by kernel_rfl) ?_
                  refine at_do (d := 12) (s := vS (Instr.alloc 24 true (.tuple #[]))) (v := .pointer (some ⟨w.heap.size, 0, none⟩)) (w' := w.alloc (.cells #[.int .i64 0, .int .i64 0, .slice none 0 0] 24)) hF (by kernel_rfl) (by kernel_rfl) (by kernel_rfl) (fun a hF => ?_)
                  have hS : Sep w0 B (w.alloc (.cells #[.int .i64 0, .int .i64 0, .slice none 0 0] 24)) (blk w.heap.size 24 #[.int .i64 0, .int .i64 0, .slice none 0 0] :: (own 3 (.slice A11 r3.2.2.1.length c11) (vI r3.2.2.1) :: blk g5 24 #[.int .i64 0, .int .i64 0, .slice none 0 0] :: blk g6 25 (List.toArray (([] : List Value) ++ (arr1 (Value.int .i64) (0 : Int) 2 (List.replicate 2 (0 : Int)) ++ ([] : List Value)))) :: pg1 :: els encP24 Rel24 pg1 24 3 A5 boards1.length c5 raw1 boards1 :: blk g8 25 (List.toArray (([] : List Value) ++ (arr1 (Value.int .i64) (0 : Int) 2 taken1 ++ ([] : List Value)))) :: blk g9 24 #[.int .i64 now1, .int .i64 now2, .slice A6 now3.length c6] :: fs)) := hS.box 24 #[.int .i64 0, .int .i64 0, .slice none 0 0]
                  generalize w.heap.size = g10 at hF hS
                  generalize w.alloc (.cells #[.int .i64 0, .int .i64 0, .slice none 0 0] 24) = w at hS ⊢
                  refine any_fin rfl (hS.pickN 8 [2, 3, 4, 5, 6, 7] (by decide)) ?_
                  exact sh18 _ _ ⟨g10, A11, c11, hF.weak [1, 4, 5, 8, 9, 10, 11, 12, 62] (by kernel_rfl), hS⟩
              · refine any_op (listed' := #[true, true, true, true, true, true, true, true, false, false, false, false, false, true, false, false, false]) (by kernel_rfl) (by kernel_rfl) ?_
                refine at_do (d := 12) (s := vS (Instr.alloc 24 true (.tuple #[]))) (v := .pointer (some ⟨w.heap.size, 0, none⟩)) (w' := w.alloc (.cells #[.int .i64 0, .int .i64 0, .slice none 0 0] 24)) hF (by kernel_rfl) (by kernel_rfl) (by kernel_rfl) (fun a hF => ?_)
                have hS : Sep w0 B (w.alloc (.cells #[.int .i64 0, .int .i64 0, .slice none 0 0] 24)) (blk w.heap.size 24 #[.int .i64 0, .int .i64 0, .slice none 0 0] :: (blk g5 24 #[.int .i64 0, .int .i64 0, .slice none 0 0] :: blk g6 25 (List.toArray (([] : List Value) ++ (arr1 (Value.int .i64) (0 : Int) 2 (List.replicate 2 (0 : Int)) ++ ([] : List Value)))) :: pg1 :: els encP24 Rel24 pg1 24 3 A5 boards1.length c5 raw1 boards1 :: blk g8 25 (List.toArray (([] : List Value) ++ (arr1 (Value.int .i64) (0 : Int) 2 taken1 ++ ([] : List Value)))) :: blk g9 24 #[.int .i64 now1, .int .i64 now2, .slice A6 now3.length c6] :: fs)) := hS.box 24 #[.int .i64 0, .int .i64 0, .slice none 0 0]
                generalize w.heap.size = g10 at hF hS
                generalize w.alloc (.cells #[.int .i64 0, .int .i64 0, .slice none 0 0] 24) = w at hS ⊢
                refine any_fin rfl (hS.pickN 7 [1, 2, 3, 4, 5, 6] (by decide)) ?_
                refine any_step [8] (by kernel_rfl) rfl ?_
                refine (all_cons ?_ all_nil)
                · refine any_op (listed' := #[true, true, true, true, true, true, true, true, true, false, false, false, false, true, false, false, false]) (by kernel_rfl) (by kernel_rfl) ?_
                  refine at_call (f := 44) (args := #[.agg #[.int .i64 now1, .int .i64 now2, .slice A6 now3.length c6], .int .i64 (w64 (1 + (Int.tmod i1 2))), .int .i64 (geti moves1 i1)]) (d := 62) hF (by kernel_rfl) (by kernel_rfl) Try.func44 (by kernel_rfl) rfl (gameroomref_PutStone_w hr3 hS (fun _ hS => (hp1.at_ hS 3 rfl)) hc2 rfl) (fun v a w hR hF => ?_)
                  clear hS
                  obtain ⟨A13, c13, rfl, hS⟩ := hR
                  have hS : Sep w0 B w (own 3 (.slice A13 r3.2.2.1.length c13) (vI r3.2.2.1) :: blk g10 24 #[.int .i64 0, .int .i64 0, .slice none 0 0] :: blk g5 24 #[.int .i64 0, .int .i64 0, .slice none 0 0] :: blk g6 25 (List.toArray (([] : List Value) ++ (arr1 (Value.int .i64) (0 : Int) 2 (List.replicate 2 (0 : Int)) ++ ([] : List Value)))) :: pg1 :: els encP24 Rel24 pg1 24 3 A5 boards1.length c5 raw1 boards1 :: blk g8 25 (List.toArray (([] : List Value) ++ (arr1 (Value.int .i64) (0 : Int) 2 taken1 ++ ([] : List Value)))) :: blk g9 24 #[.int .i64 now1, .int .i64 now2, .slice A6 now3.length c6] :: fs) := hS
                  refine any_fin rfl (hS.pickN 8 [2, 3, 4, 5, 6, 7] (by decide)) ?_
                  refine any_step [9] (by kernel_rfl) rfl ?_
                  refine (all_cons ?_ all_nil)
                  · refine any_op (listed' := #[true, true, true, true, true, true, true, true, true, true, false, false, false, true, false, false, false]) (by kernel_rfl) (by kernel_rfl) ?_
                    refine at_runW 1 [] [] [1, 4, 5, 8, 9, 10, 11, 12, 53] [pl 1 (.slice A2 moves1.length c2), pl 4 (.pointer (some ⟨g5, 0, none⟩)), pl 5 (.pointer (some ⟨g6, 0, none⟩)), pl 8 (.slice A5 boards1.length c5), pl 9 (.pointer (some ⟨g8, 0, none⟩)), pl 10 (.pointer (some ⟨g9, 0, none⟩)), pl 11 (.int .i64 i1), pl 12 (.pointer (some ⟨g10, 0, none⟩)), pl 53 (.tuple #[.agg #[.int .i64 r3.1, .int .i64 r3.2.1, .slice A13 r3.2.2.1.length c13], .int .i64 r3.2.2.2.1, .int .i64 r3.2.2.2.2])] hF hS (by kernel_rfl) (by kernel_rfl) ?_ (fun a hF => ?_)
                    · exact obs_nil
                    refine any_finI rfl (fun h => h) ?_
                    refine any_step [10, 11, 12] (by kernel_rfl) rfl ?_
                    refine (all_cons ?_ (all_cons ?_ (all_cons ?_ all_nil)))
                    · refine any_op (listed' := #[true, true, true, true, true, true, true, true, true, true, true, false, false, true, false, false, false]) (by kernel_rfl) (by kernel_rfl) ?_
                      refine at_runW 1 [] [] [1, 4, 5, 8, 9, 10, 11, 12, 53, 63] [pl 1 (.slice A2 moves1.length c2), pl 4 (.pointer (some ⟨g5, 0, none⟩)), pl 5 (.pointer (some ⟨g6, 0, none⟩)), pl 8 (.slice A5 boards1.length c5), pl 9 (.pointer (some ⟨g8, 0, none⟩)), pl 10 (.pointer (some ⟨g9, 0, none⟩)), pl 11 (.int .i64 i1), pl 12 (.pointer (some ⟨g10, 0, none⟩)), pl 53 (.tuple #[.agg #[.int .i64 r3.1, .int .i64 r3.2.1, .slice A13 r3.2.2.1.length c13], .int .i64 r3.2.2.2.1, .int .i64 r3.2.2.2.2]), pl 63 (.agg #[.int .i64 r3.1, .int .i64 r3.2.1, .slice A13 r3.2.2.1.length c13])] hF hS (by kernel_rfl) (by kernel_rfl) ?_ (fun a hF => ?_)
                      · exact obs_nil
                      refine any_finI rfl (fun h => h) ?_
                      refine any_step [11, 12, 14] (by kernel_rfl) rfl ?_
                      refine (all_cons ?_ (all_cons ?_ (all_cons ?_ all_nil)))
                      · refine any_op (listed' := #[true, true, true, true, true, true, true, true, true, true, true, true, false, true, false, false, false]) (by kernel_rfl) (by kernel_rfl) ?_
                        refine at_runW 1 [] [] [1, 4, 5, 8, 9, 10, 11, 12, 53, 63, 64] [pl 1 (.slice A2 moves1.length c2), pl 4 (.pointer (some ⟨g5, 0, none⟩)), pl 5 (.pointer (some ⟨g6, 0, none⟩)), pl 8 (.slice A5 boards1.length c5), pl 9 (.pointer (some ⟨g8, 0, none⟩)), pl 10 (.pointer (some ⟨g9, 0, none⟩)), pl 11 (.int .i64 i1), pl 12 (.pointer (some ⟨g10, 0, none⟩)), pl 53 (.tuple #[.agg #[.int .i64 r3.1, .int .i64 r3.2.1, .slice A13 r3.2.2.1.length c13], .int .i64 r3.2.2.2.1, .int .i64 r3.2.2.2.2]), pl 63 (.agg #[.int .i64 r3.1, .int .i64 r3.2.1, .slice A13 r3.2.2.1.length c13]), pl 64 (.int .i64 r3.2.2.2.1)] hF hS (by kernel_rfl) (by kernel_rfl) ?_ (fun a hF => ?_)
                        · exact obs_nil
                        refine any_finI rfl (fun h => h) ?_
                        refine any_step [12, 14] (by kernel_rfl) rfl ?_
                        refine (all_cons ?_ (all_cons ?_ all_nil))
                        · refine any_op (listed' := #[true, true, true, true, true, true, true, true, true, true, true, true, true, true, false, false, false]) (by kernel_rfl) (by kernel_rfl) ?_
                          refine at_runW 1 [] [] [1, 4, 5, 8, 9, 10, 11, 12, 63, 64, 65] [pl 1 (.slice A2 moves1.length c2), pl 4 (.pointer (some ⟨g5, 0, none⟩)), pl 5 (.pointer (some ⟨g6, 0, none⟩)), pl 8 (.slice A5 boards1.length c5), pl 9 (.pointer (some ⟨g8, 0, none⟩)), pl 10 (.pointer (some ⟨g9, 0, none⟩)), pl 11 (.int .i64 i1), pl 12 (.pointer (some ⟨g10, 0, none⟩)), pl 63 (.agg #[.int .i64 r3.1, .int .i64 r3.2.1, .slice A13 r3.2.2.1.length c13]), pl 64 (.int .i64 r3.2.2.2.1), pl 65 (.int .i64 r3.2.2.2.2)] hF hS (by kernel_rfl) (by kernel_rfl) ?_ (fun a hF => ?_)
                          · exact obs_nil
                          refine any_finI rfl (fun h => h) ?_
                          refine any_step [14] (by kernel_rfl) rfl ?_
                          refine (all_cons ?_ all_nil)
                          · refine any_op (listed' := #[true, true, true, true, true, true, true, true, true, true, true, true, true, true, true, false, false]) (by kernel_rfl) (by kernel_rfl) ?_
                            obtain ⟨w, hrun, hS⟩ := run_putA (P := Try.prog) (t := 24) (us := #[.int .i64 r3.1, .int .i64 r3.2.1, .slice A13 r3.2.2.1.length c13]) (o := 0) (hS.at_ 1 rfl) (by kernel_rfl) (all_one (by kernel_rfl)) (Nat.le_of_ble_eq_true (by kernel_rfl))
                            refine at_skip hF (by kernel_rfl) hrun ?_
                            have hS : Sep w0 B w (own 3 (.slice A13 r3.2.2.1.length c13) (vI r3.2.2.1) :: blk g10 24 #[.int .i64 r3.1, .int .i64 r3.2.1, .slice A13 r3.2.2.1.length c13] :: blk g5 24 #[.int .i64 0, .int .i64 0, .slice none 0 0] :: blk g6 25 (List.toArray (([] : List Value) ++ (arr1 (Value.int .i64) (0 : Int) 2 (List.replicate 2 (0 : Int)) ++ ([] : List Value)))) :: pg1 :: els encP24 Rel24 pg1 24 3 A5 boards1.length c5 raw1 boards1 :: blk g8 25 (List.toArray (([] : List Value) ++ (arr1 (Value.int .i64) (0 : Int) 2 taken1 ++ ([] : List Value)))) :: blk g9 24 #[.int .i64 now1, .int .i64 now2, .slice A6 now3.length c6] :: fs) := hS
                            refine any_fin rfl (hS.pickN 8 [2, 3, 4, 5, 6, 7] (by decide)) ?_
                            refine any_step [15] (by kernel_rfl) rfl ?_
                            refine (all_cons ?_ all_nil)
                            · refine any_op (listed' := #[true, true, true, true, true, true, true, true, true, true, true, true, true, true, true, true, false]) (by kernel_rfl) (by kernel_rfl) ?_
                              refine at_runW 1 [] [] [1, 4, 5, 8, 9, 10, 11, 12, 13, 65] [pl 1 (.slice A2 moves1.length c2), pl 4 (.pointer (some ⟨g5, 0, none⟩)), pl 5 (.pointer (some ⟨g6, 0, none⟩)), pl 8 (.slice A5 boards1.length c5), pl 9 (.pointer (some ⟨g8, 0, none⟩)), pl 10 (.pointer (some ⟨g9, 0, none⟩)), pl 11 (.int .i64 i1), pl 12 (.pointer (some ⟨g10, 0, none⟩)), pl 13 (.int .i64 r3.2.2.2.1), pl 65 (.int .i64 r3.2.2.2.2)] hF hS (by kernel_rfl) (by kernel_rfl) ?_ (fun a hF => ?_)
                              · exact obs_nil
                              refine any_finI rfl (fun h => h) ?_
                              refine any_step [16] (by kernel_rfl) rfl ?_
                              refine (all_cons ?_ all_nil)
                              · refine any_op (listed' := #[true, true, true, true, true, true, true, true, true, true, true, true, true, true, true, true, true]) (by kernel_rfl) (by kernel_rfl) ?_
                                refine at_runW 1 [] [] [1, 4, 5, 8, 9, 10, 11, 12, 13, 14] [pl 1 (.slice A2 moves1.length c2), pl 4 (.pointer (some ⟨g5, 0, none⟩)), pl 5 (.pointer (some ⟨g6, 0, none⟩)), pl 8 (.slice A5 boards1.length c5), pl 9 (.pointer (some ⟨g8, 0, none⟩)), pl 10 (.pointer (some ⟨g9, 0, none⟩)), pl 11 (.int .i64 i1), pl 12 (.pointer (some ⟨g10, 0, none⟩)), pl 13 (.int .i64 r3.2.2.2.1), pl 14 (.int .i64 r3.2.2.2.2)] hF hS (by kernel_rfl) (by kernel_rfl) ?_ (fun a hF => ?_)
                                · exact obs_nil
                                refine any_finI rfl (fun h => h) ?_
                                refine any_end (by kernel_rfl) ?_
                                refine np_n ?_
                                refine then_n ?_
                                have hS := hS.pickN 8 [2, 3, 4, 5, 6, 7, 1, 0] (by decide)
                                exact ⟨r3.1, r3.2.1, r3.2.2.1, r3.2.2.2.1, r3.2.2.2.2, g10, A13, c13, hF.weak [1, 4, 5, 8, 9, 10, 11, 12, 13, 14] (by kernel_rfl), hS, hm⟩
                        · refine any_op (listed' := #[true, true, true, true, true, true, true, true, true, true, true, true, false, true, true, false, false]) (by kernel_rfl) (by kernel_rfl) ?_
                          obtain ⟨w, hrun, hS⟩ := run_putA (P := Try.prog) (t := 24) (us := #[.int .i64 r3.1, .int .i64 r3.2.1, .slice A13 r3.2.2.1.length c13]) (o := 0) (hS.at_ 1 rfl) (by kernel_rfl) (all_one (by kernel_rfl)) (Nat.le_of_ble_eq_true (by kernel_rfl))
                          refine at_skip hF (by kernel_rfl) hrun ?_
                          have hS : Sep w0 B w (own 3 (.slice A13 r3.2.2.1.length c13) (vI r3.2.2.1) :: blk g10 24 #[.int .i64 r3.1, .int .i64 r3.2.1, .slice A13 r3.2.2.1.length c13] :: blk g5 24 #[.int .i64 0, .int .i64 0, .slice none 0 0] :: blk g6 25 (List.toArray (([] : List Value) ++ (arr1 (Value.int .i64) (0 : Int) 2 (List.replicate 2 (0 : Int)) ++ ([] : List Value)))) :: pg1 :: els encP24 Rel24 pg1 24 3 A5 boards1.length c5 raw1 boards1 :: blk g8 25 (List.toArray (([] : List Value) ++ (arr1 (Value.int .i64) (0 : Int) 2 taken1 ++ ([] : List Value)))) :: blk g9 24 #[.int .i64 now1, .int .i64 now2, .slice A6 now3.length c6] :: fs) := hS
                          refine any_fin rfl (hS.pickN 8 [2, 3, 4, 5, 6, 7] (by decide)) ?_
                          refine any_step [12, 15] (by kernel_rfl) rfl ?_
                          refine (all_cons ?_ (all_cons ?_ all_nil))
                          · refine any_op (listed' := #[true, true, true, true, true, true, true, true, true, true, true, true, true, true, true, false, false]) (by kernel_rfl) (by kernel_rfl) ?_
                            refine at_runW 1 [] [] [1, 4, 5, 8, 9, 10, 11, 12, 64, 65] [pl 1 (.slice A2 moves1.length c2), pl 4 (.pointer (some ⟨g5, 0, none⟩)), pl 5 (.pointer (some ⟨g6, 0, none⟩)), pl 8 (.slice A5 boards1.length c5), pl 9 (.pointer (some ⟨g8, 0, none⟩)), pl 10 (.pointer (some ⟨g9, 0, none⟩)), pl 11 (.int .i64 i1), pl 12 (.pointer (some ⟨g10, 0, none⟩)), pl 64 (.int .i64 r3.2.2.2.1), pl 65 (.int .i64 r3.2.2.2.2)] hF hS (by kernel_rfl) (by kernel_rfl) ?_ (fun a hF => ?_)
                            · exact obs_nil
                            refine any_finI rfl (fun h => h) ?_
                            refine any_step [15] (by kernel_rfl) rfl ?_
                            refine (all_cons ?_ all_nil)
                            · refine any_op (listed' := #[true, true, true, true, true, true, true, true, true, true, true, true, true, true, true, true, false]) (by kernel_rfl) (by kernel_rfl) ?_
                              refine at_runW 1 [] [] [1, 4, 5, 8, 9, 10, 11, 12, 13, 65] [pl 1 (.slice A2 moves1.length c2), pl 4 (.pointer (some ⟨g5, 0, none⟩)), pl 5 (.pointer (some ⟨g6, 0, none⟩)), pl 8 (.slice A5 boards1.length c5), pl 9 (.pointer (some ⟨g8, 0, none⟩)), pl 10 (.pointer (some ⟨g9, 0, none⟩)), pl 11 (.int .i64 i1), pl 12 (.pointer (some ⟨g10, 0, none⟩)), pl 13 (.int .i64 r3.2.2.2.1), pl 65 (.int .i64 r3.2.2.2.2)] hF hS (by kernel_rfl) (by kernel_rfl) ?_ (fun a hF => ?_)
                              · exact obs_nil
                              refine any_finI rfl (fun h => h) ?_
                              refine any_step [16] (by kernel_rfl) rfl ?_
                              refine (all_cons ?_ all_nil)
                              · refine any_op (listed' := #[true, true, true, true, true, true, true, true, true, true, true, true, true, true, true, true, true]) (by kernel_rfl) (by kernel_rfl) ?_
                                refine at_runW 1 [] [] [1, 4, 5, 8, 9, 10, 11, 12, 13, 14] [pl 1 (.slice A2 moves1.length c2), pl 4 (.pointer (some ⟨g5, 0, none⟩)), pl 5 (.pointer (some ⟨g6, 0, none⟩)), pl 8 (.slice A5 boards1.length c5), pl 9 (.pointer (some ⟨g8, 0, none⟩)), pl 10 (.pointer (some ⟨g9, 0, none⟩)), pl 11 (.int .i64 i1), pl 12 (.pointer (some ⟨g10, 0, none⟩)), pl 13 (.int .i64 r3.2.2.2.1), pl 14 (.int .i64 r3.2.2.2.2)] hF hS (by kernel_rfl) (by kernel_rfl) ?_ (fun a hF => ?_)
                                · exact obs_nil
                                refine any_finI rfl (fun h => h) ?_
                                refine any_end (by kernel_rfl) ?_
                                refine np_n ?_
                                refine then_n ?_
                                have hS := hS.pickN 8 [2, 3, 4, 5, 6, 7, 1, 0] (by decide)
                                exact ⟨r3.1, r3.2.1, r3.2.2.1, r3.2.2.2.1, r3.2.2.2.2, g10, A13, c13, hF.weak [1, 4, 5, 8, 9, 10, 11, 12, 13, 14] (by kernel_rfl), hS, hm⟩
                          · refine any_op (listed' := #[true, true, true, true, true, true, true, true, true, true, true, true, false, true, true, true, false]) (by kernel_rfl) (by kernel_rfl) ?_
                            refine at_runW 1 [] [] [1, 4, 5, 8, 9, 10, 11, 12, 13, 53] [pl 1 (.slice A2 moves1.length c2), pl 4 (.pointer (some ⟨g5, 0, none⟩)), pl 5 (.pointer (some ⟨g6, 0, none⟩)), pl 8 (.slice A5 boards1.length c5), pl 9 (.pointer (some ⟨g8, 0, none⟩)), pl 10 (.pointer (some ⟨g9, 0, none⟩)), pl 11 (.int .i64 i1), pl 12 (.pointer (some ⟨g10, 0, none⟩)), pl 13 (.int .i64 r3.2.2.2.1), pl 53 (.tuple #[.agg #[.int .i64 r3.1, .int .i64 r3.2.1, .slice A13 r3.2.2.1.length c13], .int .i64 r3.2.2.2.1, .int .i64 r3.2.2.2.2])] hF hS (by kernel_rfl) (by kernel_rfl) ?_ (fun a hF => ?_)
                            · exact obs_nil
                            refine any_finI rfl (fun h => h) ?_
                            refine any_step [12] (by kernel_rfl) rfl ?_
                            refine (all_cons ?_ all_nil)
                            · refine any_op (listed' := #[true, true, true, true, true, true, true, true, true, true, true, true, true, true, true, true, false]) (by kernel_rfl) (by kernel_rfl) ?_
                              refine at_runW 1 [] [] [1, 4, 5, 8, 9, 10, 11, 12, 13, 65] [pl 1 (.slice A2 moves1.length c2), pl 4 (.pointer (some ⟨g5, 0, none⟩)), pl 5 (.pointer (some ⟨g6, 0, none⟩)), pl 8 (.slice A5 boards1.length c5), pl 9 (.pointer (some ⟨g8, 0, none⟩)), pl 10 (.pointer (some ⟨g9, 0, none⟩)), pl 11 (.int .i64 i1), pl 12 (.pointer (some ⟨g10, 0, none⟩)), pl 13 (.int .i64 r3.2.2.2.1), pl 65 (.int .i64 r3.2.2.2.2)] hF hS (by kernel_rfl) (by kernel_rfl) ?_ (fun a hF => ?_)
                              · exact obs_nil
                              refine any_finI rfl (fun h => h) ?_
                              refine any_step [16] (by kernel_rfl) rfl ?_
                              refine (all_cons ?_ all_nil)
                              · refine any_op (listed' := #[true, true, true, true, true, true, true, true, true, true, true, true, true, true, true, true, true]) (by kernel_rfl) (by kernel_rfl) ?_
                                refine at_runW 1 [] [] [1, 4, 5, 8, 9, 10, 11, 12, 13, 14] [pl 1 (.slice A2 moves1.length c2), pl 4 (.pointer (some ⟨g5, 0, none⟩)), pl 5 (.pointer (some ⟨g6, 0, none⟩)), pl 8 (.slice A5 boards1.length c5), pl 9 (.pointer (some ⟨g8, 0, none⟩)), pl 10 (.pointer (some ⟨g9, 0, none⟩)), pl 11 (.int .i64 i1), pl 12 (.pointer (some ⟨g10, 0, none⟩)), pl 13 (.int .i64 r3.2.2.2.1), pl 14 (.int .i64 r3.2.2.2.2)] hF hS (by kernel_rfl) (by kernel_rfl) ?_ (fun a hF => ?_)
                                · exact obs_nil
                                refine any_finI rfl (fun h => h) ?_
                                refine any_end (by kernel_rfl) ?_
                                refine np_n ?_
                                refine then_n ?_
                                have hS := hS.pickN 8 [2, 3, 4, 5, 6, 7, 1, 0] (by decide)
                                exact ⟨r3.1, r3.2.1, r3.2.2.1, r3.2.2.2.1, r3.2.2.2.2, g10, A13, c13, hF.weak [1, 4, 5, 8, 9, 10, 11, 12, 13, 14] (by kernel_rfl), hS, hm⟩
                      · refine any_op (listed' := #[true, true, true, true, true, true, true, true, true, true, true, false, true, true, false, false, false]) (by kernel_rfl) (by kernel_rfl) ?_
                        refine at_runW 1 [] [] [1, 4, 5, 8, 9, 10, 11, 12, 53, 63, 65] [pl 1 (.slice A2 moves1.length c2), pl 4 (.pointer (some ⟨g5, 0, none⟩)), pl 5 (.pointer (some ⟨g6, 0, none⟩)), pl 8 (.slice A5 boards1.length c5), pl 9 (.pointer (some ⟨g8, 0, none⟩)), pl 10 (.pointer (some ⟨g9, 0, none⟩)), pl 11 (.int .i64 i1), pl 12 (.pointer (some ⟨g10, 0, none⟩)), pl 53 (.tuple #[.agg #[.int .i64 r3.1, .int .i64 r3.2.1, .slice A13 r3.2.2.1.length c13], .int .i64 r3.2.2.2.1, .int .i64 r3.2.2.2.2]), pl 63 (.agg #[.int .i64 r3.1, .int .i64 r3.2.1, .slice A13 r3.2.2.1.length c13]), pl 65 (.int .i64 r3.2.2.2.2)] hF hS (by kernel_rfl) (by kernel_rfl) ?_ (fun a hF => ?_)
                        · exact obs_nil
                        refine any_finI rfl (fun h => h) ?_
                        refine any_step [11, 14] (by kernel_rfl) rfl ?_
                        refine (all_cons ?_ (all_cons ?_ all_nil))
                        · refine any_op (listed' := #[true, true, true, true, true, true, true, true, true, true, true, true, true, true, false, false, false]) (by kernel_rfl) (by kernel_rfl) ?_
                          refine at_runW 1 [] [] [1, 4, 5, 8, 9, 10, 11, 12, 63, 64, 65] [pl 1 (.slice A2 moves1.length c2), pl 4 (.pointer (some ⟨g5, 0, none⟩)), pl 5 (.pointer (some ⟨g6, 0, none⟩)), pl 8 (.slice A5 boards1.length c5), pl 9 (.pointer (some ⟨g8, 0, none⟩)), pl 10 (.pointer (some ⟨g9, 0, none⟩)), pl 11 (.int .i64 i1), pl 12 (.pointer (some ⟨g10, 0, none⟩)), pl 63 (.agg #[.int .i64 r3.1, .int .i64 r3.2.1, .slice A13 r3.2.2.1.length c13]), pl 64 (.int .i64 r3.2.2.2.1), pl 65 (.int .i64 r3.2.2.2.2)] hF hS (by kernel_rfl) (by kernel_rfl) ?_ (fun a hF => ?_)
                          · exact obs_nil
                          refine any_finI rfl (fun h => h) ?_
                          refine any_step [14] (by kernel_rfl) rfl ?_
                          refine (all_cons ?_ all_nil)
                          · refine any_op (listed' := #[true, true, true, true, true, true, true, true, true, true, true, true, true, true, true, false, false]) (by kernel_rfl) (by kernel_rfl) ?_
                            obtain ⟨w, hrun, hS⟩ := run_putA (P := Try.prog) (t := 24) (us := #[.int .i64 r3.1, .int .i64 r3.2.1, .slice A13 r3.2.2.1.length c13]) (o := 0) (hS.at_ 1 rfl) (by kernel_rfl) (all_one (by kernel_rfl)) (Nat.le_of_ble_eq_true (by kernel_rfl))
                            refine at_skip hF (by kernel_rfl) hrun ?_
                            have hS : Sep w0 B w (own 3 (.slice A13 r3.2.2.1.length c13) (vI r3.2.2.1) :: blk g10 24 #[.int .i64 r3.1, .int .i64 r3.2.1, .slice A13 r3.2.2.1.length c13] :: blk g5 24 #[.int .i64 0, .int .i64 0, .slice none 0 0] :: blk g6 25 (List.toArray (([] : List Value) ++ (arr1 (Value.int .i64) (0 : Int) 2 (List.replicate 2 (0 : Int)) ++ ([] : List Value)))) :: pg1 :: els encP24 Rel24 pg1 24 3 A5 boards1.length c5 raw1 boards1 :: blk g8 25 (List.toArray (([] : List Value) ++ (arr1 (Value.int .i64) (0 : Int) 2 taken1 ++ ([] : List Value)))) :: blk g9 24 #[.int .i64 now1, .int .i64 now2, .slice A6 now3.length c6] :: fs) := hS
                            refine any_fin rfl (hS.pickN 8 [2, 3, 4, 5, 6, 7] (by decide)) ?_
                            refine any_step [15] (by kernel_rfl) rfl ?_
                            refine (all_cons ?_ all_nil)
                            · refine any_op (listed' := #[true, true, true, true, true, true, true, true, true, true, true, true, true, true, true, true, false]) (by kernel_rfl) (by kernel_rfl) ?_
                              refine at_runW 1 [] [] [1, 4, 5, 8, 9, 10, 11, 12, 13, 65] [pl 1 (.slice A2 moves1.length c2), pl 4 (.pointer (some ⟨g5, 0, none⟩)), pl 5 (.pointer (some ⟨g6, 0, none⟩)), pl 8 (.slice A5 boards1.length c5), pl 9 (.pointer (some ⟨g8, 0, none⟩)), pl 10 (.pointer (some ⟨g9, 0, none⟩)), pl 11 (.int .i64 i1), pl 12 (.pointer (some ⟨g10, 0, none⟩)), pl 13 (.int .i64 r3.2.2.2.1), pl 65 (.int .i64 r3.2.2.2.2)] hF hS (by kernel_rfl) (by kernel_rfl) ?_ (fun a hF => ?_)
                              · exact obs_nil
                              refine any_finI rfl (fun h => h) ?_
                              refine any_step [16] (by kernel_rfl) rfl ?_
                              refine (all_cons ?_ all_nil)
                              · refine any_op (listed' := #[true, true, true, true, true, true, true, true, true, true, true, true, true, true, true, true, true]) (by kernel_rfl) (by kernel_rfl) ?_
                                refine at_runW 1 [] [] [1, 4, 5, 8, 9, 10, 11, 12, 13, 14] [pl 1 (.slice A2 moves1.length c2), pl 4 (.pointer (some ⟨g5, 0, none⟩)), pl 5 (.pointer (some ⟨g6, 0, none⟩)), pl 8 (.slice A5 boards1.length c5), pl 9 (.pointer (some ⟨g8, 0, none⟩)), pl 10 (.pointer (some ⟨g9, 0, none⟩)), pl 11 (.int .i64 i1), pl 12 (.pointer (some ⟨g10, 0, none⟩)), pl 13 (.int .i64 r3.2.2.2.1), pl 14 (.int .i64 r3.2.2.2.2)] hF hS (by kernel_rfl) (by kernel_rfl) ?_ (fun a hF => ?_)
                                · exact obs_nil
                                refine any_finI rfl (fun h => h) ?_
                                refine any_end (by kernel_rfl) ?_
                                refine np_n ?_
                                refine then_n ?_
                                have hS := hS.pickN 8 [2, 3, 4, 5, 6, 7, 1, 0] (by decide)
                                exact ⟨r3.1, r3.2.1, r3.2.2.1, r3.2.2.2.1, r3.2.2.2.2, g10, A13, c13, hF.weak [1, 4, 5, 8, 9, 10, 11, 12, 13, 14] (by kernel_rfl), hS, hm⟩
                        · refine any_op (listed' := #[true, true, true, true, true, true, true, true, true, true, true, false, true, true, true, false, false]) (by kernel_rfl) (by kernel_rfl) ?_
                          obtain ⟨w, hrun, hS⟩ := run_putA (P := Try.prog) (t := 24) (us := #[.int .i64 r3.1, .int .i64 r3.2.1, .slice A13 r3.2.2.1.length c13]) (o := 0) (hS.at_ 1 rfl) (by kernel_rfl) (all_one (by kernel_rfl)) (Nat.le_of_ble_eq_true (by kernel_rfl))
                          refine at_skip hF (by kernel_rfl) hrun ?_
                          have hS : Sep w0 B w (own 3 (.slice A13 r3.2.2.1.length c13) (vI r3.2.2.1) :: blk g10 24 #[.int .i64 r3.1, .int .i64 r3.2.1, .slice A13 r3.2.2.1.length c13] :: blk g5 24 #[.int .i64 0, .int .i64 0, .slice none 0 0] :: blk g6 25 (List.toArray (([] : List Value) ++ (arr1 (Value.int .i64) (0 : Int) 2 (List.replicate 2 (0 : Int)) ++ ([] : List Value)))) :: pg1 :: els encP24 Rel24 pg1 24 3 A5 boards1.length c5 raw1 boards1 :: blk g8 25 (List.toArray (([] : List Value) ++ (arr1 (Value.int .i64) (0 : Int) 2 taken1 ++ ([] : List Value)))) :: blk g9 24 #[.int .i64 now1, .int .i64 now2, .slice A6 now3.length c6] :: fs) := hS
                          refine any_fin rfl (hS.pickN 8 [2, 3, 4, 5, 6, 7] (by decide)) ?_
                          refine any_step [11] (by kernel_rfl) rfl ?_
                          refine (all_cons ?_ all_nil)
                          · refine any_op (listed' := #[true, true, true, true, true, true, true, true, true, true, true, true, true, true, true, false, false]) (by kernel_rfl) (by kernel_rfl) ?_
                            refine at_runW 1 [] [] [1, 4, 5, 8, 9, 10, 11, 12, 64, 65] [pl 1 (.slice A2 moves1.length c2), pl 4 (.pointer (some ⟨g5, 0, none⟩)), pl 5 (.pointer (some ⟨g6, 0, none⟩)), pl 8 (.slice A5 boards1.length c5), pl 9 (.pointer (some ⟨g8, 0, none⟩)), pl 10 (.pointer (some ⟨g9, 0, none⟩)), pl 11 (.int .i64 i1), pl 12 (.pointer (some ⟨g10, 0, none⟩)), pl 64 (.int .i64 r3.2.2.2.1), pl 65 (.int .i64 r3.2.2.2.2)] hF hS (by kernel_rfl) (by kernel_rfl) ?_ (fun a hF => ?_)
                            · exact obs_nil
                            refine any_finI rfl (fun h => h) ?_
                            refine any_step [15] (by kernel_rfl) rfl ?_
                            refine (all_cons ?_ all_nil)
                            · refine any_op (listed' := #[true, true, true, true, true, true, true, true, true, true, true, true, true, true, true, true, false]) (by kernel_rfl) (by kernel_rfl) ?_
                              refine at_runW 1 [] [] [1, 4, 5, 8, 9, 10, 11, 12, 13, 65] [pl 1 (.slice A2 moves1.length c2), pl 4 (.pointer (some ⟨g5, 0, none⟩)), pl 5 (.pointer (some ⟨g6, 0, none⟩)), pl 8 (.slice A5 boards1.length c5), pl 9 (.pointer (some ⟨g8, 0, none⟩)), pl 10 (.pointer (some ⟨g9, 0, none⟩)), pl 11 (.int .i64 i1), pl 12 (.pointer (some ⟨g10, 0, none⟩)), pl 13 (.int .i64 r3.2.2.2.1), pl 65 (.int .i64 r3.2.2.2.2)] hF hS (by kernel_rfl) (by kernel_rfl) ?_ (fun a hF => ?_)
                              · exact obs_nil
                              refine any_finI rfl (fun h => h) ?_
                              refine any_step [16] (by kernel_rfl) rfl ?_
                              refine (all_cons ?_ all_nil)
                              · refine any_op (listed' := #[true, true, true, true, true, true, true, true, true, true, true, true, true, true, true, true, true]) (by kernel_rfl) (by kernel_rfl) ?_
                                refine at_runW 1 [] [] [1, 4, 5, 8, 9, 10, 11, 12, 13, 14] [pl 1 (.slice A2 moves1.length c2), pl 4 (.pointer (some ⟨g5, 0, none⟩)), pl 5 (.pointer (some ⟨g6, 0, none⟩)), pl 8 (.slice A5 boards1.length c5), pl 9 (.pointer (some ⟨g8, 0, none⟩)), pl 10 (.pointer (some ⟨g9, 0, none⟩)), pl 11 (.int .i64 i1), pl 12 (.pointer (some ⟨g10, 0, none⟩)), pl 13 (.int .i64 r3.2.2.2.1), pl 14 (.int .i64 r3.2.2.2.2)] hF hS (by kernel_rfl) (by kernel_rfl) ?_ (fun a hF => ?_)
                                · exact obs_nil
                                refine any_finI rfl (fun h => h) ?_
                                refine any_end (by kernel_rfl) ?_
                                refine np_n ?_
                                refine then_n ?_
                                have hS := hS.pickN 8 [2, 3, 4, 5, 6, 7, 1, 0] (by decide)
                                exact ⟨r3.1, r3.2.1, r3.2.2.1, r3.2.2.2.1, r3.2.2.2.2, g10, A13, c13, hF.weak [1, 4, 5, 8, 9, 10, 11, 12, 13, 14] (by kernel_rfl), hS, hm⟩
                      · refine any_op (listed' := #[true, true, true, true, true, true, true, true, true, true, true, false, false, true, true, false, false]) (by kernel_rfl) (by kernel_rfl) ?_
                        obtain ⟨w, hrun, hS⟩ := run_putA (P := Try.prog) (t := 24) (us := #[.int .i64 r3.1, .int .i64 r3.2.1, .slice A13 r3.2.2.1.length c13]) (o := 0) (hS.at_ 1 rfl) (by kernel_rfl) (all_one (by kernel_rfl)) (Nat.le_of_ble_eq_true (by kernel_rfl))
                        refine at_skip hF (by kernel_rfl) hrun ?_
                        have hS : Sep w0 B w (own 3 (.slice A13 r3.2.2.1.length c13) (vI r3.2.2.1) :: blk g10 24 #[.int .i64 r3.1, .int .i64 r3.2.1, .slice A13 r3.2.2.1.length c13] :: blk g5 24 #[.int .i64 0, .int .i64 0, .slice none 0 0] :: blk g6 25 (List.toArray (([] : List Value) ++ (arr1 (Value.int .i64) (0 : Int) 2 (List.replicate 2 (0 : Int)) ++ ([] : List Value)))) :: pg1 :: els encP24 Rel24 pg1 24 3 A5 boards1.length c5 raw1 boards1 :: blk g8 25 (List.toArray (([] : List Value) ++ (arr1 (Value.int .i64) (0 : Int) 2 taken1 ++ ([] : List Value)))) :: blk g9 24 #[.int .i64 now1, .int .i64 now2, .slice A6 now3.length c6] :: fs) := hS
                        refine any_fin rfl (hS.pickN 8 [2, 3, 4, 5, 6, 7] (by decide)) ?_
                        refine any_step [11, 12] (by kernel_rfl) rfl ?_
                        refine (all_cons ?_ (all_cons ?_ all_nil))
                        · refine any_op (listed' := #[true, true, true, true, true, true, true, true, true, true, true, true, false, true, true, false, false]) (by kernel_rfl) (by kernel_rfl) ?_
                          refine at_runW 1 [] [] [1, 4, 5, 8, 9, 10, 11, 12, 53, 64] [pl 1 (.slice A2 moves1.length c2), pl 4 (.pointer (some ⟨g5, 0, none⟩)), pl 5 (.pointer (some ⟨g6, 0, none⟩)), pl 8 (.slice A5 boards1.length c5), pl 9 (.pointer (some ⟨g8, 0, none⟩)), pl 10 (.pointer (some ⟨g9, 0, none⟩)), pl 11 (.int .i64 i1), pl 12 (.pointer (some ⟨g10, 0, none⟩)), pl 53 (.tuple #[.agg #[.int .i64 r3.1, .int .i64 r3.2.1, .slice A13 r3.2.2.1.length c13], .int .i64 r3.2.2.2.1, .int .i64 r3.2.2.2.2]), pl 64 (.int .i64 r3.2.2.2.1)] hF hS (by kernel_rfl) (by kernel_rfl) ?_ (fun a hF => ?_)
                          · exact obs_nil
                          refine any_finI rfl (fun h => h) ?_
                          refine any_step [12, 15] (by kernel_rfl) rfl ?_
                          refine (all_cons ?_ (all_cons ?_ all_nil))
                          · refine any_op (listed' := #[true, true, true, true, true, true, true, true, true, true, true, true, true, true, true, false, false]) (by kernel_rfl) (by kernel_rfl) ?_
                            refine at_runW 1 [] [] [1, 4, 5, 8, 9, 10, 11, 12, 64, 65] [pl 1 (.slice A2 moves1.length c2), pl 4 (.pointer (some ⟨g5, 0, none⟩)), pl 5 (.pointer (some ⟨g6, 0, none⟩)), pl 8 (.slice A5 boards1.length c5), pl 9 (.pointer (some ⟨g8, 0, none⟩)), pl 10 (.pointer (some ⟨g9, 0, none⟩)), pl 11 (.int .i64 i1), pl 12 (.pointer (some ⟨g10, 0, none⟩)), pl 64 (.int .i64 r3.2.2.2.1), pl 65 (.int .i64 r3.2.2.2.2)] hF hS (by kernel_rfl) (by kernel_rfl) ?_ (fun a hF => ?_)
                            · exact obs_nil
                            refine any_finI rfl (fun h => h) ?_
                            refine any_step [15] (by kernel_rfl) rfl ?_
                            refine (all_cons ?_ all_nil)
                            · refine any_op (listed' := #[true, true, true, true, true, true, true, true, true, true, true, true, true, true, true, true, false]) (by kernel_rfl) (by kernel_rfl) ?_
                              refine at_runW 1 [] [] [1, 4, 5, 8, 9, 10, 11, 12, 13, 65] [pl 1 (.slice A2 moves1.length c2), pl 4 (.pointer (some ⟨g5, 0, none⟩)), pl 5 (.pointer (some ⟨g6, 0, none⟩)), pl 8 (.slice A5 boards1.length c5), pl 9 (.pointer (some ⟨g8, 0, none⟩)), pl 10 (.pointer (some ⟨g9, 0, none⟩)), pl 11 (.int .i64 i1), pl 12 (.pointer (some ⟨g10, 0, none⟩)), pl 13 (.int .i64 r3.2.2.2.1), pl 65 (.int .i64 r3.2.2.2.2)] hF hS (by kernel_rfl) (by kernel_rfl) ?_ (fun a hF => ?_)
                              · exact obs_nil
                              refine any_finI rfl (fun h => h) ?_
                              refine any_step [16] (by kernel_rfl) rfl ?_
                              refine (all_cons ?_ all_nil)
                              · refine any_op (listed' := #[true, true, true, true, true, true, true, true, true, true, true, true, true, true, true, true, true]) (by kernel_rfl) (by kernel_rfl) ?_
                                refine at_runW 1 [] [] [1, 4, 5, 8, 9, 10, 11, 12, 13, 14] [pl 1 (.slice A2 moves1.length c2), pl 4 (.pointer (some ⟨g5, 0, none⟩)), pl 5 (.pointer (some ⟨g6, 0, none⟩)), pl 8 (.slice A5 boards1.length c5), pl 9 (.pointer (some ⟨g8, 0, none⟩)), pl 10 (.pointer (some ⟨g9, 0, none⟩)), pl 11 (.int .i64 i1), pl 12 (.pointer (some ⟨g10, 0, none⟩)), pl 13 (.int .i64 r3.2.2.2.1), pl 14 (.int .i64 r3.2.2.2.2)] hF hS (by kernel_rfl) (by kernel_rfl) ?_ (fun a hF => ?_)
                                · exact obs_nil
                                refine any_finI rfl (fun h => h) ?_
                                refine any_end (by kernel_rfl) ?_
                                refine np_n ?_
                                refine then_n ?_
                                have hS := hS.pickN 8 [2, 3, 4, 5, 6, 7, 1, 0] (by decide)
                                exact ⟨r3.1, r3.2.1, r3.2.2.1, r3.2.2.2.1, r3.2.2.2.2, g10, A13, c13, hF.weak [1, 4, 5, 8, 9, 10, 11, 12, 13, 14] (by kernel_rfl), hS, hm⟩
                          · refine any_op (listed' := #[true, true, true, true, true, true, true, true, true, true, true, true, false, true, true, true, false]) (by kernel_rfl) (by kernel_rfl) ?_
                            refine at_runW 1 [] [] [1, 4, 5, 8, 9, 10, 11, 12, 13, 53] [pl 1 (.slice A2 moves1.length c2), pl 4 (.pointer (some ⟨g5, 0, none⟩)), pl 5 (.pointer (some ⟨g6, 0, none⟩)), pl 8 (.slice A5 boards1.length c5), pl 9 (.pointer (some ⟨g8, 0, none⟩)), pl 10 (.pointer (some ⟨g9, 0, none⟩)), pl 11 (.int .i64 i1), pl 12 (.pointer (some ⟨g10, 0, none⟩)), pl 13 (.int .i64 r3.2.2.2.1), pl 53 (.tuple #[.agg #[.int .i64 r3.1, .int .i64 r3.2.1, .slice A13 r3.2.2.1.length c13], .int .i64 r3.2.2.2.1, .int .i64 r3.2.2.2.2])] hF hS (by kernel_rfl) (by kernel_rfl) ?_ (fun a hF => ?_)
                            · exact obs_nil
                            refine any_finI rfl (fun h => h) ?_
                            refine any_step [12] (by kernel_rfl) rfl ?_
                            refine (all_cons ?_ all_nil)
                            · refine any_op (listed' := #[true, true, true, true, true, true, true, true, true, true, true, true, true, true, true, true, false]) (by kernel_rfl) (by kernel_rfl) ?_
                              refine at_runW 1 [] [] [1, 4, 5, 8, 9, 10, 11, 12, 13, 65] [pl 1 (.slice A2 moves1.length c2), pl 4 (.pointer (some ⟨g5, 0, none⟩)), pl 5 (.pointer (some ⟨g6, 0, none⟩)), pl 8 (.slice A5 boards1.length c5), pl 9 (.pointer (some ⟨g8, 0, none⟩)), pl 10 (.pointer (some ⟨g9, 0, none⟩)), pl 11 (.int .i64 i1), pl 12 (.pointer (some ⟨g10, 0, none⟩)), pl 13 (.int .i64 r3.2.2.2.1), pl 65 (.int .i64 r3.2.2.2.2)] hF hS (by kernel_rfl) (by kernel_rfl) ?_ (fun a hF => ?_)
                              · exact obs_nil
                              refine any_finI rfl (fun h => h) ?_
                              refine any_step [16] (by kernel_rfl) rfl ?_
                              refine (all_cons ?_ all_nil)
                              · refine any_op (listed' := #[true, true, true, true, true, true, true, true, true, true, true, true, true, true, true, true, true]) (by kernel_rfl) (by kernel_rfl) ?_
                                refine at_runW 1 [] [] [1, 4, 5, 8, 9, 10, 11, 12, 13, 14] [pl 1 (.slice A2 moves1.length c2), pl 4 (.pointer (some ⟨g5, 0, none⟩)), pl 5 (.pointer (some ⟨g6, 0, none⟩)), pl 8 (.slice A5 boards1.length c5), pl 9 (.pointer (some ⟨g8, 0, none⟩)), pl 10 (.pointer (some ⟨g9, 0, none⟩)), pl 11 (.int .i64 i1), pl 12 (.pointer (some ⟨g10, 0, none⟩)), pl 13 (.int .i64 r3.2.2.2.1), pl 14 (.int .i64 r3.2.2.2.2)] hF hS (by kernel_rfl) (by kernel_rfl) ?_ (fun a hF => ?_)
                                · exact obs_nil
                                refine any_finI rfl (fun h => h) ?_
                                refine any_end (by kernel_rfl) ?_
                                refine np_n ?_
                                refine then_n ?_
                                have hS := hS.pickN 8 [2, 3, 4, 5, 6, 7, 1, 0] (by decide)
                                exact ⟨r3.1, r3.2.1, r3.2.2.1, r3.2.2.2.1, r3.2.2.2.2, g10, A13, c13, hF.weak [1, 4, 5, 8, 9, 10, 11, 12, 13, 14] (by kernel_rfl), hS, hm⟩
                        · refine any_op (listed' := #[true, true, true, true, true, true, true, true, true, true, true, false, true, true, true, false, false]) (by kernel_rfl) (by kernel_rfl) ?_
                          refine at_runW 1 [] [] [1, 4, 5, 8, 9, 10, 11, 12, 53, 65] [pl 1 (.slice A2 moves1.length c2), pl 4 (.pointer (some ⟨g5, 0, none⟩)), pl 5 (.pointer (some ⟨g6, 0, none⟩)), pl 8 (.slice A5 boards1.length c5), pl 9 (.pointer (some ⟨g8, 0, none⟩)), pl 10 (.pointer (some ⟨g9, 0, none⟩)), pl 11 (.int .i64 i1), pl 12 (.pointer (some ⟨g10, 0, none⟩)), pl 53 (.tuple #[.agg #[.int .i64 r3.1, .int .i64 r3.2.1, .slice A13 r3.2.2.1.length c13], .int .i64 r3.2.2.2.1, .int .i64 r3.2.2.2.2]), pl 65 (.int .i64 r3.2.2.2.2)] hF hS (by kernel_rfl) (by kernel_rfl) ?_ (fun a hF => ?_)
                          · exact obs_nil
                          refine any_finI rfl (fun h => h) ?_
                          refine any_step [11] (by kernel_rfl) rfl ?_
                          refine (all_cons ?_ all_nil)
                          · refine any_op (listed' := #[true, true, true, true, true, true, true, true, true, true, true, true, true, true, true, false, false]) (by kernel_rfl) (by kernel_rfl) ?_
                            refine at_runW 1 [] [] [1, 4, 5, 8, 9, 10, 11, 12, 64, 65] [pl 1 (.slice A2 moves1.length c2), pl 4 (.pointer (some ⟨g5, 0, none⟩)), pl 5 (.pointer (some ⟨g6, 0, none⟩)), pl 8 (.slice A5 boards1.length c5), pl 9 (.pointer (some ⟨g8, 0, none⟩)), pl 10 (.pointer (some ⟨g9, 0, none⟩)), pl 11 (.int .i64 i1), pl 12 (.pointer (some ⟨g10, 0, none⟩)), pl 64 (.int .i64 r3.2.2.2.1), pl 65 (.int .i64 r3.2.2.2.2)] hF hS (by kernel_rfl) (by kernel_rfl) ?_ (fun a hF => ?_)
                            · exact obs_nil
                            refine any_finI rfl (fun h => h) ?_
                            refine any_step [15] (by kernel_rfl) rfl ?_
                            refine (all_cons ?_ all_nil)
                            · refine any_op (listed' := #[true, true, true, true, true, true, true, true, true, true, true, true, true, true, true, true, false]) (by kernel_rfl) (by kernel_rfl) ?_
                              refine at_runW 1 [] [] [1, 4, 5, 8, 9, 10, 11, 12, 13, 65] [pl 1 (.slice A2 moves1.length c2), pl 4 (.pointer (some ⟨g5, 0, none⟩)), pl 5 (.pointer (some ⟨g6, 0, none⟩)), pl 8 (.slice A5 boards1.length c5), pl 9 (.pointer (some ⟨g8, 0, none⟩)), pl 10 (.pointer (some ⟨g9, 0, none⟩)), pl 11 (.int .i64 i1), pl 12 (.pointer (some ⟨g10, 0, none⟩)), pl 13 (.int .i64 r3.2.2.2.1), pl 65 (.int .i64 r3.2.2.2.2)] hF hS (by kernel_rfl) (by kernel_rfl) ?_ (fun a hF => ?_)
                              · exact obs_nil
                              refine any_finI rfl (fun h => h) ?_
                              refine any_step [16] (by kernel_rfl) rfl ?_
                              refine (all_cons ?_ all_nil)
                              · refine any_op (listed' := #[true, true, true, true, true, true, true, true, true, true, true, true, true, true, true, true, true]) (by kernel_rfl) (by kernel_rfl) ?_
                                refine at_runW 1 [] [] [1, 4, 5, 8, 9, 10, 11, 12, 13, 14] [pl 1 (.slice A2 moves1.length c2), pl 4 (.pointer (some ⟨g5, 0, none⟩)), pl 5 (.pointer (some ⟨g6, 0, none⟩)), pl 8 (.slice A5 boards1.length c5), pl 9 (.pointer (some ⟨g8, 0, none⟩)), pl 10 (.pointer (some ⟨g9, 0, none⟩)), pl 11 (.int .i64 i1), pl 12 (.pointer (some ⟨g10, 0, none⟩)), pl 13 (.int .i64 r3.2.2.2.1), pl 14 (.int .i64 r3.2.2.2.2)] hF hS (by kernel_rfl) (by kernel_rfl) ?_ (fun a hF => ?_)
                                · exact obs_nil
                                refine any_finI rfl (fun h => h) ?_
                                refine any_end (by kernel_rfl) ?_
                                refine np_n ?_
                                refine then_n ?_
                                have hS := hS.pickN 8 [2, 3, 4, 5, 6, 7, 1, 0] (by decide)
                                exact ⟨r3.1, r3.2.1, r3.2.2.1, r3.2.2.2.1, r3.2.2.2.2, g10, A13, c13, hF.weak [1, 4, 5, 8, 9, 10, 11, 12, 13, 14] (by kernel_rfl), hS, hm⟩
                    · refine any_op (listed' := #[true, true, true, true, true, true, true, true, true, true, false, true, false, true, false, false, false]) (by kernel_rfl) (by kernel_rfl) ?_
                      refine at_runW 1 [] [] [1, 4, 5, 8, 9, 10, 11, 12, 53, 64] [pl 1 (.slice A2 moves1.length c2), pl 4 (.pointer (some ⟨g5, 0, none⟩)), pl 5 (.pointer (some ⟨g6, 0, none⟩)), pl 8 (.slice A5 boards1.length c5), pl 9 (.pointer (some ⟨g8, 0, none⟩)), pl 10 (.pointer (some ⟨g9, 0, none⟩)), pl 11 (.int .i64 i1), pl 12 (.pointer (some ⟨g10, 0, none⟩)), pl 53 (.tuple #[.agg #[.int .i64 r3.1, .int .i64 r3.2.1, .slice A13 r3.2.2.1.length c13], .int .i64 r3.2.2.2.1, .int .i64 r3.2.2.2.2]), pl 64 (.int .i64 r3.2.2.2.1)] hF hS (by kernel_rfl) (by kernel_rfl) ?_ (fun a hF => ?_)
                      · exact obs_nil
                      refine any_finI rfl (fun h => h) ?_
                      refine any_step [10, 12] (by kernel_rfl) rfl ?_
                      refine (all_cons ?_ (all_cons ?_ all_nil))
                      · refine any_op (listed' := #[true, true, true, true, true, true, true, true, true, true, true, true, false, true, false, false, false]) (by kernel_rfl) (by kernel_rfl) ?_
                        refine at_runW 1 [] [] [1, 4, 5, 8, 9, 10, 11, 12, 53, 63, 64] [pl 1 (.slice A2 moves1.length c2), pl 4 (.pointer (some ⟨g5, 0, none⟩)), pl 5 (.pointer (some ⟨g6, 0, none⟩)), pl 8 (.slice A5 boards1.length c5), pl 9 (.pointer (some ⟨g8, 0, none⟩)), pl 10 (.pointer (some ⟨g9, 0, none⟩)), pl 11 (.int .i64 i1), pl 12 (.pointer (some ⟨g10, 0, none⟩)), pl 53 (.tuple #[.agg #[.int .i64 r3.1, .int .i64 r3.2.1, .slice A13 r3.2.2.1.length c13], .int .i64 r3.2.2.2.1, .int .i64 r3.2.2.2.2]), pl 63 (.agg #[.int .i64 r3.1, .int .i64 r3.2.1, .slice A13 r3.2.2.1.length c13]), pl 64 (.int .i64 r3.2.2.2.1)] hF hS (by kernel_rfl) (by kernel_rfl) ?_ (fun a hF => ?_)
                        · exact obs_nil
                        refine any_finI rfl (fun h => h) ?_
                        refine any_step [12, 14] (by kernel_rfl) rfl ?_
                        refine (all_cons ?_ (all_cons ?_ all_nil))
                        · refine any_op (listed' := #[true, true, true, true, true, true, true, true, true, true, true, true, true, true, false, false, false]) (by kernel_rfl) (by kernel_rfl) ?_
                          refine at_runW 1 [] [] [1, 4, 5, 8, 9, 10, 11, 12, 63, 64, 65] [pl 1 (.slice A2 moves1.length c2), pl 4 (.pointer (some ⟨g5, 0, none⟩)), pl 5 (.pointer (some ⟨g6, 0, none⟩)), pl 8 (.slice A5 boards1.length c5), pl 9 (.pointer (some ⟨g8, 0, none⟩)), pl 10 (.pointer (some ⟨g9, 0, none⟩)), pl 11 (.int .i64 i1), pl 12 (.pointer (some ⟨g10, 0, none⟩)), pl 63 (.agg #[.int .i64 r3.1, .int .i64 r3.2.1, .slice A13 r3.2.2.1.length c13]), pl 64 (.int .i64 r3.2.2.2.1), pl 65 (.int .i64 r3.2.2.2.2)] hF hS (by kernel_rfl) (by kernel_rfl) ?_ (fun a hF => ?_)
                          · exact obs_nil
                          refine any_finI rfl (fun h => h) ?_
                          refine any_step [14] (by kernel_rfl) rfl ?_
                          refine (all_cons ?_ all_nil)
                          · refine any_op (listed' := #[true, true, true, true, true, true, true, true, true, true, true, true, true, true, true, false, false]) (by kernel_rfl) (by kernel_rfl) ?_
                            obtain ⟨w, hrun, hS⟩ := run_putA (P := Try.prog) (t := 24) (us := #[.int .i64 r3.1, .int .i64 r3.2.1, .slice A13 r3.2.2.1.length c13]) (o := 0) (hS.at_ 1 rfl) (by kernel_rfl) (all_one (by kernel_rfl)) (Nat.le_of_ble_eq_true (by kernel_rfl))
                            refine at_skip hF (by kernel_rfl) hrun ?_
                            have hS : Sep w0 B w (own 3 (.slice A13 r3.2.2.1.length c13) (vI r3.2.2.1) :: blk g10 24 #[.int .i64 r3.1, .int .i64 r3.2.1, .slice A13 r3.2.2.1.length c13] :: blk g5 24 #[.int .i64 0, .int .i64 0, .slice none 0 0] :: blk g6 25 (List.toArray (([] : List Value) ++ (arr1 (Value.int .i64) (0 : Int) 2 (List.replicate 2 (0 : Int)) ++ ([] : List Value)))) :: pg1 :: els encP24 Rel24 pg1 24 3 A5 boards1.length c5 raw1 boards1 :: blk g8 25 (List.toArray (([] : List Value) ++ (arr1 (Value.int .i64) (0 : Int) 2 taken1 ++ ([] : List Value)))) :: blk g9 24 #[.int .i64 now1, .int .i64 now2, .slice A6 now3.length c6] :: fs) := hS
                            refine any_fin rfl (hS.pickN 8 [2, 3, 4, 5, 6, 7] (by decide)) ?_
                            refine any_step [15] (by kernel_rfl) rfl ?_
                            refine (all_cons ?_ all_nil)
                            · refine any_op (listed' := #[true, true, true, true, true, true, true, true, true, true, true, true, true, true, true, true, false]) (by kernel_rfl) (by kernel_rfl) ?_
                              refine at_runW 1 [] [] [1, 4, 5, 8, 9, 10, 11, 12, 13, 65] [pl 1 (.slice A2 moves1.length c2), pl 4 (.pointer (some ⟨g5, 0, none⟩)), pl 5 (.pointer (some ⟨g6, 0, none⟩)), pl 8 (.slice A5 boards1.length c5), pl 9 (.pointer (some ⟨g8, 0, none⟩)), pl 10 (.pointer (some ⟨g9, 0, none⟩)), pl 11 (.int .i64 i1), pl 12 (.pointer (some ⟨g10, 0, none⟩)), pl 13 (.int .i64 r3.2.2.2.1), pl 65 (.int .i64 r3.2.2.2.2)] hF hS (by kernel_rfl) (by kernel_rfl) ?_ (fun a hF => ?_)
                              · exact obs_nil
                              refine any_finI rfl (fun h => h) ?_
                              refine any_step [16] (by kernel_rfl) rfl ?_
                              refine (all_cons ?_ all_nil)
                              · refine any_op (listed' := #[true, true, true, true, true, true, true, true, true, true, true, true, true, true, true, true, true]) (by kernel_rfl) (by kernel_rfl) ?_
                                refine at_runW 1 [] [] [1, 4, 5, 8, 9, 10, 11, 12, 13, 14] [pl 1 (.slice A2 moves1.length c2), pl 4 (.pointer (some ⟨g5, 0, none⟩)), pl 5 (.pointer (some ⟨g6, 0, none⟩)), pl 8 (.slice A5 boards1.length c5), pl 9 (.pointer (some ⟨g8, 0, none⟩)), pl 10 (.pointer (some ⟨g9, 0, none⟩)), pl 11 (.int .i64 i1), pl 12 (.pointer (some ⟨g10, 0, none⟩)), pl 13 (.int .i64 r3.2.2.2.1), pl 14 (.int .i64 r3.2.2.2.2)] hF hS (by kernel_rfl) (by kernel_rfl) ?_ (fun a hF => ?_)
                                · exact obs_nil
                                refine any_finI rfl (fun h => h) ?_
                                refine any_end (by kernel_rfl) ?_
                                refine np_n ?_
                                refine then_n ?_
                                have hS := hS.pickN 8 [2, 3, 4, 5, 6, 7, 1, 0] (by decide)
                                exact ⟨r3.1, r3.2.1, r3.2.2.1, r3.2.2.2.1, r3.2.2.2.2, g10, A13, c13, hF.weak [1, 4, 5, 8, 9, 10, 11, 12, 13, 14] (by kernel_rfl), hS, hm⟩
                        · refine any_op (listed' := #[true, true, true, true, true, true, true, true, true, true, true, true, false, true, true, false, false]) (by kernel_rfl) (by kernel_rfl) ?_
                          obtain ⟨w, hrun, hS⟩ := run_putA (P := Try.prog) (t := 24) (us := #[.int .i64 r3.1, .int .i64 r3.2.1, .slice A13 r3.2.2.1.length c13]) (o := 0) (hS.at_ 1 rfl) (by kernel_rfl) (all_one (by kernel_rfl)) (Nat.le_of_ble_eq_true (by kernel_rfl))
                          refine at_skip hF (by kernel_rfl) hrun ?_
                          have hS : Sep w0 B w (own 3 (.slice A13 r3.2.2.1.length c13) (vI r3.2.2.1) :: blk g10 24 #[.int .i64 r3.1, .int .i64 r3.2.1, .slice A13 r3.2.2.1.length c13] :: blk g5 24 #[.int .i64 0, .int .i64 0, .slice none 0 0] :: blk g6 25 (List.toArray (([] : List Value) ++ (arr1 (Value.int .i64) (0 : Int) 2 (List.replicate 2 (0 : Int)) ++ ([] : List Value)))) :: pg1 :: els encP24 Rel24 pg1 24 3 A5 boards1.length c5 raw1 boards1 :: blk g8 25 (List.toArray (([] : List Value) ++ (arr1 (Value.int .i64) (0 : Int) 2 taken1 ++ ([] : List Value)))) :: blk g9 24 #[.int .i64 now1, .int .i64 now2, .slice A6 now3.length c6] :: fs) := hS
                          refine any_fin rfl (hS.pickN 8 [2, 3, 4, 5, 6, 7] (by decide)) ?_
                          refine any_step [12, 15] (by kernel_rfl) rfl ?_
                          refine (all_cons ?_ (all_cons ?_ all_nil))
                          · refine any_op (listed' := #[true, true, true, true, true, true, true, true, true, true, true, true, true, true, true, false, false]) (by kernel_rfl) (by kernel_rfl) ?_
                            refine at_runW 1 [] [] [1, 4, 5, 8, 9, 10, 11, 12, 64, 65] [pl 1 (.slice A2 moves1.length c2), pl 4 (.pointer (some ⟨g5, 0, none⟩)), pl 5 (.pointer (some ⟨g6, 0, none⟩)), pl 8 (.slice A5 boards1.length c5), pl 9 (.pointer (some ⟨g8, 0, none⟩)), pl 10 (.pointer (some ⟨g9, 0, none⟩)), pl 11 (.int .i64 i1), pl 12 (.pointer (some ⟨g10, 0, none⟩)), pl 64 (.int .i64 r3.2.2.2.1), pl 65 (.int .i64 r3.2.2.2.2)] hF hS (by kernel_rfl) (by kernel_rfl) ?_ (fun a hF => ?_)
                            · exact obs_nil
                            refine any_finI rfl (fun h => h) ?_
                            refine any_step [15] (by kernel_rfl) rfl ?_
                            refine (all_cons ?_ all_nil)
                            · refine any_op (listed' := #[true, true, true, true, true, true, true, true, true, true, true, true, true, true, true, true, false]) (by kernel_rfl) (by kernel_rfl) ?_
                              refine at_runW 1 [] [] [1, 4, 5, 8, 9, 10, 11, 12, 13, 65] [pl 1 (.slice A2 moves1.length c2), pl 4 (.pointer (some ⟨g5, 0, none⟩)), pl 5 (.pointer (some ⟨g6, 0, none⟩)), pl 8 (.slice A5 boards1.length c5), pl 9 (.pointer (some ⟨g8, 0, none⟩)), pl 10 (.pointer (some ⟨g9, 0, none⟩)), pl 11 (.int .i64 i1), pl 12 (.pointer (some ⟨g10, 0, none⟩)), pl 13 (.int .i64 r3.2.2.2.1), pl 65 (.int .i64 r3.2.2.2.2)] hF hS (by kernel_rfl) (by kernel_rfl) ?_ (fun a hF => ?_)
                              · exact obs_nil
                              refine any_finI rfl (fun h => h) ?_
                              refine any_step [16] (by kernel_rfl) rfl ?_
                              refine (all_cons ?_ all_nil)
                              · refine any_op (listed' := #[true, true, true, true, true, true, true, true, true, true, true, true, true, true, true, true, true]) (by kernel_rfl) (by kernel_rfl) ?_
                                refine at_runW 1 [] [] [1, 4, 5, 8, 9, 10, 11, 12, 13, 14] [pl 1 (.slice A2 moves1.length c2), pl 4 (.pointer (some ⟨g5, 0, none⟩)), pl 5 (.pointer (some ⟨g6, 0, none⟩)), pl 8 (.slice A5 boards1.length c5), pl 9 (.pointer (some ⟨g8, 0, none⟩)), pl 10 (.pointer (some ⟨g9, 0, none⟩)), pl 11 (.int .i64 i1), pl 12 (.pointer (some ⟨g10, 0, none⟩)), pl 13 (.int .i64 r3.2.2.2.1), pl 14 (.int .i64 r3.2.2.2.2)] hF hS (by kernel_rfl) (by kernel_rfl) ?_ (fun a hF => ?_)
                                · exact obs_nil
                                refine any_finI rfl (fun h => h) ?_
                                refine any_end (by kernel_rfl) ?_
                                refine np_n ?_
                                refine then_n ?_
                                have hS := hS.pickN 8 [2, 3, 4, 5, 6, 7, 1, 0] (by decide)
                                exact ⟨r3.1, r3.2.1, r3.2.2.1, r3.2.2.2.1, r3.2.2.2.2, g10, A13, c13, hF.weak [1, 4, 5, 8, 9, 10, 11, 12, 13, 14] (by kernel_rfl), hS, hm⟩
                          · refine any_op (listed' := #[true, true, true, true, true, true, true, true, true, true, true, true, false, true, true, true, false]) (by kernel_rfl) (by kernel_rfl) ?_
                            refine at_runW 1 [] [] [1, 4, 5, 8, 9, 10, 11, 12, 13, 53] [pl 1 (.slice A2 moves1.length c2), pl 4 (.pointer (some ⟨g5, 0, none⟩)), pl 5 (.pointer (some ⟨g6, 0, none⟩)), pl 8 (.slice A5 boards1.length c5), pl 9 (.pointer (some ⟨g8, 0, none⟩)), pl 10 (.pointer (some ⟨g9, 0, none⟩)), pl 11 (.int .i64 i1), pl 12 (.pointer (some ⟨g10, 0, none⟩)), pl 13 (.int .i64 r3.2.2.2.1), pl 53 (.tuple #[.agg #[.int .i64 r3.1, .int .i64 r3.2.1, .slice A13 r3.2.2.1.length c13], .int .i64 r3.2.2.2.1, .int .i64 r3.2.2.2.2])] hF hS (by kernel_rfl) (by kernel_rfl) ?_ (fun a hF => ?_)
                            · exact obs_nil
                            refine any_finI rfl (fun h => h) ?_
                            refine any_step [12] (by kernel_rfl) rfl ?_
                            refine (all_cons ?_ all_nil)
                            · refine any_op (listed' := #[true, true, true, true, true, true, true, true, true, true, true, true, true, true, true, true, false]) (by kernel_rfl) (by kernel_rfl) ?_
                              refine at_runW 1 [] [] [1, 4, 5, 8, 9, 10, 11, 12, 13, 65] [pl 1 (.slice A2 moves1.length c2), pl 4 (.pointer (some ⟨g5, 0, none⟩)), pl 5 (.pointer (some ⟨g6, 0, none⟩)), pl 8 (.slice A5 boards1.length c5), pl 9 (.pointer (some ⟨g8, 0, none⟩)), pl 10 (.pointer (some ⟨g9, 0, none⟩)), pl 11 (.int .i64 i1), pl 12 (.pointer (some ⟨g10, 0, none⟩)), pl 13 (.int .i64 r3.2.2.2.1), pl 65 (.int .i64 r3.2.2.2.2)] hF hS (by kernel_rfl) (by kernel_rfl) ?_ (fun a hF => ?_)
                              · exact obs_nil
                              refine any_finI rfl (fun h => h) ?_
                              refine any_step [16] (by kernel_rfl) rfl ?_
                              refine (all_cons ?_ all_nil)
                              · refine any_op (listed' := #[true, true, true, true, true, true, true, true, true, true, true, true, true, true, true, true, true]) (by kernel_rfl) (by kernel_rfl) ?_
                                refine at_runW 1 [] [] [1, 4, 5, 8, 9, 10, 11, 12, 13, 14] [pl 1 (.slice A2 moves1.length c2), pl 4 (.pointer (some ⟨g5, 0, none⟩)), pl 5 (.pointer (some ⟨g6, 0, none⟩)), pl 8 (.slice A5 boards1.length c5), pl 9 (.pointer (some ⟨g8, 0, none⟩)), pl 10 (.pointer (some ⟨g9, 0, none⟩)), pl 11 (.int .i64 i1), pl 12 (.pointer (some ⟨g10, 0, none⟩)), pl 13 (.int .i64 r3.2.2.2.1), pl 14 (.int .i64 r3.2.2.2.2)] hF hS (by kernel_rfl) (by kernel_rfl) ?_ (fun a hF => ?_)
                                · exact obs_nil
                                refine any_finI rfl (fun h => h) ?_
                                refine any_end (by kernel_rfl) ?_
                                refine np_n ?_
                                refine then_n ?_
                                have hS := hS.pickN 8 [2, 3, 4, 5, 6, 7, 1, 0] (by decide)
                                exact ⟨r3.1, r3.2.1, r3.2.2.1, r3.2.2.2.1, r3.2.2.2.2, g10, A13, c13, hF.weak [1, 4, 5, 8, 9, 10, 11, 12, 13, 14] (by kernel_rfl), hS, hm⟩
                      · refine any_op (listed' := #[true, true, true, true, true, true, true, true, true, true, false, true, true, true, false, false, false]) (by kernel_rfl) (by kernel_rfl) ?_
                        refine at_runW 1 [] [] [1, 4, 5, 8, 9, 10, 11, 12, 53, 64, 65] [pl 1 (.slice A2 moves1.length c2), pl 4 (.pointer (some ⟨g5, 0, none⟩)), pl 5 (.pointer (some ⟨g6, 0, none⟩)), pl 8 (.slice A5 boards1.length c5), pl 9 (.pointer (some ⟨g8, 0, none⟩)), pl 10 (.pointer (some ⟨g9, 0, none⟩)), pl 11 (.int .i64 i1), pl 12 (.pointer (some ⟨g10, 0, none⟩)), pl 53 (.tuple #[.agg #[.int .i64 r3.1, .int .i64 r3.2.1, .slice A13 r3.2.2.1.length c13], .int .i64 r3.2.2.2.1, .int .i64 r3.2.2.2.2]), pl 64 (.int .i64 r3.2.2.2.1), pl 65 (.int .i64 r3.2.2.2.2)] hF hS (by kernel_rfl) (by kernel_rfl) ?_ (fun a hF => ?_)
                        · exact obs_nil
                        refine any_finI rfl (fun h => h) ?_
                        refine any_step [10] (by kernel_rfl) rfl ?_
                        refine (all_cons ?_ all_nil)
                        · refine any_op (listed' := #[true, true, true, true, true, true, true, true, true, true, true, true, true, true, false, false, false]) (by kernel_rfl) (by kernel_rfl) ?_
                          refine at_runW 1 [] [] [1, 4, 5, 8, 9, 10, 11, 12, 63, 64, 65] [pl 1 (.slice A2 moves1.length c2), pl 4 (.pointer (some ⟨g5, 0, none⟩)), pl 5 (.pointer (some ⟨g6, 0, none⟩)), pl 8 (.slice A5 boards1.length c5), pl 9 (.pointer (some ⟨g8, 0, none⟩)), pl 10 (.pointer (some ⟨g9, 0, none⟩)), pl 11 (.int .i64 i1), pl 12 (.pointer (some ⟨g10, 0, none⟩)), pl 63 (.agg #[.int .i64 r3.1, .int .i64 r3.2.1, .slice A13 r3.2.2.1.length c13]), pl 64 (.int .i64 r3.2.2.2.1), pl 65 (.int .i64 r3.2.2.2.2)] hF hS (by kernel_rfl) (by kernel_rfl) ?_ (fun a hF => ?_)
                          · exact obs_nil
                          refine any_finI rfl (fun h => h) ?_
                          refine any_step [14] (by kernel_rfl) rfl ?_
                          refine (all_cons ?_ all_nil)
                          · refine any_op (listed' := #[true, true, true, true, true, true, true, true, true, true, true, true, true, true, true, false, false]) (by kernel_rfl) (by kernel_rfl) ?_
                            obtain ⟨w, hrun, hS⟩ := run_putA (P := Try.prog) (t := 24) (us := #[.int .i64 r3.1, .int .i64 r3.2.1, .slice A13 r3.2.2.1.length c13]) (o := 0) (hS.at_ 1 rfl) (by kernel_rfl) (all_one (by kernel_rfl)) (Nat.le_of_ble_eq_true (by kernel_rfl))
                            refine at_skip hF (by kernel_rfl) hrun ?_
                            have hS : Sep w0 B w (own 3 (.slice A13 r3.2.2.1.length c13) (vI r3.2.2.1) :: blk g10 24 #[.int .i64 r3.1, .int .i64 r3.2.1, .slice A13 r3.2.2.1.length c13] :: blk g5 24 #[.int .i64 0, .int .i64 0, .slice none 0 0] :: blk g6 25 (List.toArray (([] : List Value) ++ (arr1 (Value.int .i64) (0 : Int) 2 (List.replicate 2 (0 : Int)) ++ ([] : List Value)))) :: pg1 :: els encP24 Rel24 pg1 24 3 A5 boards1.length c5 raw1 boards1 :: blk g8 25 (List.toArray (([] : List Value) ++ (arr1 (Value.int .i64) (0 : Int) 2 taken1 ++ ([] : List Value)))) :: blk g9 24 #[.int .i64 now1, .int .i64 now2, .slice A6 now3.length c6] :: fs) := hS
                            refine any_fin rfl (hS.pickN 8 [2, 3, 4, 5, 6, 7] (by decide)) ?_
                            refine any_step [15] (by kernel_rfl) rfl ?_
                            refine (all_cons ?_ all_nil)
                            · refine any_op (listed' := #[true, true, true, true, true, true, true, true, true, true, true, true, true, true, true, true, false]) (by kernel_rfl) (by kernel_rfl) ?_
                              refine at_runW 1 [] [] [1, 4, 5, 8, 9, 10, 11, 12, 13, 65] [pl 1 (.slice A2 moves1.length c2), pl 4 (.pointer (some ⟨g5, 0, none⟩)), pl 5 (.pointer (some ⟨g6, 0, none⟩)), pl 8 (.slice A5 boards1.length c5), pl 9 (.pointer (some ⟨g8, 0, none⟩)), pl 10 (.pointer (some ⟨g9, 0, none⟩)), pl 11 (.int .i64 i1), pl 12 (.pointer (some ⟨g10, 0, none⟩)), pl 13 (.int .i64 r3.2.2.2.1), pl 65 (.int .i64 r3.2.2.2.2)] hF hS (by kernel_rfl) (by kernel_rfl) ?_ (fun a hF => ?_)
                              · exact obs_nil
                              refine any_finI rfl (fun h => h) ?_
                              refine any_step [16] (by kernel_rfl) rfl ?_
                              refine (all_cons ?_ all_nil)
                              · refine any_op (listed' := #[true, true, true, true, true, true, true, true, true, true, true, true, true, true, true, true, true]) (by kernel_rfl) (by kernel_rfl) ?_
                                refine at_runW 1 [] [] [1, 4, 5, 8, 9, 10, 11, 12, 13, 14] [pl 1 (.slice A2 moves1.length c2), pl 4 (.pointer (some ⟨g5, 0, none⟩)), pl 5 (.pointer (some ⟨g6, 0, none⟩)), pl 8 (.slice A5 boards1.length c5), pl 9 (.pointer (some ⟨g8, 0, none⟩)), pl 10 (.pointer (some ⟨g9, 0, none⟩)), pl 11 (.int .i64 i1), pl 12 (.pointer (some ⟨g10, 0, none⟩)), pl 13 (.int .i64 r3.2.2.2.1), pl 14 (.int .i64 r3.2.2.2.2)] hF hS (by kernel_rfl) (by kernel_rfl) ?_ (fun a hF => ?_)
                                · exact obs_nil
                                refine any_finI rfl (fun h => h) ?_
                                refine any_end (by kernel_rfl) ?_
                                refine np_n ?_
                                refine then_n ?_
                                have hS := hS.pickN 8 [2, 3, 4, 5, 6, 7, 1, 0] (by decide)
                                exact ⟨r3.1, r3.2.1, r3.2.2.1, r3.2.2.2.1, r3.2.2.2.2, g10, A13, c13, hF.weak [1, 4, 5, 8, 9, 10, 11, 12, 13, 14] (by kernel_rfl), hS, hm⟩
                    · refine any_op (listed' := #[true, true, true, true, true, true, true, true, true, true, false, false, true, true, false, false, false]) (by kernel_rfl) (by kernel_rfl) ?_
                      refine at_runW 1 [] [] [1, 4, 5, 8, 9, 10, 11, 12, 53, 65] [pl 1 (.slice A2 moves1.length c2), pl 4 (.pointer (some ⟨g5, 0, none⟩)), pl 5 (.pointer (some ⟨g6, 0, none⟩)), pl 8 (.slice A5 boards1.length c5), pl 9 (.pointer (some ⟨g8, 0, none⟩)), pl 10 (.pointer (some ⟨g9, 0, none⟩)), pl 11 (.int .i64 i1), pl 12 (.pointer (some ⟨g10, 0, none⟩)), pl 53 (.tuple #[.agg #[.int .i64 r3.1, .int .i64 r3.2.1, .slice A13 r3.2.2.1.length c13], .int .i64 r3.2.2.2.1, .int .i64 r3.2.2.2.2]), pl 65 (.int .i64 r3.2.2.2.2)] hF hS (by kernel_rfl) (by kernel_rfl) ?_ (fun a hF => ?_)
                      · exact obs_nil
                      refine any_finI rfl (fun h => h) ?_
                      refine any_step [10, 11] (by kernel_rfl) rfl ?_
                      refine (all_cons ?_ (all_cons ?_ all_nil))
                      · refine any_op (listed' := #[true, true, true, true, true, true, true, true, true, true, true, false, true, true, false, false, false]) (by kernel_rfl) (by kernel_rfl) ?_
                        refine at_runW 1 [] [] [1, 4, 5, 8, 9, 10, 11, 12, 53, 63, 65] [pl 1 (.slice A2 moves1.length c2), pl 4 (.pointer (some ⟨g5, 0, none⟩)), pl 5 (.pointer (some ⟨g6, 0, none⟩)), pl 8 (.slice A5 boards1.length c5), pl 9 (.pointer (some ⟨g8, 0, none⟩)), pl 10 (.pointer (some ⟨g9, 0, none⟩)), pl 11 (.int .i64 i1), pl 12 (.pointer (some ⟨g10, 0, none⟩)), pl 53 (.tuple #[.agg #[.int .i64 r3.1, .int .i64 r3.2.1, .slice A13 r3.2.2.1.length c13], .int .i64 r3.2.2.2.1, .int .i64 r3.2.2.2.2]), pl 63 (.agg #[.int .i64 r3.1, .int .i64 r3.2.1, .slice A13 r3.2.2.1.length c13]), pl 65 (.int .i64 r3.2.2.2.2)] hF hS (by kernel_rfl) (by kernel_rfl) ?_ (fun a hF => ?_)
                        · exact obs_nil
                        refine any_finI rfl (fun h => h) ?_
                        refine any_step [11, 14] (by kernel_rfl) rfl ?_
                        refine (all_cons ?_ (all_cons ?_ all_nil))
                        · refine any_op (listed' := #[true, true, true, true, true, true, true, true, true, true, true, true, true, true, false, false, false]) (by kernel_rfl) (by kernel_rfl) ?_
                          refine at_runW 1 [] [] [1, 4, 5, 8, 9, 10, 11, 12, 63, 64, 65] [pl 1 (.slice A2 moves1.length c2), pl 4 (.pointer (some ⟨g5, 0, none⟩)), pl 5 (.pointer (some ⟨g6, 0, none⟩)), pl 8 (.slice A5 boards1.length c5), pl 9 (.pointer (some ⟨g8, 0, none⟩)), pl 10 (.pointer (some ⟨g9, 0, none⟩)), pl 11 (.int .i64 i1), pl 12 (.pointer (some ⟨g10, 0, none⟩)), pl 63 (.agg #[.int .i64 r3.1, .int .i64 r3.2.1, .slice A13 r3.2.2.1.length c13]), pl 64 (.int .i64 r3.2.2.2.1), pl 65 (.int .i64 r3.2.2.2.2)] hF hS (by kernel_rfl) (by kernel_rfl) ?_ (fun a hF => ?_)
                          · exact obs_nil
                          refine any_finI rfl (fun h => h) ?_
                          refine any_step [14] (by kernel_rfl) rfl ?_
                          refine (all_cons ?_ all_nil)
                          · refine any_op (listed' := #[true, true, true, true, true, true, true, true, true, true, true, true, true, true, true, false, false]) (by kernel_rfl) (by kernel_rfl) ?_
                            obtain ⟨w, hrun, hS⟩ := run_putA (P := Try.prog) (t := 24) (us := #[.int .i64 r3.1, .int .i64 r3.2.1, .slice A13 r3.2.2.1.length c13]) (o := 0) (hS.at_ 1 rfl) (by kernel_rfl) (all_one (by kernel_rfl)) (Nat.le_of_ble_eq_true (by kernel_rfl))
                            refine at_skip hF (by kernel_rfl) hrun ?_
                            have hS : Sep w0 B w (own 3 (.slice A13 r3.2.2.1.length c13) (vI r3.2.2.1) :: blk g10 24 #[.int .i64 r3.1, .int .i64 r3.2.1, .slice A13 r3.2.2.1.length c13] :: blk g5 24 #[.int .i64 0, .int .i64 0, .slice none 0 0] :: blk g6 25 (List.toArray (([] : List Value) ++ (arr1 (Value.int .i64) (0 : Int) 2 (List.replicate 2 (0 : Int)) ++ ([] : List Value)))) :: pg1 :: els encP24 Rel24 pg1 24 3 A5 boards1.length c5 raw1 boards1 :: blk g8 25 (List.toArray (([] : List Value) ++ (arr1 (Value.int .i64) (0 : Int) 2 taken1 ++ ([] : List Value)))) :: blk g9 24 #[.int .i64 now1, .int .i64 now2, .slice A6 now3.length c6] :: fs) := hS
                            refine any_fin rfl (hS.pickN 8 [2, 3, 4, 5, 6, 7] (by decide)) ?_
                            refine any_step [15] (by kernel_rfl) rfl ?_
                            refine (all_cons ?_ all_nil)
                            · refine any_op (listed' := #[true, true, true, true, true, true, true, true, true, true, true, true, true, true, true, true, false]) (by kernel_rfl) (by kernel_rfl) ?_
                              refine at_runW 1 [] [] [1, 4, 5, 8, 9, 10, 11, 12, 13, 65] [pl 1 (.slice A2 moves1.length c2), pl 4 (.pointer (some ⟨g5, 0, none⟩)), pl 5 (.pointer (some ⟨g6, 0, none⟩)), pl 8 (.slice A5 boards1.length c5), pl 9 (.pointer (some ⟨g8, 0, none⟩)), pl 10 (.pointer (some ⟨g9, 0, none⟩)), pl 11 (.int .i64 i1), pl 12 (.pointer (some ⟨g10, 0, none⟩)), pl 13 (.int .i64 r3.2.2.2.1), pl 65 (.int .i64 r3.2.2.2.2)] hF hS (by kernel_rfl) (by kernel_rfl) ?_ (fun a hF => ?_)
                              · exact obs_nil
                              refine any_finI rfl (fun h => h) ?_
                              refine any_step [16] (by kernel_rfl) rfl ?_
                              refine (all_cons ?_ all_nil)
                              · refine any_op (listed' := #[true, true, true, true, true, true, true, true, true, true, true, true, true, true, true, true, true]) (by kernel_rfl) (by kernel_rfl) ?_
                                refine at_runW 1 [] [] [1, 4, 5, 8, 9, 10, 11, 12, 13, 14] [pl 1 (.slice A2 moves1.length c2), pl 4 (.pointer (some ⟨g5, 0, none⟩)), pl 5 (.pointer (some ⟨g6, 0, none⟩)), pl 8 (.slice A5 boards1.length c5), pl 9 (.pointer (some ⟨g8, 0, none⟩)), pl 10 (.pointer (some ⟨g9, 0, none⟩)), pl 11 (.int .i64 i1), pl 12 (.pointer (some ⟨g10, 0, none⟩)), pl 13 (.int .i64 r3.2.2.2.1), pl 14 (.int .i64 r3.2.2.2.2)] hF hS (by kernel_rfl) (by kernel_rfl) ?_ (fun a hF => ?_)
                                · exact obs_nil
                                refine any_finI rfl (fun h => h) ?_
                                refine any_end (by kernel_rfl) ?_
                                refine np_n ?_
                                refine then_n ?_
                                have hS := hS.pickN 8 [2, 3, 4, 5, 6, 7, 1, 0] (by decide)
                                exact ⟨r3.1, r3.2.1, r3.2.2.1, r3.2.2.2.1, r3.2.2.2.2, g10, A13, c13, hF.weak [1, 4, 5, 8, 9, 10, 11, 12, 13, 14] (by kernel_rfl), hS, hm⟩
                        · refine any_op (listed' := #[true, true, true, true, true, true, true, true, true, true, true, false, true, true, true, false, false]) (by kernel_rfl) (by kernel_rfl) ?_
                          obtain ⟨w, hrun, hS⟩ := run_putA (P := Try.prog) (t := 24) (us := #[.int .i64 r3.1, .int .i64 r3.2.1, .slice A13 r3.2.2.1.length c13]) (o := 0) (hS.at_ 1 rfl) (by kernel_rfl) (all_one (by kernel_rfl)) (Nat.le_of_ble_eq_true (by kernel_rfl))
                          refine at_skip hF (by kernel_rfl) hrun ?_
                          have hS : Sep w0 B w (own 3 (.slice A13 r3.2.2.1.length c13) (vI r3.2.2.1) :: blk g10 24 #[.int .i64 r3.1, .int .i64 r3.2.1, .slice A13 r3.2.2.1.length c13] :: blk g5 24 #[.int .i64 0, .int .i64 0, .slice none 0 0] :: blk g6 25 (List.toArray (([] : List Value) ++ (arr1 (Value.int .i64) (0 : Int) 2 (List.replicate 2 (0 : Int)) ++ ([] : List Value)))) :: pg1 :: els encP24 Rel24 pg1 24 3 A5 boards1.length c5 raw1 boards1 :: blk g8 25 (List.toArray (([] : List Value) ++ (arr1 (Value.int .i64) (0 : Int) 2 taken1 ++ ([] : List Value)))) :: blk g9 24 #[.int .i64 now1, .int .i64 now2, .slice A6 now3.length c6] :: fs) := hS
                          refine any_fin rfl (hS.pickN 8 [2, 3, 4, 5, 6, 7] (by decide)) ?_
                          refine any_step [11] (by kernel_rfl) rfl ?_
                          refine (all_cons ?_ all_nil)
                          · refine any_op (listed' := #[true, true, true, true, true, true, true, true, true, true, true, true, true, true, true, false, false]) (by kernel_rfl) (by kernel_rfl) ?_
                            refine at_runW 1 [] [] [1, 4, 5, 8, 9, 10, 11, 12, 64, 65] [pl 1 (.slice A2 moves1.length c2), pl 4 (.pointer (some ⟨g5, 0, none⟩)), pl 5 (.pointer (some ⟨g6, 0, none⟩)), pl 8 (.slice A5 boards1.length c5), pl 9 (.pointer (some ⟨g8, 0, none⟩)), pl 10 (.pointer (some ⟨g9, 0, none⟩)), pl 11 (.int .i64 i1), pl 12 (.pointer (some ⟨g10, 0, none⟩)), pl 64 (.int .i64 r3.2.2.2.1), pl 65 (.int .i64 r3.2.2.2.2)] hF hS (by kernel_rfl) (by kernel_rfl) ?_ (fun a hF => ?_)
                            · exact obs_nil
                            refine any_finI rfl (fun h => h) ?_
                            refine any_step [15] (by kernel_rfl) rfl ?_
                            refine (all_cons ?_ all_nil)
                            · refine any_op (listed' := #[true, true, true, true, true, true, true, true, true, true, true, true, true, true, true, true, false]) (by kernel_rfl) (by kernel_rfl) ?_
                              refine at_runW 1 [] [] [1, 4, 5, 8, 9, 10, 11, 12, 13, 65] [pl 1 (.slice A2 moves1.length c2), pl 4 (.pointer (some ⟨g5, 0, none⟩)), pl 5 (.pointer (some ⟨g6, 0, none⟩)), pl 8 (.slice A5 boards1.length c5), pl 9 (.pointer (some ⟨g8, 0, none⟩)), pl 10 (.pointer (some ⟨g9, 0, none⟩)), pl 11 (.int .i64 i1), pl 12 (.pointer (some ⟨g10, 0, none⟩)), pl 13 (.int .i64 r3.2.2.2.1), pl 65 (.int .i64 r3.2.2.2.2)] hF hS (by kernel_rfl) (by kernel_rfl) ?_ (fun a hF => ?_)
                              · exact obs_nil
                              refine any_finI rfl (fun h => h) ?_
                              refine any_step [16] (by kernel_rfl) rfl ?_
                              refine (all_cons ?_ all_nil)
                              · refine any_op (listed' := #[true, true, true, true, true, true, true, true, true, true, true, true, true, true, true, true, true]) (by kernel_rfl) (by kernel_rfl) ?_
                                refine at_runW 1 [] [] [1, 4, 5, 8, 9, 10, 11, 12, 13, 14] [pl 1 (.slice A2 moves1.length c2), pl 4 (.pointer (some ⟨g5, 0, none⟩)), pl 5 (.pointer (some ⟨g6, 0, none⟩)), pl 8 (.slice A5 boards1.length c5), pl 9 (.pointer (some ⟨g8, 0, none⟩)), pl 10 (.pointer (some ⟨g9, 0, none⟩)), pl 11 (.int .i64 i1), pl 12 (.pointer (some ⟨g10, 0, none⟩)), pl 13 (.int .i64 r3.2.2.2.1), pl 14 (.int .i64 r3.2.2.2.2)] hF hS (by kernel_rfl) (by kernel_rfl) ?_ (fun a hF => ?_)
                                · exact obs_nil
                                refine any_finI rfl (fun h => h) ?_
                                refine any_end (by kernel_rfl) ?_
                                refine np_n ?_
                                refine then_n ?_
                                have hS := hS.pickN 8 [2, 3, 4, 5, 6, 7, 1, 0] (by decide)
                                exact ⟨r3.1, r3.2.1, r3.2.2.1, r3.2.2.2.1, r3.2.2.2.2, g10, A13, c13, hF.weak [1, 4, 5, 8, 9, 10, 11, 12, 13, 14] (by kernel_rfl), hS, hm⟩
                      · refine any_op (listed' := #[true, true, true, true, true, true, true, true, true, true, false, true, true, true, false, false, false]) (by kernel_rfl) (by kernel_rfl) ?_
                        refine at_runW 1 [] [] [1, 4, 5, 8, 9, 10, 11, 12, 53, 64, 65] [pl 1 (.slice A2 moves1.length c2), pl 4 (.pointer (some ⟨g5, 0, none⟩)), pl 5 (.pointer (some ⟨g6, 0, none⟩)), pl 8 (.slice A5 boards1.length c5), pl 9 (.pointer (some ⟨g8, 0, none⟩)), pl 10 (.pointer (some ⟨g9, 0, none⟩)), pl 11 (.int .i64 i1), pl 12 (.pointer (some ⟨g10, 0, none⟩)), pl 53 (.tuple #[.agg #[.int .i64 r3.1, .int .i64 r3.2.1, .slice A13 r3.2.2.1.length c13], .int .i64 r3.2.2.2.1, .int .i64 r3.2.2.2.2]), pl 64 (.int .i64 r3.2.2.2.1), pl 65 (.int .i64 r3.2.2.2.2)] hF hS (by kernel_rfl) (by kernel_rfl) ?_ (fun a hF => ?_)
                        · exact obs_nil
                        refine any_finI rfl (fun h => h) ?_
                        refine any_step [10] (by kernel_rfl) rfl ?_
                        refine (all_cons ?_ all_nil)
                        · refine any_op (listed' := #[true, true, true, true, true, true, true, true, true, true, true, true, true, true, false, false, false]) (by kernel_rfl) (by kernel_rfl) ?_
                          refine at_runW 1 [] [] [1, 4, 5, 8, 9, 10, 11, 12, 63, 64, 65] [pl 1 (.slice A2 moves1.length c2), pl 4 (.pointer (some ⟨g5, 0, none⟩)), pl 5 (.pointer (some ⟨g6, 0, none⟩)), pl 8 (.slice A5 boards1.length c5), pl 9 (.pointer (some ⟨g8, 0, none⟩)), pl 10 (.pointer (some ⟨g9, 0, none⟩)), pl 11 (.int .i64 i1), pl 12 (.pointer (some ⟨g10, 0, none⟩)), pl 63 (.agg #[.int .i64 r3.1, .int .i64 r3.2.1, .slice A13 r3.2.2.1.length c13]), pl 64 (.int .i64 r3.2.2.2.1), pl 65 (.int .i64 r3.2.2.2.2)] hF hS (by kernel_rfl) (by kernel_rfl) ?_ (fun a hF => ?_)
                          · exact obs_nil
                          refine any_finI rfl (fun h => h) ?_
                          refine any_step [14] (by kernel_rfl) rfl ?_
                          refine (all_cons ?_ all_nil)
                          · refine any_op (listed' := #[true, true, true, true, true, true, true, true, true, true, true, true, true, true, true, false, false]) (by kernel_rfl) (by kernel_rfl) ?_
                            obtain ⟨w, hrun, hS⟩ := run_putA (P := Try.prog) (t := 24) (us := #[.int .i64 r3.1, .int .i64 r3.2.1, .slice A13 r3.2.2.1.length c13]) (o := 0) (hS.at_ 1 rfl) (by kernel_rfl) (all_one (by kernel_rfl)) (Nat.le_of_ble_eq_true (by kernel_rfl))
                            refine at_skip hF (by kernel_rfl) hrun ?_
                            have hS : Sep w0 B w (own 3 (.slice A13 r3.2.2.1.length c13) (vI r3.2.2.1) :: blk g10 24 #[.int .i64 r3.1, .int .i64 r3.2.1, .slice A13 r3.2.2.1.length c13] :: blk g5 24 #[.int .i64 0, .int .i64 0, .slice none 0 0] :: blk g6 25 (List.toArray (([] : List Value) ++ (arr1 (Value.int .i64) (0 : Int) 2 (List.replicate 2 (0 : Int)) ++ ([] : List Value)))) :: pg1 :: els encP24 Rel24 pg1 24 3 A5 boards1.length c5 raw1 boards1 :: blk g8 25 (List.toArray (([] : List Value) ++ (arr1 (Value.int .i64) (0 : Int) 2 taken1 ++ ([] : List Value)))) :: blk g9 24 #[.int .i64 now1, .int .i64 now2, .slice A6 now3.length c6] :: fs) := hS
                            refine any_fin rfl (hS.pickN 8 [2, 3, 4, 5, 6, 7] (by decide)) ?_
                            refine any_step [15] (by kernel_rfl) rfl ?_
                            refine (all_cons ?_ all_nil)
                            · refine any_op (listed' := #[true, true, true, true, true, true, true, true, true, true, true, true, true, true, true, true, false]) (by kernel_rfl) (by kernel_rfl) ?_
                              refine at_runW 1 [] [] [1, 4, 5, 8, 9, 10, 11, 12, 13, 65] [pl 1 (.slice A2 moves1.length c2), pl 4 (.pointer (some ⟨g5, 0, none⟩)), pl 5 (.pointer (some ⟨g6, 0, none⟩)), pl 8 (.slice A5 boards1.length c5), pl 9 (.pointer (some ⟨g8, 0, none⟩)), pl 10 (.pointer (some ⟨g9, 0, none⟩)), pl 11 (.int .i64 i1), pl 12 (.pointer (some ⟨g10, 0, none⟩)), pl 13 (.int .i64 r3.2.2.2.1), pl 65 (.int .i64 r3.2.2.2.2)] hF hS (by kernel_rfl) (by kernel_rfl) ?_ (fun a hF => ?_)
                              · exact obs_nil
                              refine any_finI rfl (fun h => h) ?_
                              refine any_step [16] (by kernel_rfl) rfl ?_
                              refine (all_cons ?_ all_nil)
                              · refine any_op (listed' := #[true, true, true, true, true, true, true, true, true, true, true, true, true, true, true, true, true]) (by kernel_rfl) (by kernel_rfl) ?_
                                refine at_runW 1 [] [] [1, 4, 5, 8, 9, 10, 11, 12, 13, 14] [pl 1 (.slice A2 moves1.length c2), pl 4 (.pointer (some ⟨g5, 0, none⟩)), pl 5 (.pointer (some ⟨g6, 0, none⟩)), pl 8 (.slice A5 boards1.length c5), pl 9 (.pointer (some ⟨g8, 0, none⟩)), pl 10 (.pointer (some ⟨g9, 0, none⟩)), pl 11 (.int .i64 i1), pl 12 (.pointer (some ⟨g10, 0, none⟩)), pl 13 (.int .i64 r3.2.2.2.1), pl 14 (.int .i64 r3.2.2.2.2)] hF hS (by kernel_rfl) (by kernel_rfl) ?_ (fun a hF => ?_)
                                · exact obs_nil
                                refine any_finI rfl (fun h => h) ?_
                                refine any_end (by kernel_rfl) ?_
                                refine np_n ?_
                                refine then_n ?_
                                have hS := hS.pickN 8 [2, 3, 4, 5, 6, 7, 1, 0] (by decide)
                                exact ⟨r3.1, r3.2.1, r3.2.2.1, r3.2.2.2.1, r3.2.2.2.2, g10, A13, c13, hF.weak [1, 4, 5, 8, 9, 10, 11, 12, 13, 14] (by kernel_rfl), hS, hm⟩
          · obtain ⟨hp5, hm⟩ := asrt_b hm
            refine reg [⟨true, [], vS (Instr.indexAt 22 (.slice A2 moves1.length c2) (.int .i64 i1)), .pointer (some (sAddr A2 i1))⟩, ⟨false, [], vS (Instr.loadAt 3 (.pointer (some (sAddr A2 i1)))), .int .i64 (geti moves1 i1)⟩] [none, none, some (.pointer (some (sAddr A2 i1))), some (.int .i64 (geti moves1 i1)), none] [1, 4, 5, 8, 9, 10, 11, 52] [pl 1 (.slice A2 moves1.length c2), pl 4 (.pointer (some ⟨g5, 0, none⟩)), pl 5 (.pointer (some ⟨g6, 0, none⟩)), pl 8 (.slice A5 boards1.length c5), pl 9 (.pointer (some ⟨g8, 0, none⟩)), pl 10 (.pointer (some ⟨g9, 0, none⟩)), pl 11 (.int .i64 i1), pl 52 (.bool ((geti moves1 i1) == (-1)))] hF hS Fol (by kernel_rfl) (by kernel_rfl) (by kernel_rfl) ?_ (fun a w hF hS => ?_)
            · exact obs_cons (ob_ix1 (f := (Value.int .i64)) (m := moves1) Und22 hi3 hs3 (hr_moves1 _ (hS.dropN 6)) rfl (fun _ => hp5)) <| obs_cons (ob_get1 (n := moves1.length) (m := moves1) (Value.int .i64) (0 : Int) Agg3 (fun _ hS => ⟨_, (hr_moves1 _ (hS.dropN 6))⟩) (fun _ hS => rfl) (fun _ => hp5)) <| obs_nil
            refine cond_ev (t := 52) (b := ((geti moves1 i1) == (-1))) hF (by kernel_rfl) (fun hb => ?_) (fun hb => ?_)
            · replace hm := if_t hm hb
              refine wpIn_exit ?_
              refine then_e (block_e (then_n ?_))
              have hS : Sep w0 B w (blk g5 24 #[.int .i64 0, .int .i64 0, .slice none 0 0] :: blk g6 25 (List.toArray (([] : List Value) ++ (arr1 (Value.int .i64) (0 : Int) 2 (List.replicate 2 (0 : Int)) ++ ([] : List Value)))) :: pg1 :: els encP24 Rel24 pg1 24 3 A5 boards1.length c5 raw1 boards1 :: blk g8 25 (List.toArray (([] : List Value) ++ (arr1 (Value.int .i64) (0 : Int) 2 taken1 ++ ([] : List Value)))) :: blk g9 24 #[.int .i64 now1, .int .i64 now2, .slice A6 now3.length c6] :: fs) := hS
              exact ⟨boards1, taken1, now1, now2, now3, pg1, raw1, A5, c5, A6, c6, hF.weak [1, 4, 5, 8, 9, 10, 11] (by kernel_rfl), hS, hp1, hc2, hm⟩
            · replace hm := if_f hm hb
              refine wpIn_skip ?_
              refine then_n ?_
              exact ⟨hF.weak [1, 4, 5, 8, 9, 10, 11] (by kernel_rfl), hS, hm⟩
        · obtain ⟨hp3, hm⟩ := asrt_b hm
          obtain ⟨hp4, hm⟩ := asrt_b hm
          refine reg [⟨true, [(decide ((2 : Int) ≤ i1), true)], vS (Instr.indexAt 22 (.slice A2 moves1.length c2) (.int .i64 (w64 (i1 - 1)))), .pointer (some (sAddr A2 (w64 (i1 - 1))))⟩, ⟨false, [(decide ((2 : Int) ≤ i1), true)], vS (Instr.loadAt 3 (.pointer (some (sAddr A2 (w64 (i1 - 1)))))), .int .i64 (geti moves1 (w64 (i1 - 1)))⟩, ⟨true, [((decide ((2 : Int) ≤ i1)) && ((geti moves1 (w64 (i1 - 1))) == (-1)), true)], vS (Instr.indexAt 22 (.slice A2 moves1.length c2) (.int .i64 (w64 (i1 - 2)))), .pointer (some (sAddr A2 (w64 (i1 - 2))))⟩, ⟨false, [((decide ((2 : Int) ≤ i1)) && ((geti moves1 (w64 (i1 - 1))) == (-1)), true)], vS (Instr.loadAt 3 (.pointer (some (sAddr A2 (w64 (i1 - 2)))))), .int .i64 (geti moves1 (w64 (i1 - 2)))⟩] [none, none, none, none, none, none, some (.pointer (some (sAddr A2 (w64 (i1 - 1))))), some (.int .i64 (geti moves1 (w64 (i1 - 1)))), none, none, none, none, none, none, some (.pointer (some (sAddr A2 (w64 (i1 - 2))))), some (.int .i64 (geti moves1 (w64 (i1 - 2)))), none, none] [1, 4, 5, 8, 9, 10, 11, 44] [pl 1 (.slice A2 moves1.length c2), pl 4 (.pointer (some ⟨g5, 0, none⟩)), pl 5 (.pointer (some ⟨g6, 0, none⟩)), pl 8 (.slice A5 boards1.length c5), pl 9 (.pointer (some ⟨g8, 0, none⟩)), pl 10 (.pointer (some ⟨g9, 0, none⟩)), pl 11 (.int .i64 i1), pl 44 (.bool (((decide ((2 : Int) ≤ i1)) && ((geti moves1 (w64 (i1 - 1))) == (-1))) && ((geti moves1 (w64 (i1 - 2))) == (-1))))] hF hS Fol (by kernel_rfl) (by kernel_rfl) (by kernel_rfl) ?_ (fun a w hF hS => ?_)
          · exact obs_cons (ob_ix1 (f := (Value.int .i64)) (m := moves1) Und22 hi3 hs3 (hr_moves1 _ (hS.dropN 6)) rfl (fun hy => hp3 (hy (decide ((2 : Int) ≤ i1), true) (by simp)))) <| obs_cons (ob_get1 (n := moves1.length) (m := moves1) (Value.int .i64) (0 : Int) Agg3 (fun _ hS => ⟨_, (hr_moves1 _ (hS.dropN 6))⟩) (fun _ hS => rfl) (fun hy => hp3 (hy (decide ((2 : Int) ≤ i1), true) (by simp)))) <| obs_cons (ob_ix1 (f := (Value.int .i64)) (m := moves1) Und22 hi3 hs3 (hr_moves1 _ (hS.dropN 6)) rfl (fun hy => hp4 (hy ((decide ((2 : Int) ≤ i1)) && ((geti moves1 (w64 (i1 - 1))) == (-1)), true) (by simp)))) <| obs_cons (ob_get1 (n := moves1.length) (m := moves1) (Value.int .i64) (0 : Int) Agg3 (fun _ hS => ⟨_, (hr_moves1 _ (hS.dropN 6))⟩) (fun _ hS => rfl) (fun hy => hp4 (hy ((decide ((2 : Int) ≤ i1)) && ((geti moves1 (w64 (i1 - 1))) == (-1)), true) (by simp)))) <| obs_nil
          refine cond_ev (t := 44) (b := ((decide ((2 : Int) ≤ i1)) && ((geti moves1 (w64 (i1 - 1))) == (-1))) && ((geti moves1 (w64 (i1 - 2))) == (-1))) hF (by kernel_rfl) (fun hb => ?_) (fun hb => ?_)
          · replace hm := if_t hm hb
            refine seq_cut (fun a w => Fr 104 [pl 4 (.pointer (some ⟨g5, 0, none⟩)), pl 5 (.pointer (some ⟨g6, 0, none⟩)), pl 6 (.int .i64 i1), pl 7 (.int .i64 9)] a ∧ Sep w0 B w (blk g5 24 #[.int .i64 now1, .int .i64 now2, .slice A6 now3.length c6] :: pg1 :: blk g6 25 (List.toArray (([] : List Value) ++ (arr1 (Value.int .i64) (0 : Int) 2 taken1 ++ ([] : List Value)))) :: fs) ∧ ((gameroomref_PlayStones_J5 taken1 now1 now2 now3 i1)).bind φ1 = some r) ?_ ?_
            · rintro a w ⟨hF, hS, hm⟩
              unfold gameroomref_PlayStones_J5 at hm
              refine wpIn_ret ?_
              refine then_r (block_r (then_r (then_r (block_r (then_r ?_)))))
              rw [← hφ1] at hm
              replace hm := done_b hm
              unfold gameroomref_PlayStones_K1 at hm
              try dsimp only at hm
              have hld0 := run_loadVarA (P := Try.prog) (t := 24) (cs := #[.int .i64 now1, .int .i64 now2, .slice A6 now3.length c6]) (by kernel_rfl) (by kernel_rfl) ((hS.at_ 0 rfl).cellsAt 0 (by rfl))
              have hld1 := run_loadVarA (P := Try.prog) (t := 25) (cs := (List.toArray (([] : List Value) ++ (arr1 (Value.int .i64) (0 : Int) 2 taken1 ++ ([] : List Value))))) (by kernel_rfl) (by kernel_rfl) ((hS.at_ 2 rfl).cellsAt 0 (by rfl))
              have hS := hS.pickN 3 [1] (by decide)
              have hm : some (now1, now2, now3, taken1, i1, 9) = some r := hm
              obtain rfl := Option.some.inj hm
              exact retV (rs := [.cell 4 24, .cell 5 25, .tmp 6, .tmp 7]) (vs := [.agg #[.int .i64 now1, .int .i64 now2, .slice A6 now3.length c6], .agg (List.toArray (([] : List Value) ++ (arr1 (Value.int .i64) (0 : Int) 2 taken1 ++ ([] : List Value)))), .int .i64 i1, .int .i64 9]) hF rfl (rv_c (by kernel_rfl) hld0 <| rv_c (by kernel_rfl) hld1 <| rv_t (by kernel_rfl) <| rv_t (by kernel_rfl) <| rv_nil) rfl ⟨_, rfl, pg1, A6, c6, rfl, hp1, hc2, hS⟩
            · refine regMix5 [0, 2] [3, 4] 5 #[true, false, true, false, false, false, false] [⟨false, [], vS (Instr.loadAt 24 (.pointer (some ⟨g9, 0, none⟩))), .agg #[.int .i64 now1, .int .i64 now2, .slice A6 now3.length c6]⟩] [some (.agg #[.int .i64 now1, .int .i64 now2, .slice A6 now3.length c6]), none] [4, 5, 9, 45, 47] [pl 4 (.pointer (some ⟨g5, 0, none⟩)), pl 5 (.pointer (some ⟨g6, 0, none⟩)), pl 9 (.pointer (some ⟨g8, 0, none⟩)), pl 45 (.agg #[.int .i64 now1, .int .i64 now2, .slice A6 now3.length c6]), pl 47 (.int .i64 i1)] hF hS Fol (by kernel_rfl) (by kernel_rfl) (by kernel_rfl) (by kernel_rfl) ?_ (fun a w hF hS => ?_)
              · exact obs_cons (ob_loadA (cs := #[.int .i64 now1, .int .i64 now2, .slice A6 now3.length c6]) (by kernel_rfl) (by kernel_rfl) (fun _ _ hS => (hS.at_ 5 rfl).cellsAt 0 (by rfl))) <| obs_nil
              refine any_share 3 #[true, true, true, true, false, false, false] (fun a w => Fr 104 [pl 4 (.pointer (some ⟨g5, 0, none⟩)), pl 5 (.pointer (some ⟨g6, 0, none⟩)), pl 46 (.agg (List.toArray (([] : List Value) ++ (arr1 (Value.int .i64) (0 : Int) 2 taken1 ++ ([] : List Value))))), pl 47 (.int .i64 i1)] a ∧ Sep w0 B w (blk g5 24 #[.int .i64 now1, .int .i64 now2, .slice A6 now3.length c6] :: blk g6 25 (List.toArray (([] : List Value) ++ (arr1 (Value.int .i64) (0 : Int) 2 (List.replicate 2 (0 : Int)) ++ ([] : List Value)))) :: pg1 :: els encP24 Rel24 pg1 24 3 A5 boards1.length c5 raw1 boards1 :: blk g8 25 (List.toArray (([] : List Value) ++ (arr1 (Value.int .i64) (0 : Int) 2 taken1 ++ ([] : List Value)))) :: blk g9 24 #[.int .i64 now1, .int .i64 now2, .slice A6 now3.length c6] :: fs)) (fun a w hI => ?_) (fun sh1 => ?_)
              · obtain ⟨hF, hS⟩ := hI
                refine any_step [4] (by kernel_rfl) rfl ?_
                refine (all_cons ?_ all_nil)
                · refine any_op (listed' := #[true, true, true, true, true, false, false]) (by kernel_rfl) (by kernel_rfl) ?_
                  obtain ⟨w, hrun, hS⟩ := run_putA (P := Try.prog) (t := 25) (us := (List.toArray (([] : List Value) ++ (arr1 (Value.int .i64) (0 : Int) 2 taken1 ++ ([] : List Value))))) (o := 0) (hS.at_ 1 rfl) (by kernel_rfl) (all_one (by kernel_rfl)) (Nat.le_of_ble_eq_true (by kernel_rfl))
                  refine at_skip hF (by kernel_rfl) hrun ?_
                  have hS : Sep w0 B w (blk g5 24 #[.int .i64 now1, .int .i64 now2, .slice A6 now3.length c6] :: blk g6 25 (List.toArray (([] : List Value) ++ (arr1 (Value.int .i64) (0 : Int) 2 taken1 ++ ([] : List Value)))) :: pg1 :: els encP24 Rel24 pg1 24 3 A5 boards1.length c5 raw1 boards1 :: blk g8 25 (List.toArray (([] : List Value) ++ (arr1 (Value.int .i64) (0 : Int) 2 taken1 ++ ([] : List Value)))) :: blk g9 24 #[.int .i64 now1, .int .i64 now2, .slice A6 now3.length c6] :: fs) := hS
                  refine any_finE rfl (by decide) ?_
                  refine any_step [5] (by kernel_rfl) rfl ?_
                  refine (all_cons ?_ all_nil)
                  · refine any_op (listed' := #[true, true, true, true, true, true, false]) (by kernel_rfl) (by kernel_rfl) ?_
                    refine at_runW 1 [] [] [4, 5, 6] [pl 4 (.pointer (some ⟨g5, 0, none⟩)), pl 5 (.pointer (some ⟨g6, 0, none⟩)), pl 6 (.int .i64 i1)] hF hS (by kernel_rfl) (by kernel_rfl) ?_ (fun a hF => ?_)
                    · exact obs_nil
                    refine any_finI rfl (fun h => h) ?_
                    refine any_step [6] (by kernel_rfl) rfl ?_
                    refine (all_cons ?_ all_nil)
                    · refine any_op (listed' := #[true, true, true, true, true, true, true]) (by kernel_rfl) (by kernel_rfl) ?_
                      refine at_runW 1 [] [] [4, 5, 6, 7] [pl 4 (.pointer (some ⟨g5, 0, none⟩)), pl 5 (.pointer (some ⟨g6, 0, none⟩)), pl 6 (.int .i64 i1), pl 7 (.int .i64 9)] hF hS (by kernel_rfl) (by kernel_rfl) ?_ (fun a hF => ?_)
                      · exact obs_nil
                      refine any_finI rfl (fun h => h) ?_
                      refine any_end (by kernel_rfl) ?_
                      refine np_n ?_
                      refine then_n ?_
                      have hS := hS.pickN 6 [0, 2, 1] (by decide)
                      exact ⟨hF.weak [4, 5, 6, 7] (by kernel_rfl), hS, hm⟩
              refine any_step [1, 3] (by kernel_rfl) rfl ?_
              refine (all_cons ?_ (all_cons ?_ all_nil))
              · refine any_op (listed' := #[true, true, true, false, false, false, false]) (by kernel_rfl) (by kernel_rfl) ?_
                refine at_runW 1 [⟨false, [], vS (Instr.loadAt 25 (.pointer (some ⟨g8, 0, none⟩))), .agg (List.toArray (([] : List Value) ++ (arr1 (Value.int .i64) (0 : Int) 2 taken1 ++ ([] : List Value))))⟩] [some (.agg (List.toArray (([] : List Value) ++ (arr1 (Value.int .i64) (0 : Int) 2 taken1 ++ ([] : List Value)))))] [4, 5, 45, 46, 47] [pl 4 (.pointer (some ⟨g5, 0, none⟩)), pl 5 (.pointer (some ⟨g6, 0, none⟩)), pl 45 (.agg #[.int .i64 now1, .int .i64 now2, .slice A6 now3.length c6]), pl 46 (.agg (List.toArray (([] : List Value) ++ (arr1 (Value.int .i64) (0 : Int) 2 taken1 ++ ([] : List Value))))), pl 47 (.int .i64 i1)] hF hS (by kernel_rfl) (by kernel_rfl) ?_ (fun a hF => ?_)
                · exact obs_cons (ob_loadA (cs := (List.toArray (([] : List Value) ++ (arr1 (Value.int .i64) (0 : Int) 2 taken1 ++ ([] : List Value))))) (by kernel_rfl) (by kernel_rfl) (fun _ _ hS => (hS.at_ 4 rfl).cellsAt 0 (by rfl))) <| obs_nil
                refine any_finI rfl (fun h => h) ?_
                refine any_step [3] (by kernel_rfl) rfl ?_
                refine (all_cons ?_ all_nil)
                · refine any_op (listed' := #[true, true, true, true, false, false, false]) (by kernel_rfl) (by kernel_rfl) ?_
                  obtain ⟨w, hrun, hS⟩ := run_putA (P := Try.prog) (t := 24) (us := #[.int .i64 now1, .int .i64 now2, .slice A6 now3.length c6]) (o := 0) (hS.at_ 0 rfl) (by kernel_rfl) (all_one (by kernel_rfl)) (Nat.le_of_ble_eq_true (by kernel_rfl))
                  refine at_skip hF (by kernel_rfl) hrun ?_
                  have hS : Sep w0 B w (blk g5 24 #[.int .i64 now1, .int .i64 now2, .slice A6 now3.length c6] :: blk g6 25 (List.toArray (([] : List Value) ++ (arr1 (Value.int .i64) (0 : Int) 2 (List.replicate 2 (0 : Int)) ++ ([] : List Value)))) :: pg1 :: els encP24 Rel24 pg1 24 3 A5 boards1.length c5 raw1 boards1 :: blk g8 25 (List.toArray (([] : List Value) ++ (arr1 (Value.int .i64) (0 : Int) 2 taken1 ++ ([] : List Value)))) :: blk g9 24 #[.int .i64 now1, .int .i64 now2, .slice A6 now3.length c6] :: fs) := hS
                  refine any_finE rfl (by decide) ?_
                  exact sh1 _ _ ⟨hF.weak [4, 5, 46, 47] (by kernel_rfl), hS⟩
              · refine any_op (listed' := #[true, false, true, true, false, false, false]) (by kernel_rfl) (by kernel_rfl) ?_
                obtain ⟨w, hrun, hS⟩ := run_putA (P := Try.prog) (t := 24) (us := #[.int .i64 now1, .int .i64 now2, .slice A6 now3.length c6]) (o := 0) (hS.at_ 0 rfl) (by kernel_rfl) (all_one (by kernel_rfl)) (Nat.le_of_ble_eq_true (by kernel_rfl))
                refine at_skip hF (by kernel_rfl) hrun ?_
                have hS : Sep w0 B w (blk g5 24 #[.int .i64 now1, .int .i64 now2, .slice A6 now3.length c6] :: blk g6 25 (List.toArray (([] : List Value) ++ (arr1 (Value.int .i64) (0 : Int) 2 (List.replicate 2 (0 : Int)) ++ ([] : List Value)))) :: pg1 :: els encP24 Rel24 pg1 24 3 A5 boards1.length c5 raw1 boards1 :: blk g8 25 (List.toArray (([] : List Value) ++ (arr1 (Value.int .i64) (0 : Int) 2 taken1 ++ ([] : List Value)))) :: blk g9 24 #[.int .i64 now1, .int .i64 now2, .slice A6 now3.length c6] :: fs) := hS
                refine any_finE rfl (by decide) ?_
                refine any_step [1] (by kernel_rfl) rfl ?_
                refine (all_cons ?_ all_nil)
                · refine any_op (listed' := #[true, true, true, true, false, false, false]) (by kernel_rfl) (by kernel_rfl) ?_
                  refine at_runW 1 [⟨false, [], vS (Instr.loadAt 25 (.pointer (some ⟨g8, 0, none⟩))), .agg (List.toArray (([] : List Value) ++ (arr1 (Value.int .i64) (0 : Int) 2 taken1 ++ ([] : List Value))))⟩] [some (.agg (List.toArray (([] : List Value) ++ (arr1 (Value.int .i64) (0 : Int) 2 taken1 ++ ([] : List Value)))))] [4, 5, 46, 47] [pl 4 (.pointer (some ⟨g5, 0, none⟩)), pl 5 (.pointer (some ⟨g6, 0, none⟩)), pl 46 (.agg (List.toArray (([] : List Value) ++ (arr1 (Value.int .i64) (0 : Int) 2 taken1 ++ ([] : List Value))))), pl 47 (.int .i64 i1)] hF hS (by kernel_rfl) (by kernel_rfl) ?_ (fun a hF => ?_)
                  · exact obs_cons (ob_loadA (cs := (List.toArray (([] : List Value) ++ (arr1 (Value.int .i64) (0 : Int) 2 taken1 ++ ([] : List Value))))) (by kernel_rfl) (by kernel_rfl) (fun _ _ hS => (hS.at_ 4 rfl).cellsAt 0 (by rfl))) <| obs_nil
                  refine any_finI rfl (fun h => h) ?_
                  exact sh1 _ _ ⟨hF.weak [4, 5, 46, 47] (by kernel_rfl), hS⟩
          · replace hm := if_f hm hb
            refine wpIn_skip ?_
            refine then_n ?_
            exact ⟨hF.weak [1, 4, 5, 8, 9, 10, 11] (by kernel_rfl), hS, hm⟩
    · refine reg [] [] [1, 4, 5, 8, 9, 10, 11, 24] [pl 1 (.slice A2 moves1.length c2), pl 4 (.pointer (some ⟨g5, 0, none⟩)), pl 5 (.pointer (some ⟨g6, 0, none⟩)), pl 8 (.slice A5 boards1.length c5), pl 9 (.pointer (some ⟨g8, 0, none⟩)), pl 10 (.pointer (some ⟨g9, 0, none⟩)), pl 11 (.int .i64 i1), pl 24 (.bool (decide (i1 < (moves1.length : Int))))] hF hS Fol (by kernel_rfl) (by kernel_rfl) (by kernel_rfl) ?_ (fun a w hF hS => ?_)
      · exact obs_nil
      refine cond_ev (t := 24) (b := decide (i1 < (moves1.length : Int))) hF (by kernel_rfl) (fun hb => ?_) (fun hb => ?_)
      · replace hm := if_t hm hb
        refine wpIn_skip ?_
        refine then_n ?_
        exact ⟨hF.weak [1, 4, 5, 8, 9, 10, 11] (by kernel_rfl), hS, hm⟩
      · replace hm := if_f hm hb
        refine wpIn_exit ?_
        refine then_e (then_e (block_e (then_n ?_)))
        have hS : Sep w0 B w (blk g5 24 #[.int .i64 0, .int .i64 0, .slice none 0 0] :: blk g6 25 (List.toArray (([] : List Value) ++ (arr1 (Value.int .i64) (0 : Int) 2 (List.replicate 2 (0 : Int)) ++ ([] : List Value)))) :: pg1 :: els encP24 Rel24 pg1 24 3 A5 boards1.length c5 raw1 boards1 :: blk g8 25 (List.toArray (([] : List Value) ++ (arr1 (Value.int .i64) (0 : Int) 2 taken1 ++ ([] : List Value)))) :: blk g9 24 #[.int .i64 now1, .int .i64 now2, .slice A6 now3.length c6] :: fs) := hS
        have hS := hS.pickN 6 [0, 1, 4, 5, 2] (by decide)
        rw [← hφ1] at hm
        replace hm := done_b hm
        unfold gameroomref_PlayStones_K1 at hm
        try dsimp only at hm
        have hm : ((gameroomref_PlayStones_J1 moves1) taken1 now1 now2 now3).bind some = some r := hm
        exact ⟨taken1, now1, now2, now3, pg1, A6, c6, hF.weak [1, 4, 5, 9, 10] (by kernel_rfl), hS, hp1, hc2, hm⟩
end Go.Proofs.Ytjfloofoobllaaa
