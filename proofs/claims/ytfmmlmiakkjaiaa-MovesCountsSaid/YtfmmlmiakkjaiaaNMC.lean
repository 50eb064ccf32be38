/-
  Models and walks, printed by our own program (wip/gen).
-/
import Derived.Test.YtfmmlmiakkjaiaaFB
import Derived.Test.YtfmmlmiakkjaiaaLibAP
import Derived.Test.YtfmmlmiakkjaiaaLibRF
import Derived.Test.YtfmmlmiakkjaiaaSF
import Derived.Test.YtfmmlmiakkjaiaaNMCc
namespace Go.Proofs.Ytfmmlmiakkjaiaa
open Go Go.GL Go.RowKit

noncomputable def gameroomref_castleTo_m  (p1 : List Int) (p2 : Int) (p3 : Int) (p4 : Int) (p5 : Int) (p6 : Int) (n2 : Int) : Option Int :=
  asrt ((0 : Int) ≤ n2) <| if (((bAnd (shrK .i64 p3 n2) 1) == 0) || ((w64 (Int.tdiv n2 2)) != p2)) then (some (-1)) else ((gameroomref_castleTo_J1 p1 p2 n2))

set_option maxRecDepth 100000 in
set_option maxHeartbeats 4000000 in
theorem gameroomref_castleTo_w {A1 : Option Addr} {c1 : Nat} {n1 : Nat} {p1 : List Int} {p2 : Int} {p3 : Int} {p4 : Int} {p5 : Int} {p6 : Int} {n2 : Int} {r : Int} {w0 w : World} {B : Nat} {fs : List HP} (hm : gameroomref_castleTo_m p1 p2 p3 p4 p5 p6 n2 = some r) (hS : Sep w0 B w (fs)) (hr_p1 : RdF w0 B fs A1 (vI p1)) (_hc_p1 : p1.length ≤ c1) (_hn_p1 : n1 = p1.length) :
    Calls Try.prog 140 #[.agg #[.slice A1 n1 c1, .int .i64 p2, .int .i64 p3, .int .i64 p4, .int .i64 p5, .int .i64 p6], .int .i64 n2] w fun e w' => e = .returned (.int .i64 r) ∧ Sep w0 B w' (fs) := by
  obtain ⟨i3, hi3, hz3, hs3, hb3⟩ := info_parts Info3
  obtain ⟨i27, hi27, hz27, hs27, hb27⟩ := info_parts Info27
  obtain rfl := _hn_p1
  unfold gameroomref_castleTo_m at hm
  replace hm := start_b hm
  refine enter (l := [.agg #[.slice A1 p1.length c1, .int .i64 p2, .int .i64 p3, .int .i64 p4, .int .i64 p5, .int .i64 p6], .int .i64 n2]) (n := 75) Try.func140 rfl rfl (by simp) (fun a hF => ?_)
  refine seqR ?_
  refine at_do (d := 2) (s := vS (Instr.box 75 (.agg #[.slice A1 p1.length c1, .int .i64 p2, .int .i64 p3, .int .i64 p4, .int .i64 p5, .int .i64 p6]))) (v := .pointer (some ⟨w.heap.size, 0, none⟩)) (w' := w.alloc (.cells #[.slice A1 p1.length c1, .int .i64 p2, .int .i64 p3, .int .i64 p4, .int .i64 p5, .int .i64 p6] 75)) hF (by kernel_rfl) (by kernel_rfl) (by kernel_rfl) (fun a hF => ?_)
  have hS : Sep w0 B (w.alloc (.cells #[.slice A1 p1.length c1, .int .i64 p2, .int .i64 p3, .int .i64 p4, .int .i64 p5, .int .i64 p6] 75)) (blk w.heap.size 75 #[.slice A1 p1.length c1, .int .i64 p2, .int .i64 p3, .int .i64 p4, .int .i64 p5, .int .i64 p6] :: (fs)) := hS.box 75 #[.slice A1 p1.length c1, .int .i64 p2, .int .i64 p3, .int .i64 p4, .int .i64 p5, .int .i64 p6]
  generalize w.heap.size = g1 at hF hS
  generalize w.alloc (.cells #[.slice A1 p1.length c1, .int .i64 p2, .int .i64 p3, .int .i64 p4, .int .i64 p5, .int .i64 p6] 75) = w at hS ⊢
  refine at_run 1 [] [] [1, 2] [pl 1 (.int .i64 n2), pl 2 (.pointer (some ⟨g1, 0, none⟩))] hF hS (by kernel_rfl) (by kernel_rfl) ?_ (fun a w hF hS => ?_)
  · exact obs_nil
  refine at_end [1, 2] [pl 1 (.int .i64 n2), pl 2 (.pointer (some ⟨g1, 0, none⟩))] hF rfl (by kernel_rfl) (fun hF => ?_)
  refine then_n ?_
  refine seq_cut (fun a w => Fr 75 [pl 1 (.int .i64 n2), pl 2 (.pointer (some ⟨g1, 0, none⟩))] a ∧ Sep w0 B w (blk g1 75 #[.slice A1 p1.length c1, .int .i64 p2, .int .i64 p3, .int .i64 p4, .int .i64 p5, .int .i64 p6] :: fs) ∧ ((gameroomref_castleTo_J1 p1 p2 n2)).bind some = some r) ?_ ?_
  · rintro a w ⟨hF, hS, hm⟩
    unfold gameroomref_castleTo_J1 at hm
    refine seqR ?_
    obtain ⟨hp2, hm⟩ := asrt_b hm
    refine at_do (d := 23) (s := vS (Instr.buildSlice 27 4 #[(0, .int .i64 4), (1, .int .i64 4), (2, .int .i64 60), (3, .int .i64 60)])) (v := .slice (some ⟨w.heap.size, 0, none⟩) 4 4) (w' := w.alloc (.cells #[.int .i64 4, .int .i64 4, .int .i64 60, .int .i64 60] 3)) hF (by kernel_rfl) (by kernel_rfl) (by kernel_rfl) (fun a hF => ?_)
    have hS : Sep w0 B (w.alloc (.cells #[.int .i64 4, .int .i64 4, .int .i64 60, .int .i64 60] 3)) (own 3 (.slice (some (⟨w.heap.size, 0, none⟩ : Addr)) 4 4) (vI ([4, 4, 60, 60] : List Int)) :: (blk g1 75 #[.slice A1 p1.length c1, .int .i64 p2, .int .i64 p3, .int .i64 p4, .int .i64 p5, .int .i64 p6] :: fs)) := hS.lit 3 #[.int .i64 4, .int .i64 4, .int .i64 60, .int .i64 60] 4 rfl (by omega)
    generalize (some (⟨w.heap.size, 0, none⟩ : Addr)) = g2 at hF hS
    generalize w.alloc (.cells #[.int .i64 4, .int .i64 4, .int .i64 60, .int .i64 60] 3) = w at hS ⊢
    refine at_run 4 [⟨true, [], vS (Instr.indexAt 27 (.slice g2 4 4) (.int .i64 n2)), .pointer (some (sAddr g2 n2))⟩, ⟨false, [], vS (Instr.loadAt 3 (.pointer (some (sAddr g2 n2)))), .int .i64 (geti ([4, 4, 60, 60] : List Int) n2)⟩] [none, some (.pointer (some (sAddr g2 n2))), some (.int .i64 (geti ([4, 4, 60, 60] : List Int) n2)), none] [1, 2, 5] [pl 1 (.int .i64 n2), pl 2 (.pointer (some ⟨g1, 0, none⟩)), pl 5 (.int .i64 (geti ([4, 4, 60, 60] : List Int) n2))] hF hS (by kernel_rfl) (by kernel_rfl) ?_ (fun a w hF hS => ?_)
    · exact obs_cons (ob_ix1 (f := (Value.int .i64)) (m := ([4, 4, 60, 60] : List Int)) Und27 hi3 hs3 (hS.at_ 0 rfl).rd ((hS.at_ 0 rfl).len1) (fun _ => hp2)) <| obs_cons (ob_get1 (n := 4) (m := ([4, 4, 60, 60] : List Int)) (Value.int .i64) (0 : Int) Agg3 (fun _ hS => ⟨_, (hS.at_ 0 rfl).rd⟩) (fun _ hS => ((hS.at_ 0 rfl).len1)) (fun _ => hp2)) <| obs_nil
    refine at_end [1, 2, 5] [pl 1 (.int .i64 n2), pl 2 (.pointer (some ⟨g1, 0, none⟩)), pl 5 (.int .i64 (geti ([4, 4, 60, 60] : List Int) n2))] hF rfl (by kernel_rfl) (fun hF => ?_)
    refine then_n ?_
    refine seqR ?_
    obtain ⟨hp3, hm⟩ := asrt_b hm
    refine at_do (d := 27) (s := vS (Instr.buildSlice 27 2 #[(0, .int .i64 5), (1, .int .i64 6)])) (v := .slice (some ⟨w.heap.size, 0, none⟩) 2 2) (w' := w.alloc (.cells #[.int .i64 5, .int .i64 6] 3)) hF (by kernel_rfl) (by kernel_rfl) (by kernel_rfl) (fun a hF => ?_)
    have hS : Sep w0 B (w.alloc (.cells #[.int .i64 5, .int .i64 6] 3)) (own 3 (.slice (some (⟨w.heap.size, 0, none⟩ : Addr)) 2 2) (vI ([5, 6] : List Int)) :: (own 3 (.slice g2 4 4) (vI ([4, 4, 60, 60] : List Int)) :: blk g1 75 #[.slice A1 p1.length c1, .int .i64 p2, .int .i64 p3, .int .i64 p4, .int .i64 p5, .int .i64 p6] :: fs)) := hS.lit 3 #[.int .i64 5, .int .i64 6] 2 rfl (by omega)
    generalize (some (⟨w.heap.size, 0, none⟩ : Addr)) = g3 at hF hS
    generalize w.alloc (.cells #[.int .i64 5, .int .i64 6] 3) = w at hS ⊢
    refine at_do (d := 28) (s := vS (Instr.buildSlice 27 3 #[(0, .int .i64 1), (1, .int .i64 2), (2, .int .i64 3)])) (v := .slice (some ⟨w.heap.size, 0, none⟩) 3 3) (w' := w.alloc (.cells #[.int .i64 1, .int .i64 2, .int .i64 3] 3)) hF (by kernel_rfl) (by kernel_rfl) (by kernel_rfl) (fun a hF => ?_)
    have hS : Sep w0 B (w.alloc (.cells #[.int .i64 1, .int .i64 2, .int .i64 3] 3)) (own 3 (.slice (some (⟨w.heap.size, 0, none⟩ : Addr)) 3 3) (vI ([1, 2, 3] : List Int)) :: (own 3 (.slice g3 2 2) (vI ([5, 6] : List Int)) :: own 3 (.slice g2 4 4) (vI ([4, 4, 60, 60] : List Int)) :: blk g1 75 #[.slice A1 p1.length c1, .int .i64 p2, .int .i64 p3, .int .i64 p4, .int .i64 p5, .int .i64 p6] :: fs)) := hS.lit 3 #[.int .i64 1, .int .i64 2, .int .i64 3] 3 rfl (by omega)
    generalize (some (⟨w.heap.size, 0, none⟩ : Addr)) = g4 at hF hS
    generalize w.alloc (.cells #[.int .i64 1, .int .i64 2, .int .i64 3] 3) = w at hS ⊢
    refine at_do (d := 29) (s := vS (Instr.buildSlice 27 2 #[(0, .int .i64 61), (1, .int .i64 62)])) (v := .slice (some ⟨w.heap.size, 0, none⟩) 2 2) (w' := w.alloc (.cells #[.int .i64 61, .int .i64 62] 3)) hF (by kernel_rfl) (by kernel_rfl) (by kernel_rfl) (fun a hF => ?_)
    have hS : Sep w0 B (w.alloc (.cells #[.int .i64 61, .int .i64 62] 3)) (own 3 (.slice (some (⟨w.heap.size, 0, none⟩ : Addr)) 2 2) (vI ([61, 62] : List Int)) :: (own 3 (.slice g4 3 3) (vI ([1, 2, 3] : List Int)) :: own 3 (.slice g3 2 2) (vI ([5, 6] : List Int)) :: own 3 (.slice g2 4 4) (vI ([4, 4, 60, 60] : List Int)) :: blk g1 75 #[.slice A1 p1.length c1, .int .i64 p2, .int .i64 p3, .int .i64 p4, .int .i64 p5, .int .i64 p6] :: fs)) := hS.lit 3 #[.int .i64 61, .int .i64 62] 2 rfl (by omega)
    generalize (some (⟨w.heap.size, 0, none⟩ : Addr)) = g5 at hF hS
    generalize w.alloc (.cells #[.int .i64 61, .int .i64 62] 3) = w at hS ⊢
    refine at_do (d := 30) (s := vS (Instr.buildSlice 27 3 #[(0, .int .i64 57), (1, .int .i64 58), (2, .int .i64 59)])) (v := .slice (some ⟨w.heap.size, 0, none⟩) 3 3) (w' := w.alloc (.cells #[.int .i64 57, .int .i64 58, .int .i64 59] 3)) hF (by kernel_rfl) (by kernel_rfl) (by kernel_rfl) (fun a hF => ?_)
    have hS : Sep w0 B (w.alloc (.cells #[.int .i64 57, .int .i64 58, .int .i64 59] 3)) (own 3 (.slice (some (⟨w.heap.size, 0, none⟩ : Addr)) 3 3) (vI ([57, 58, 59] : List Int)) :: (own 3 (.slice g5 2 2) (vI ([61, 62] : List Int)) :: own 3 (.slice g4 3 3) (vI ([1, 2, 3] : List Int)) :: own 3 (.slice g3 2 2) (vI ([5, 6] : List Int)) :: own 3 (.slice g2 4 4) (vI ([4, 4, 60, 60] : List Int)) :: blk g1 75 #[.slice A1 p1.length c1, .int .i64 p2, .int .i64 p3, .int .i64 p4, .int .i64 p5, .int .i64 p6] :: fs)) := hS.lit 3 #[.int .i64 57, .int .i64 58, .int .i64 59] 3 rfl (by omega)
    generalize (some (⟨w.heap.size, 0, none⟩ : Addr)) = g6 at hF hS
    generalize w.alloc (.cells #[.int .i64 57, .int .i64 58, .int .i64 59] 3) = w at hS ⊢
    refine at_do (d := 31) (s := vS (Instr.buildSlice 22 4 #[(0, .slice g3 2 2), (1, .slice g4 3 3), (2, .slice g5 2 2), (3, .slice g6 3 3)])) (v := .slice (some ⟨w.heap.size, 0, none⟩) 4 4) (w' := w.alloc (.cells #[.slice g3 2 2, .slice g4 3 3, .slice g5 2 2, .slice g6 3 3] 27)) hF (by kernel_rfl) (by kernel_rfl) (by kernel_rfl) (fun a hF => ?_)
    have hS : Sep w0 B (w.alloc (.cells #[.slice g3 2 2, .slice g4 3 3, .slice g5 2 2, .slice g6 3 3] 27)) (own 27 (.slice (some (⟨w.heap.size, 0, none⟩ : Addr)) 4 4) [.slice g3 2 2, .slice g4 3 3, .slice g5 2 2, .slice g6 3 3] :: (own 3 (.slice g6 3 3) (vI ([57, 58, 59] : List Int)) :: own 3 (.slice g5 2 2) (vI ([61, 62] : List Int)) :: own 3 (.slice g4 3 3) (vI ([1, 2, 3] : List Int)) :: own 3 (.slice g3 2 2) (vI ([5, 6] : List Int)) :: own 3 (.slice g2 4 4) (vI ([4, 4, 60, 60] : List Int)) :: blk g1 75 #[.slice A1 p1.length c1, .int .i64 p2, .int .i64 p3, .int .i64 p4, .int .i64 p5, .int .i64 p6] :: fs)) := hS.lit 27 #[.slice g3 2 2, .slice g4 3 3, .slice g5 2 2, .slice g6 3 3] 4 rfl (by omega)
    generalize (some (⟨w.heap.size, 0, none⟩ : Addr)) = g7 at hF hS
    generalize w.alloc (.cells #[.slice g3 2 2, .slice g4 3 3, .slice g5 2 2, .slice g6 3 3] 27) = w at hS ⊢
    refine at_run 4 [⟨true, [], vS (Instr.indexAt 22 (.slice g7 4 4) (.int .i64 n2)), .pointer (some (sAddr g7 n2))⟩, ⟨false, [], vS (Instr.loadAt 27 (.pointer (some (sAddr g7 n2)))), .slice (hdA ([(g3, 2), (g4, 3), (g5, 2), (g6, 3)] : List Hd) n2) ((geti2 ([([5, 6] : List Int), ([1, 2, 3] : List Int), ([61, 62] : List Int), ([57, 58, 59] : List Int)] : List (List Int)) n2).length) (hdC ([(g3, 2), (g4, 3), (g5, 2), (g6, 3)] : List Hd) n2)⟩] [none, some (.pointer (some (sAddr g7 n2))), some (.slice (hdA ([(g3, 2), (g4, 3), (g5, 2), (g6, 3)] : List Hd) n2) ((geti2 ([([5, 6] : List Int), ([1, 2, 3] : List Int), ([61, 62] : List Int), ([57, 58, 59] : List Int)] : List (List Int)) n2).length) (hdC ([(g3, 2), (g4, 3), (g5, 2), (g6, 3)] : List Hd) n2)), none] [1, 2, 5, 6] [pl 1 (.int .i64 n2), pl 2 (.pointer (some ⟨g1, 0, none⟩)), pl 5 (.int .i64 (geti ([4, 4, 60, 60] : List Int) n2)), pl 6 (.slice (hdA ([(g3, 2), (g4, 3), (g5, 2), (g6, 3)] : List Hd) n2) ((geti2 ([([5, 6] : List Int), ([1, 2, 3] : List Int), ([61, 62] : List Int), ([57, 58, 59] : List Int)] : List (List Int)) n2).length) (hdC ([(g3, 2), (g4, 3), (g5, 2), (g6, 3)] : List Hd) n2))] hF hS (by kernel_rfl) (by kernel_rfl) ?_ (fun a w hF hS => ?_)
    · exact obs_cons (ob_ixRn Und22 hi27 hs27 (rdLit (hd := ([(g3, 2), (g4, 3), (g5, 2), (g6, 3)] : List Hd)) (m := ([([5, 6] : List Int), ([1, 2, 3] : List Int), ([61, 62] : List Int), ([57, 58, 59] : List Int)] : List (List Int))) hS 0 rfl ⟨⟨(hS.at_ 4 rfl).rd, ((hS.at_ 4 rfl).cap1)⟩, ⟨(hS.at_ 3 rfl).rd, ((hS.at_ 3 rfl).cap1)⟩, ⟨(hS.at_ 2 rfl).rd, ((hS.at_ 2 rfl).cap1)⟩, ⟨(hS.at_ 1 rfl).rd, ((hS.at_ 1 rfl).cap1)⟩, trivial⟩) rfl (fun _ => hp3)) <| obs_cons (ob_getR Agg27 (fun _ hS => ⟨_, (rdLit (hd := ([(g3, 2), (g4, 3), (g5, 2), (g6, 3)] : List Hd)) (m := ([([5, 6] : List Int), ([1, 2, 3] : List Int), ([61, 62] : List Int), ([57, 58, 59] : List Int)] : List (List Int))) hS 0 rfl ⟨⟨(hS.at_ 4 rfl).rd, ((hS.at_ 4 rfl).cap1)⟩, ⟨(hS.at_ 3 rfl).rd, ((hS.at_ 3 rfl).cap1)⟩, ⟨(hS.at_ 2 rfl).rd, ((hS.at_ 2 rfl).cap1)⟩, ⟨(hS.at_ 1 rfl).rd, ((hS.at_ 1 rfl).cap1)⟩, trivial⟩)⟩) (fun _ => hp3)) <| obs_nil
    refine at_end [1, 2, 5, 6] [pl 1 (.int .i64 n2), pl 2 (.pointer (some ⟨g1, 0, none⟩)), pl 5 (.int .i64 (geti ([4, 4, 60, 60] : List Int) n2)), pl 6 (.slice (hdA ([(g3, 2), (g4, 3), (g5, 2), (g6, 3)] : List Hd) n2) ((geti2 ([([5, 6] : List Int), ([1, 2, 3] : List Int), ([61, 62] : List Int), ([57, 58, 59] : List Int)] : List (List Int)) n2).length) (hdC ([(g3, 2), (g4, 3), (g5, 2), (g6, 3)] : List Hd) n2))] hF rfl (by kernel_rfl) (fun hF => ?_)
    refine then_n ?_
    refine seq_cut (fun a w => Fr 75 [pl 1 (.int .i64 n2), pl 2 (.pointer (some ⟨g1, 0, none⟩)), pl 5 (.int .i64 (geti ([4, 4, 60, 60] : List Int) n2))] a ∧ Sep w0 B w (blk g1 75 #[.slice A1 p1.length c1, .int .i64 p2, .int .i64 p3, .int .i64 p4, .int .i64 p5, .int .i64 p6] :: fs) ∧ ((gameroomref_castleTo_J2 p1 p2 n2)).bind some = some r) ?_ ?_
    · rintro a w ⟨hF, hS, hm⟩
      unfold gameroomref_castleTo_J2 at hm
      refine seqR ?_
      obtain ⟨hp6, hm⟩ := asrt_b hm
      refine at_do (d := 50) (s := vS (Instr.buildSlice 27 4 #[(0, .int .i64 1), (1, .int .i64 (-1)), (2, .int .i64 1), (3, .int .i64 (-1))])) (v := .slice (some ⟨w.heap.size, 0, none⟩) 4 4) (w' := w.alloc (.cells #[.int .i64 1, .int .i64 (-1), .int .i64 1, .int .i64 (-1)] 3)) hF (by kernel_rfl) (by kernel_rfl) (by kernel_rfl) (fun a hF => ?_)
      have hS : Sep w0 B (w.alloc (.cells #[.int .i64 1, .int .i64 (-1), .int .i64 1, .int .i64 (-1)] 3)) (own 3 (.slice (some (⟨w.heap.size, 0, none⟩ : Addr)) 4 4) (vI ([1, (-1), 1, (-1)] : List Int)) :: (blk g1 75 #[.slice A1 p1.length c1, .int .i64 p2, .int .i64 p3, .int .i64 p4, .int .i64 p5, .int .i64 p6] :: fs)) := hS.lit 3 #[.int .i64 1, .int .i64 (-1), .int .i64 1, .int .i64 (-1)] 4 rfl (by omega)
      generalize (some (⟨w.heap.size, 0, none⟩ : Addr)) = g8 at hF hS
      generalize w.alloc (.cells #[.int .i64 1, .int .i64 (-1), .int .i64 1, .int .i64 (-1)] 3) = w at hS ⊢
      refine at_run 4 [⟨true, [], vS (Instr.indexAt 27 (.slice g8 4 4) (.int .i64 n2)), .pointer (some (sAddr g8 n2))⟩, ⟨false, [], vS (Instr.loadAt 3 (.pointer (some (sAddr g8 n2)))), .int .i64 (geti ([1, (-1), 1, (-1)] : List Int) n2)⟩] [none, some (.pointer (some (sAddr g8 n2))), some (.int .i64 (geti ([1, (-1), 1, (-1)] : List Int) n2)), none] [2, 5, 8] [pl 2 (.pointer (some ⟨g1, 0, none⟩)), pl 5 (.int .i64 (geti ([4, 4, 60, 60] : List Int) n2)), pl 8 (.int .i64 (geti ([1, (-1), 1, (-1)] : List Int) n2))] hF hS (by kernel_rfl) (by kernel_rfl) ?_ (fun a w hF hS => ?_)
      · exact obs_cons (ob_ix1 (f := (Value.int .i64)) (m := ([1, (-1), 1, (-1)] : List Int)) Und27 hi3 hs3 (hS.at_ 0 rfl).rd ((hS.at_ 0 rfl).len1) (fun _ => hp6)) <| obs_cons (ob_get1 (n := 4) (m := ([1, (-1), 1, (-1)] : List Int)) (Value.int .i64) (0 : Int) Agg3 (fun _ hS => ⟨_, (hS.at_ 0 rfl).rd⟩) (fun _ hS => ((hS.at_ 0 rfl).len1)) (fun _ => hp6)) <| obs_nil
      refine at_end [2, 5, 8] [pl 2 (.pointer (some ⟨g1, 0, none⟩)), pl 5 (.int .i64 (geti ([4, 4, 60, 60] : List Int) n2)), pl 8 (.int .i64 (geti ([1, (-1), 1, (-1)] : List Int) n2))] hF rfl (by kernel_rfl) (fun hF => ?_)
      refine then_n ?_
      refine seq_cut (fun a w => Fr 75 [pl 5 (.int .i64 (geti ([4, 4, 60, 60] : List Int) n2)), pl 8 (.int .i64 (geti ([1, (-1), 1, (-1)] : List Int) n2))] a ∧ Sep w0 B w (fs) ∧ ((gameroomref_castleTo_J5 n2)).bind some = some r) ?_ ?_
      · rintro a w ⟨hF, hS, hm⟩
        unfold gameroomref_castleTo_J5 at hm
        refine reg [] [] [4] [pl 4 (.int .i64 (w64 ((geti ([4, 4, 60, 60] : List Int) n2) + (w64 (2 * (geti ([1, (-1), 1, (-1)] : List Int) n2))))))] hF hS Fol (by kernel_rfl) (by kernel_rfl) (by kernel_rfl) ?_ (fun a w hF hS => ?_)
        · exact obs_nil
        refine wpIn_ret ?_
        have hm : some (w64 ((geti ([4, 4, 60, 60] : List Int) n2) + (w64 (2 * (geti ([1, (-1), 1, (-1)] : List Int) n2))))) = some r := hm
        obtain rfl := Option.some.inj hm
        exact retV (rs := [.tmp 4]) (vs := [.int .i64 (w64 ((geti ([4, 4, 60, 60] : List Int) n2) + (w64 (2 * (geti ([1, (-1), 1, (-1)] : List Int) n2)))))]) hF rfl (rv_t (by kernel_rfl) <| rv_nil) rfl ⟨rfl, hS⟩
      · refine reg [] [] [2, 5, 8, 9] [pl 2 (.pointer (some ⟨g1, 0, none⟩)), pl 5 (.int .i64 (geti ([4, 4, 60, 60] : List Int) n2)), pl 8 (.int .i64 (geti ([1, (-1), 1, (-1)] : List Int) n2)), pl 9 (.int .i64 0)] hF hS Fol (by kernel_rfl) (by kernel_rfl) (by kernel_rfl) ?_ (fun a w hF hS => ?_)
        · exact obs_nil
        refine wpIn_block ?_
        have hS := hS.pickN 2 [1] (by decide)
        refine wp_loop_model (S := Int) (R := (Fl Unit Int)) (gameroomref_castleTo_L2 p1 p2 n2) (fun x => ((gameroomref_castleTo_K2 n2) x).bind some) r (fun (x : Int) a w => Fr 75 [pl 2 (.pointer (some ⟨g1, 0, none⟩)), pl 5 (.int .i64 (geti ([4, 4, 60, 60] : List Int) n2)), pl 8 (.int .i64 (geti ([1, (-1), 1, (-1)] : List Int) n2)), pl 9 (.int .i64 x)] a ∧ Sep w0 B w (blk g1 75 #[.slice A1 p1.length c1, .int .i64 p2, .int .i64 p3, .int .i64 p4, .int .i64 p5, .int .i64 p6] :: fs)) (assoc_b hm) ⟨hF.weak [2, 5, 8, 9] (by kernel_rfl), hS⟩ ?_
        clear hF hS hm
        rintro nn2 k1 a w ⟨hF, hS⟩ hm
        generalize hφ2 : stK (gameroomref_castleTo_L2 p1 p2 n2) nn2 (fun x => ((gameroomref_castleTo_K2 n2) x).bind some) = φ2 at hm
        unfold gameroomref_castleTo_L2 at hm
        dsimp only at hm
        refine seq_cut (fun a w => Fr 75 [pl 2 (.pointer (some ⟨g1, 0, none⟩)), pl 5 (.int .i64 (geti ([4, 4, 60, 60] : List Int) n2)), pl 8 (.int .i64 (geti ([1, (-1), 1, (-1)] : List Int) n2)), pl 9 (.int .i64 k1)] a ∧ Sep w0 B w (blk g1 75 #[.slice A1 p1.length c1, .int .i64 p2, .int .i64 p3, .int .i64 p4, .int .i64 p5, .int .i64 p6] :: fs) ∧ ((gameroomref_castleTo_J6 p1 p2 n2 k1)).bind φ2 = some r) ?_ ?_
        · rintro a w ⟨hF, hS, hm⟩
          unfold gameroomref_castleTo_J6 at hm
          refine seq_cut (fun a w => Fr 75 [pl 2 (.pointer (some ⟨g1, 0, none⟩)), pl 5 (.int .i64 (geti ([4, 4, 60, 60] : List Int) n2)), pl 8 (.int .i64 (geti ([1, (-1), 1, (-1)] : List Int) n2)), pl 9 (.int .i64 k1)] a ∧ Sep w0 B w (blk g1 75 #[.slice A1 p1.length c1, .int .i64 p2, .int .i64 p3, .int .i64 p4, .int .i64 p5, .int .i64 p6] :: fs) ∧ ((gameroomref_castleTo_J7 k1)).bind φ2 = some r) ?_ ?_
          · rintro a w ⟨hF, hS, hm⟩
            unfold gameroomref_castleTo_J7 at hm
            refine reg1 [] [] [2, 5, 8, 9] [pl 2 (.pointer (some ⟨g1, 0, none⟩)), pl 5 (.int .i64 (geti ([4, 4, 60, 60] : List Int) n2)), pl 8 (.int .i64 (geti ([1, (-1), 1, (-1)] : List Int) n2)), pl 9 (.int .i64 (w64 (k1 + 1)))] hF hS Fol (by kernel_rfl) (by kernel_rfl) (by kernel_rfl) ?_ (fun a w hF hS => ?_)
            · exact obs_nil
            refine then_n ?_
            rw [← hφ2] at hm
            exact ⟨(w64 (k1 + 1)), ⟨hF.weak [2, 5, 8, 9] (by kernel_rfl), hS⟩, hm⟩
          · refine wpIn_block ?_
            refine seqR ?_
            obtain ⟨r1, hr1, hm⟩ := call_b hm
            refine at_run 10 [⟨false, [], vS (Instr.loadAt 27 (.pointer (some ⟨g1, 0, none⟩))), .slice A1 p1.length c1⟩, ⟨false, [], vS (Instr.loadAt 3 (.pointer (some ⟨g1, 1, none⟩))), .int .i64 p2⟩] [none, some (.slice A1 p1.length c1), none, none, none, none, none, none, some (.int .i64 p2), none] [2, 5, 8, 9, 59, 64, 67] [pl 2 (.pointer (some ⟨g1, 0, none⟩)), pl 5 (.int .i64 (geti ([4, 4, 60, 60] : List Int) n2)), pl 8 (.int .i64 (geti ([1, (-1), 1, (-1)] : List Int) n2)), pl 9 (.int .i64 k1), pl 59 (.slice A1 p1.length c1), pl 64 (.int .i64 (w64 ((geti ([4, 4, 60, 60] : List Int) n2) + (w64 (k1 * (geti ([1, (-1), 1, (-1)] : List Int) n2)))))), pl 67 (.int .i64 (w64 (1 - p2)))] hF hS (by kernel_rfl) (by kernel_rfl) ?_ (fun a w hF hS => ?_)
            · exact obs_cons (ob_load Agg27 (fun _ _ hS => (hS.at_ 0 rfl).cell rfl)) <| obs_cons (ob_load Agg3 (fun _ _ hS => (hS.at_ 0 rfl).cell rfl)) <| obs_nil
            refine at_call (f := 146) (args := #[.slice A1 p1.length c1, .int .i64 (w64 ((geti ([4, 4, 60, 60] : List Int) n2) + (w64 (k1 * (geti ([1, (-1), 1, (-1)] : List Int) n2))))), .int .i64 (w64 (1 - p2))]) (d := 68) hF (by kernel_rfl) (by kernel_rfl) Try.func146 (by kernel_rfl) rfl (gameroomref_AttackersOf_w hr1 hS (fun _ hS => (hr_p1 _ (hS.dropN 1))) _hc_p1 rfl) (fun v a w hR hF => ?_)
            clear hS
            obtain ⟨A2, c2, rfl, hS⟩ := hR
            have hS : Sep w0 B w (own 3 (.slice A2 r1.length c2) (vI r1) :: blk g1 75 #[.slice A1 p1.length c1, .int .i64 p2, .int .i64 p3, .int .i64 p4, .int .i64 p5, .int .i64 p6] :: fs) := hS
            refine at_run 2 [] [] [2, 5, 8, 9, 70] [pl 2 (.pointer (some ⟨g1, 0, none⟩)), pl 5 (.int .i64 (geti ([4, 4, 60, 60] : List Int) n2)), pl 8 (.int .i64 (geti ([1, (-1), 1, (-1)] : List Int) n2)), pl 9 (.int .i64 k1), pl 70 (.bool (decide ((0 : Int) < (r1.length : Int))))] hF hS (by kernel_rfl) (by kernel_rfl) ?_ (fun a w hF hS => ?_)
            · exact obs_nil
            refine at_end [2, 5, 8, 9, 70] [pl 2 (.pointer (some ⟨g1, 0, none⟩)), pl 5 (.int .i64 (geti ([4, 4, 60, 60] : List Int) n2)), pl 8 (.int .i64 (geti ([1, (-1), 1, (-1)] : List Int) n2)), pl 9 (.int .i64 k1), pl 70 (.bool (decide ((0 : Int) < (r1.length : Int))))] hF rfl (by kernel_rfl) (fun hF => ?_)
            refine then_n ?_
            refine cond_ev (t := 70) (b := decide ((0 : Int) < (r1.length : Int))) hF (by kernel_rfl) (fun hb => ?_) (fun hb => ?_)
            · replace hm := if_t hm hb
              refine reg [] [] [4] [pl 4 (.int .i64 (-1))] hF hS Fol (by kernel_rfl) (by kernel_rfl) (by kernel_rfl) ?_ (fun a w hF hS => ?_)
              · exact obs_nil
              refine wpIn_ret ?_
              refine block_r (then_r (then_r (block_r (then_r ?_))))
              rw [← hφ2] at hm
              replace hm := done_b hm
              unfold gameroomref_castleTo_K2 at hm
              try dsimp only at hm
              have hS := hS.pickN 2 [] (by decide)
              have hm : some (-1) = some r := hm
              obtain rfl := Option.some.inj hm
              exact retV (rs := [.tmp 4]) (vs := [.int .i64 (-1)]) hF rfl (rv_t (by kernel_rfl) <| rv_nil) rfl ⟨rfl, hS⟩
            · replace hm := if_f hm hb
              refine wpIn_skip ?_
              refine block_n ?_
              refine then_n ?_
              have hS := hS.pickN 2 [1] (by decide)
              exact ⟨hF.weak [2, 5, 8, 9] (by kernel_rfl), hS, hm⟩
        · refine reg [] [] [2, 5, 8, 9, 55] [pl 2 (.pointer (some ⟨g1, 0, none⟩)), pl 5 (.int .i64 (geti ([4, 4, 60, 60] : List Int) n2)), pl 8 (.int .i64 (geti ([1, (-1), 1, (-1)] : List Int) n2)), pl 9 (.int .i64 k1), pl 55 (.bool (decide (k1 ≤ 2)))] hF hS Fol (by kernel_rfl) (by kernel_rfl) (by kernel_rfl) ?_ (fun a w hF hS => ?_)
          · exact obs_nil
          refine cond_ev (t := 55) (b := decide (k1 ≤ 2)) hF (by kernel_rfl) (fun hb => ?_) (fun hb => ?_)
          · replace hm := if_t hm hb
            refine wpIn_skip ?_
            refine then_n ?_
            exact ⟨hF.weak [2, 5, 8, 9] (by kernel_rfl), hS, hm⟩
          · replace hm := if_f hm hb
            refine wpIn_exit ?_
            refine then_e (then_e (block_e (then_n ?_)))
            have hS := hS.pickN 1 [] (by decide)
            rw [← hφ2] at hm
            replace hm := done_b hm
            unfold gameroomref_castleTo_K2 at hm
            try dsimp only at hm
            have hm : ((gameroomref_castleTo_J5 n2)).bind some = some r := hm
            exact ⟨hF.weak [5, 8] (by kernel_rfl), hS, hm⟩
    · refine reg [] [] [1, 2, 5, 6, 7] [pl 1 (.int .i64 n2), pl 2 (.pointer (some ⟨g1, 0, none⟩)), pl 5 (.int .i64 (geti ([4, 4, 60, 60] : List Int) n2)), pl 6 (.slice (hdA ([(g3, 2), (g4, 3), (g5, 2), (g6, 3)] : List Hd) n2) ((geti2 ([([5, 6] : List Int), ([1, 2, 3] : List Int), ([61, 62] : List Int), ([57, 58, 59] : List Int)] : List (List Int)) n2).length) (hdC ([(g3, 2), (g4, 3), (g5, 2), (g6, 3)] : List Hd) n2)), pl 7 (.int .i64 0)] hF hS Fol (by kernel_rfl) (by kernel_rfl) (by kernel_rfl) ?_ (fun a w hF hS => ?_)
      · exact obs_nil
      refine wpIn_block ?_
      have hS := hS.pickN 7 [6, 0, 4, 3, 2, 1] (by decide)
      refine wp_loop_model (S := Int) (R := (Fl Unit Int)) (gameroomref_castleTo_L1 p1 n2) (fun x => ((gameroomref_castleTo_K1 p1 p2 n2) x).bind some) r (fun (x : Int) a w => Fr 75 [pl 1 (.int .i64 n2), pl 2 (.pointer (some ⟨g1, 0, none⟩)), pl 5 (.int .i64 (geti ([4, 4, 60, 60] : List Int) n2)), pl 6 (.slice (hdA ([(g3, 2), (g4, 3), (g5, 2), (g6, 3)] : List Hd) n2) ((geti2 ([([5, 6] : List Int), ([1, 2, 3] : List Int), ([61, 62] : List Int), ([57, 58, 59] : List Int)] : List (List Int)) n2).length) (hdC ([(g3, 2), (g4, 3), (g5, 2), (g6, 3)] : List Hd) n2)), pl 7 (.int .i64 x)] a ∧ Sep w0 B w (blk g1 75 #[.slice A1 p1.length c1, .int .i64 p2, .int .i64 p3, .int .i64 p4, .int .i64 p5, .int .i64 p6] :: own 27 (.slice g7 4 4) [.slice g3 2 2, .slice g4 3 3, .slice g5 2 2, .slice g6 3 3] :: own 3 (.slice g3 2 2) (vI ([5, 6] : List Int)) :: own 3 (.slice g4 3 3) (vI ([1, 2, 3] : List Int)) :: own 3 (.slice g5 2 2) (vI ([61, 62] : List Int)) :: own 3 (.slice g6 3 3) (vI ([57, 58, 59] : List Int)) :: fs)) (assoc_b hm) ⟨hF.weak [1, 2, 5, 6, 7] (by kernel_rfl), hS⟩ ?_
      clear hF hS hm
      rintro nn1 i1 a w ⟨hF, hS⟩ hm
      generalize hφ1 : stK (gameroomref_castleTo_L1 p1 n2) nn1 (fun x => ((gameroomref_castleTo_K1 p1 p2 n2) x).bind some) = φ1 at hm
      unfold gameroomref_castleTo_L1 at hm
      dsimp only at hm
      refine seq_cut (fun a w => Fr 75 [pl 1 (.int .i64 n2), pl 2 (.pointer (some ⟨g1, 0, none⟩)), pl 5 (.int .i64 (geti ([4, 4, 60, 60] : List Int) n2)), pl 6 (.slice (hdA ([(g3, 2), (g4, 3), (g5, 2), (g6, 3)] : List Hd) n2) ((geti2 ([([5, 6] : List Int), ([1, 2, 3] : List Int), ([61, 62] : List Int), ([57, 58, 59] : List Int)] : List (List Int)) n2).length) (hdC ([(g3, 2), (g4, 3), (g5, 2), (g6, 3)] : List Hd) n2)), pl 7 (.int .i64 i1)] a ∧ Sep w0 B w (blk g1 75 #[.slice A1 p1.length c1, .int .i64 p2, .int .i64 p3, .int .i64 p4, .int .i64 p5, .int .i64 p6] :: own 27 (.slice g7 4 4) [.slice g3 2 2, .slice g4 3 3, .slice g5 2 2, .slice g6 3 3] :: own 3 (.slice g3 2 2) (vI ([5, 6] : List Int)) :: own 3 (.slice g4 3 3) (vI ([1, 2, 3] : List Int)) :: own 3 (.slice g5 2 2) (vI ([61, 62] : List Int)) :: own 3 (.slice g6 3 3) (vI ([57, 58, 59] : List Int)) :: fs) ∧ ((gameroomref_castleTo_J3 p1 n2 i1)).bind φ1 = some r) ?_ ?_
      · rintro a w ⟨hF, hS, hm⟩
        unfold gameroomref_castleTo_J3 at hm
        refine seq_cut (fun a w => Fr 75 [pl 1 (.int .i64 n2), pl 2 (.pointer (some ⟨g1, 0, none⟩)), pl 5 (.int .i64 (geti ([4, 4, 60, 60] : List Int) n2)), pl 6 (.slice (hdA ([(g3, 2), (g4, 3), (g5, 2), (g6, 3)] : List Hd) n2) ((geti2 ([([5, 6] : List Int), ([1, 2, 3] : List Int), ([61, 62] : List Int), ([57, 58, 59] : List Int)] : List (List Int)) n2).length) (hdC ([(g3, 2), (g4, 3), (g5, 2), (g6, 3)] : List Hd) n2)), pl 7 (.int .i64 i1)] a ∧ Sep w0 B w (blk g1 75 #[.slice A1 p1.length c1, .int .i64 p2, .int .i64 p3, .int .i64 p4, .int .i64 p5, .int .i64 p6] :: own 27 (.slice g7 4 4) [.slice g3 2 2, .slice g4 3 3, .slice g5 2 2, .slice g6 3 3] :: own 3 (.slice g3 2 2) (vI ([5, 6] : List Int)) :: own 3 (.slice g4 3 3) (vI ([1, 2, 3] : List Int)) :: own 3 (.slice g5 2 2) (vI ([61, 62] : List Int)) :: own 3 (.slice g6 3 3) (vI ([57, 58, 59] : List Int)) :: fs) ∧ ((gameroomref_castleTo_J4 i1)).bind φ1 = some r) ?_ ?_
        · rintro a w ⟨hF, hS, hm⟩
          unfold gameroomref_castleTo_J4 at hm
          refine reg1 [] [] [1, 2, 5, 6, 7] [pl 1 (.int .i64 n2), pl 2 (.pointer (some ⟨g1, 0, none⟩)), pl 5 (.int .i64 (geti ([4, 4, 60, 60] : List Int) n2)), pl 6 (.slice (hdA ([(g3, 2), (g4, 3), (g5, 2), (g6, 3)] : List Hd) n2) ((geti2 ([([5, 6] : List Int), ([1, 2, 3] : List Int), ([61, 62] : List Int), ([57, 58, 59] : List Int)] : List (List Int)) n2).length) (hdC ([(g3, 2), (g4, 3), (g5, 2), (g6, 3)] : List Hd) n2)), pl 7 (.int .i64 (w64 (i1 + 1)))] hF hS Fol (by kernel_rfl) (by kernel_rfl) (by kernel_rfl) ?_ (fun a w hF hS => ?_)
          · exact obs_nil
          refine then_n ?_
          rw [← hφ1] at hm
          exact ⟨(w64 (i1 + 1)), ⟨hF.weak [1, 2, 5, 6, 7] (by kernel_rfl), hS⟩, hm⟩
        · refine wpIn_block ?_
          obtain ⟨hp4, hm⟩ := asrt_b hm
          obtain ⟨hp5, hm⟩ := asrt_b hm
          refine reg [⟨false, [], vS (Instr.loadAt 27 (.pointer (some ⟨g1, 0, none⟩))), .slice A1 p1.length c1⟩, ⟨true, [], vS (Instr.indexAt 27 (.slice (hdA ([(g3, 2), (g4, 3), (g5, 2), (g6, 3)] : List Hd) n2) ((geti2 ([([5, 6] : List Int), ([1, 2, 3] : List Int), ([61, 62] : List Int), ([57, 58, 59] : List Int)] : List (List Int)) n2).length) (hdC ([(g3, 2), (g4, 3), (g5, 2), (g6, 3)] : List Hd) n2)) (.int .i64 i1)), .pointer (some (sAddr (hdA ([(g3, 2), (g4, 3), (g5, 2), (g6, 3)] : List Hd) n2) i1))⟩, ⟨false, [], vS (Instr.loadAt 3 (.pointer (some (sAddr (hdA ([(g3, 2), (g4, 3), (g5, 2), (g6, 3)] : List Hd) n2) i1)))), .int .i64 (geti (geti2 ([([5, 6] : List Int), ([1, 2, 3] : List Int), ([61, 62] : List Int), ([57, 58, 59] : List Int)] : List (List Int)) n2) i1)⟩, ⟨true, [], vS (Instr.indexAt 27 (.slice A1 p1.length c1) (.int .i64 (geti (geti2 ([([5, 6] : List Int), ([1, 2, 3] : List Int), ([61, 62] : List Int), ([57, 58, 59] : List Int)] : List (List Int)) n2) i1))), .pointer (some (sAddr A1 (geti (geti2 ([([5, 6] : List Int), ([1, 2, 3] : List Int), ([61, 62] : List Int), ([57, 58, 59] : List Int)] : List (List Int)) n2) i1)))⟩, ⟨false, [], vS (Instr.loadAt 3 (.pointer (some (sAddr A1 (geti (geti2 ([([5, 6] : List Int), ([1, 2, 3] : List Int), ([61, 62] : List Int), ([57, 58, 59] : List Int)] : List (List Int)) n2) i1))))), .int .i64 (geti p1 (geti (geti2 ([([5, 6] : List Int), ([1, 2, 3] : List Int), ([61, 62] : List Int), ([57, 58, 59] : List Int)] : List (List Int)) n2) i1))⟩] [none, some (.slice A1 p1.length c1), none, none, some (.pointer (some (sAddr (hdA ([(g3, 2), (g4, 3), (g5, 2), (g6, 3)] : List Hd) n2) i1))), some (.int .i64 (geti (geti2 ([([5, 6] : List Int), ([1, 2, 3] : List Int), ([61, 62] : List Int), ([57, 58, 59] : List Int)] : List (List Int)) n2) i1)), some (.pointer (some (sAddr A1 (geti (geti2 ([([5, 6] : List Int), ([1, 2, 3] : List Int), ([61, 62] : List Int), ([57, 58, 59] : List Int)] : List (List Int)) n2) i1)))), some (.int .i64 (geti p1 (geti (geti2 ([([5, 6] : List Int), ([1, 2, 3] : List Int), ([61, 62] : List Int), ([57, 58, 59] : List Int)] : List (List Int)) n2) i1))), none] [1, 2, 5, 6, 7, 49] [pl 1 (.int .i64 n2), pl 2 (.pointer (some ⟨g1, 0, none⟩)), pl 5 (.int .i64 (geti ([4, 4, 60, 60] : List Int) n2)), pl 6 (.slice (hdA ([(g3, 2), (g4, 3), (g5, 2), (g6, 3)] : List Hd) n2) ((geti2 ([([5, 6] : List Int), ([1, 2, 3] : List Int), ([61, 62] : List Int), ([57, 58, 59] : List Int)] : List (List Int)) n2).length) (hdC ([(g3, 2), (g4, 3), (g5, 2), (g6, 3)] : List Hd) n2)), pl 7 (.int .i64 i1), pl 49 (.bool ((geti p1 (geti (geti2 ([([5, 6] : List Int), ([1, 2, 3] : List Int), ([61, 62] : List Int), ([57, 58, 59] : List Int)] : List (List Int)) n2) i1)) != 0))] hF hS Fol (by kernel_rfl) (by kernel_rfl) (by kernel_rfl) ?_ (fun a w hF hS => ?_)
          · exact obs_cons (ob_load Agg27 (fun _ _ hS => (hS.at_ 0 rfl).cell rfl)) <| obs_cons (ob_ix1 (f := (Value.int .i64)) (m := (geti2 ([([5, 6] : List Int), ([1, 2, 3] : List Int), ([61, 62] : List Int), ([57, 58, 59] : List Int)] : List (List Int)) n2)) Und27 hi3 hs3 ((rdLit (hd := ([(g3, 2), (g4, 3), (g5, 2), (g6, 3)] : List Hd)) (m := ([([5, 6] : List Int), ([1, 2, 3] : List Int), ([61, 62] : List Int), ([57, 58, 59] : List Int)] : List (List Int))) hS 1 rfl ⟨⟨(hS.at_ 2 rfl).rd, ((hS.at_ 2 rfl).cap1)⟩, ⟨(hS.at_ 3 rfl).rd, ((hS.at_ 3 rfl).cap1)⟩, ⟨(hS.at_ 4 rfl).rd, ((hS.at_ 4 rfl).cap1)⟩, ⟨(hS.at_ 5 rfl).rd, ((hS.at_ 5 rfl).cap1)⟩, trivial⟩).row _ hp3).1 rfl (fun _ => hp4)) <| obs_cons (ob_get1 (n := (geti2 ([([5, 6] : List Int), ([1, 2, 3] : List Int), ([61, 62] : List Int), ([57, 58, 59] : List Int)] : List (List Int)) n2).length) (m := (geti2 ([([5, 6] : List Int), ([1, 2, 3] : List Int), ([61, 62] : List Int), ([57, 58, 59] : List Int)] : List (List Int)) n2)) (Value.int .i64) (0 : Int) Agg3 (fun _ hS => ⟨_, ((rdLit (hd := ([(g3, 2), (g4, 3), (g5, 2), (g6, 3)] : List Hd)) (m := ([([5, 6] : List Int), ([1, 2, 3] : List Int), ([61, 62] : List Int), ([57, 58, 59] : List Int)] : List (List Int))) hS 1 rfl ⟨⟨(hS.at_ 2 rfl).rd, ((hS.at_ 2 rfl).cap1)⟩, ⟨(hS.at_ 3 rfl).rd, ((hS.at_ 3 rfl).cap1)⟩, ⟨(hS.at_ 4 rfl).rd, ((hS.at_ 4 rfl).cap1)⟩, ⟨(hS.at_ 5 rfl).rd, ((hS.at_ 5 rfl).cap1)⟩, trivial⟩).row _ hp3).1⟩) (fun _ hS => rfl) (fun _ => hp4)) <| obs_cons (ob_ix1 (f := (Value.int .i64)) (m := p1) Und27 hi3 hs3 (hr_p1 _ (hS.dropN 6)) rfl (fun _ => hp5)) <| obs_cons (ob_get1 (n := p1.length) (m := p1) (Value.int .i64) (0 : Int) Agg3 (fun _ hS => ⟨_, (hr_p1 _ (hS.dropN 6))⟩) (fun _ hS => rfl) (fun _ => hp5)) <| obs_nil
          refine cond_ev (t := 49) (b := ((geti p1 (geti (geti2 ([([5, 6] : List Int), ([1, 2, 3] : List Int), ([61, 62] : List Int), ([57, 58, 59] : List Int)] : List (List Int)) n2) i1)) != 0)) hF (by kernel_rfl) (fun hb => ?_) (fun hb => ?_)
          · replace hm := if_t hm hb
            refine reg [] [] [4] [pl 4 (.int .i64 (-1))] hF hS Fol (by kernel_rfl) (by kernel_rfl) (by kernel_rfl) ?_ (fun a w hF hS => ?_)
            · exact obs_nil
            refine wpIn_ret ?_
            refine block_r (then_r (then_r (block_r (then_r ?_))))
            rw [← hφ1] at hm
            replace hm := done_b hm
            unfold gameroomref_castleTo_K1 at hm
            try dsimp only at hm
            have hS := hS.pickN 6 [] (by decide)
            have hm : some (-1) = some r := hm
            obtain rfl := Option.some.inj hm
            exact retV (rs := [.tmp 4]) (vs := [.int .i64 (-1)]) hF rfl (rv_t (by kernel_rfl) <| rv_nil) rfl ⟨rfl, hS⟩
          · replace hm := if_f hm hb
            refine wpIn_skip ?_
            refine block_n ?_
            refine then_n ?_
            exact ⟨hF.weak [1, 2, 5, 6, 7] (by kernel_rfl), hS, hm⟩
      · refine reg [] [] [1, 2, 5, 6, 7, 38] [pl 1 (.int .i64 n2), pl 2 (.pointer (some ⟨g1, 0, none⟩)), pl 5 (.int .i64 (geti ([4, 4, 60, 60] : List Int) n2)), pl 6 (.slice (hdA ([(g3, 2), (g4, 3), (g5, 2), (g6, 3)] : List Hd) n2) ((geti2 ([([5, 6] : List Int), ([1, 2, 3] : List Int), ([61, 62] : List Int), ([57, 58, 59] : List Int)] : List (List Int)) n2).length) (hdC ([(g3, 2), (g4, 3), (g5, 2), (g6, 3)] : List Hd) n2)), pl 7 (.int .i64 i1), pl 38 (.bool (decide (i1 < (((geti2 ([([5, 6] : List Int), ([1, 2, 3] : List Int), ([61, 62] : List Int), ([57, 58, 59] : List Int)] : List (List Int)) n2).length : Nat) : Int))))] hF hS Fol (by kernel_rfl) (by kernel_rfl) (by kernel_rfl) ?_ (fun a w hF hS => ?_)
        · exact obs_nil
        refine cond_ev (t := 38) (b := decide (i1 < (((geti2 ([([5, 6] : List Int), ([1, 2, 3] : List Int), ([61, 62] : List Int), ([57, 58, 59] : List Int)] : List (List Int)) n2).length : Nat) : Int))) hF (by kernel_rfl) (fun hb => ?_) (fun hb => ?_)
        · replace hm := if_t hm hb
          refine wpIn_skip ?_
          refine then_n ?_
          exact ⟨hF.weak [1, 2, 5, 6, 7] (by kernel_rfl), hS, hm⟩
        · replace hm := if_f hm hb
          refine wpIn_exit ?_
          refine then_e (then_e (block_e (then_n ?_)))
          have hS := hS.pickN 6 [0] (by decide)
          rw [← hφ1] at hm
          replace hm := done_b hm
          unfold gameroomref_castleTo_K1 at hm
          try dsimp only at hm
          have hm : ((gameroomref_castleTo_J2 p1 p2 n2)).bind some = some r := hm
          exact ⟨hF.weak [1, 2, 5] (by kernel_rfl), hS, hm⟩
  · obtain ⟨hp1, hm⟩ := asrt_b hm
    refine reg [⟨false, [], vS (Instr.loadAt 3 (.pointer (some ⟨g1, 2, none⟩))), .int .i64 p3⟩, ⟨true, [], vS (Op.shift .shr .i64 p3 .i64 n2), .int .i64 (shrK .i64 p3 n2)⟩, ⟨false, [(((bAnd (shrK .i64 p3 n2) 1) == 0), false)], vS (Instr.loadAt 3 (.pointer (some ⟨g1, 1, none⟩))), .int .i64 p2⟩] [none, some (.int .i64 p3), none, some (.int .i64 (shrK .i64 p3 n2)), none, none, none, none, none, none, some (.int .i64 p2), none, none] [1, 2, 22] [pl 1 (.int .i64 n2), pl 2 (.pointer (some ⟨g1, 0, none⟩)), pl 22 (.bool (((bAnd (shrK .i64 p3 n2) 1) == 0) || ((w64 (Int.tdiv n2 2)) != p2)))] hF hS Fol (by kernel_rfl) (by kernel_rfl) (by kernel_rfl) ?_ (fun a w hF hS => ?_)
    · exact obs_cons (ob_load Agg3 (fun _ _ hS => (hS.at_ 0 rfl).cell rfl)) <| obs_cons (ob_shr (fun _ => hp1)) <| obs_cons (ob_load Agg3 (fun _ _ hS => (hS.at_ 0 rfl).cell rfl)) <| obs_nil
    refine cond_ev (t := 22) (b := ((bAnd (shrK .i64 p3 n2) 1) == 0) || ((w64 (Int.tdiv n2 2)) != p2)) hF (by kernel_rfl) (fun hb => ?_) (fun hb => ?_)
    · replace hm := if_t hm hb
      refine reg [] [] [4] [pl 4 (.int .i64 (-1))] hF hS Fol (by kernel_rfl) (by kernel_rfl) (by kernel_rfl) ?_ (fun a w hF hS => ?_)
      · exact obs_nil
      refine wpIn_ret ?_
      refine then_r ?_
      have hS := hS.pickN 1 [] (by decide)
      have hm : some (-1) = some r := hm
      obtain rfl := Option.some.inj hm
      exact retV (rs := [.tmp 4]) (vs := [.int .i64 (-1)]) hF rfl (rv_t (by kernel_rfl) <| rv_nil) rfl ⟨rfl, hS⟩
    · replace hm := if_f hm hb
      refine wpIn_skip ?_
      refine then_n ?_
      exact ⟨hF.weak [1, 2] (by kernel_rfl), hS, hm⟩

noncomputable def gameroomref_MoveDone_J8  (n2 : Int) (q7 : Int) : Option (St (Int × Int) Int) :=
  some (.next (q7, (w64 (n2 + 1))))

noncomputable def gameroomref_MoveDone_J7  (p1 : List Int) (p2 : Int) (m1 : Int) (m2 : Int) (q5 : Int) (n2 : Int) : Option (St (Int × Int) Int) :=
  asrt (0 ≤ n2 ∧ n2 < 4) <| asrt ((m1 == (geti ([7, 0, 63, 56] : List Int) n2)) = false → 0 ≤ n2 ∧ n2 < 4) <| ((if (!((m1 == (geti ([7, 0, 63, 56] : List Int) n2)) || (m2 == (geti ([7, 0, 63, 56] : List Int) n2)))) then gameroomref_size_m (geti p1 m1) else some 0)).bind fun r7 => asrt (((r7 == 6) && ((w64 (Int.tdiv n2 2)) == p2)) = true → ((m1 == (geti ([7, 0, 63, 56] : List Int) n2)) || (m2 == (geti ([7, 0, 63, 56] : List Int) n2))) = false → 0 ≤ n2 ∧ n2 < 4) <| asrt ((((m1 == (geti ([7, 0, 63, 56] : List Int) n2)) || (m2 == (geti ([7, 0, 63, 56] : List Int) n2))) || (((r7 == 6) && ((w64 (Int.tdiv n2 2)) == p2)) && (decide ((0 : Int) ≤ (geti ([4, 4, 60, 60] : List Int) n2))))) = true → (0 : Int) ≤ n2) <| if ((((m1 == (geti ([7, 0, 63, 56] : List Int) n2)) || (m2 == (geti ([7, 0, 63, 56] : List Int) n2))) || (((r7 == 6) && ((w64 (Int.tdiv n2 2)) == p2)) && (decide ((0 : Int) ≤ (geti ([4, 4, 60, 60] : List Int) n2))))) && ((bAnd (shrK .i64 q5 n2) 1) == 1)) then (asrt ((0 : Int) ≤ n2) <| (gameroomref_MoveDone_J8 n2) (w64 (q5 - (shlK .i64 1 n2)))) else ((gameroomref_MoveDone_J8 n2) q5)

noncomputable def gameroomref_MoveDone_L1  (p1 : List Int) (p2 : Int) (m1 : Int) (m2 : Int) : (Int × Int) → Option (St (Int × Int) Int) :=
  fun (x : (Int × Int)) => match x with | (q5, n2) => if (decide (n2 < 4)) then ((gameroomref_MoveDone_J7 p1 p2 m1 m2 q5 n2)) else (some (.done q5))

noncomputable def gameroomref_MoveDone_J11  (p2 : Int) (q3 : List Int) (q4 : Int) (q6 : Int) (q9 : Int) (q10 : Int) : Option (List Int × Int × Int × Int × Int × Int) :=
  some (q3, (w64 (1 - p2)), q6, q4, q9, q10)

noncomputable def gameroomref_MoveDone_J10  (p2 : Int) (r1 : (List Int × Int × Int × Int × Int × Int)) (q3 : List Int) (q4 : Int) (q6 : Int) (q9 : Int) : Option (List Int × Int × Int × Int × Int × Int) :=
  if ((p2 == 1) && (decide (r1.2.2.2.2.2 < 999))) then ((gameroomref_MoveDone_J11 p2 q3 q4 q6 q9) (w64 (r1.2.2.2.2.2 + 1))) else ((gameroomref_MoveDone_J11 p2 q3 q4 q6 q9) r1.2.2.2.2.2)

noncomputable def gameroomref_MoveDone_J9  (p1 : List Int) (p2 : Int) (m2 : Int) (r1 : (List Int × Int × Int × Int × Int × Int)) (r3 : Int) (q3 : List Int) (q4 : Int) (q6 : Int) (q8 : Int) : Option (List Int × Int × Int × Int × Int × Int) :=
  asrt ((r3 == 1) = false → 0 ≤ m2 ∧ m2 < (p1.length : Int)) <| if ((r3 == 1) || ((geti p1 m2) != 0)) then ((gameroomref_MoveDone_J10 p2 r1 q3 q4 q6) 0) else ((gameroomref_MoveDone_J10 p2 r1 q3 q4 q6) q8)

noncomputable def gameroomref_MoveDone_J6  (p1 : List Int) (p2 : Int) (m2 : Int) (r1 : (List Int × Int × Int × Int × Int × Int)) (r3 : Int) (q3 : List Int) (q4 : Int) (q6 : Int) : Option (List Int × Int × Int × Int × Int × Int) :=
  if (decide ((999 : Int) < (w64 (r1.2.2.2.2.1 + 1)))) then ((gameroomref_MoveDone_J9 p1 p2 m2 r1 r3 q3 q4 q6) 999) else ((gameroomref_MoveDone_J9 p1 p2 m2 r1 r3 q3 q4 q6) (w64 (r1.2.2.2.2.1 + 1)))

noncomputable def gameroomref_MoveDone_K1  (p1 : List Int) (p2 : Int) (m2 : Int) (r1 : (List Int × Int × Int × Int × Int × Int)) (r3 : Int) (q3 : List Int) (q4 : Int) : Int → Option (List Int × Int × Int × Int × Int × Int) :=
  fun (x : Int) => match x with | q6 => (gameroomref_MoveDone_J6 p1 p2 m2 r1 r3 q3 q4) q6

noncomputable def gameroomref_MoveDone_J5  (p1 : List Int) (p2 : Int) (m1 : Int) (m2 : Int) (r1 : (List Int × Int × Int × Int × Int × Int)) (r3 : Int) (q3 : List Int) (q4 : Int) : Option (List Int × Int × Int × Int × Int × Int) :=
  (loop (gameroomref_MoveDone_L1 p1 p2 m1 m2) (r1.2.2.1, 0)).bind (gameroomref_MoveDone_K1 p1 p2 m2 r1 r3 q3 q4)

noncomputable def gameroomref_MoveDone_J3  (p1 : List Int) (p2 : Int) (m1 : Int) (m2 : Int) (r1 : (List Int × Int × Int × Int × Int × Int)) (r3 : Int) (q3 : List Int) : Option (List Int × Int × Int × Int × Int × Int) :=
  ((if (r3 == 1) then gameroomref_size_m (w64 (m2 - m1)) else some 0)).bind fun r6 => if ((r3 == 1) && (r6 == 16)) then ((gameroomref_MoveDone_J5 p1 p2 m1 m2 r1 r3 q3) (w64 (Int.tdiv (w64 (m1 + m2)) 2))) else ((gameroomref_MoveDone_J5 p1 p2 m1 m2 r1 r3 q3) (-1))

noncomputable def gameroomref_MoveDone_J4  (p1 : List Int) (p2 : Int) (m1 : Int) (m2 : Int) (r1 : (List Int × Int × Int × Int × Int × Int)) (r3 : Int) (q2 : List Int) (corner1 : Int) : Option (List Int × Int × Int × Int × Int × Int) :=
  asrt (0 ≤ corner1 ∧ corner1 < (r1.1.length : Int)) <| asrt (0 ≤ (w64 (Int.tdiv (w64 (m1 + m2)) 2)) ∧ (w64 (Int.tdiv (w64 (m1 + m2)) 2)) < (r1.1.length : Int)) <| asrt (0 ≤ corner1 ∧ corner1 < (r1.1.length : Int)) <| (gameroomref_MoveDone_J3 p1 p2 m1 m2 r1 r3) ((q2.set (Int.toNat (w64 (Int.tdiv (w64 (m1 + m2)) 2))) (geti q2 corner1)).set (Int.toNat corner1) 0)

noncomputable def gameroomref_MoveDone_J2  (p1 : List Int) (p2 : Int) (m1 : Int) (m2 : Int) (r1 : (List Int × Int × Int × Int × Int × Int)) (r3 : Int) (q2 : List Int) : Option (List Int × Int × Int × Int × Int × Int) :=
  (gameroomref_size_m (geti p1 m1)).bind fun r4 => ((if (r4 == 6) then gameroomref_size_m (w64 (m2 - m1)) else some 0)).bind fun r5 => if ((r4 == 6) && (r5 == 2)) then (if (decide (m2 < m1)) then ((gameroomref_MoveDone_J4 p1 p2 m1 m2 r1 r3 q2) (w64 ((w64 (Int.tdiv m1 8)) * 8))) else ((gameroomref_MoveDone_J4 p1 p2 m1 m2 r1 r3 q2) (w64 ((w64 ((w64 (Int.tdiv m1 8)) * 8)) + 7)))) else ((gameroomref_MoveDone_J3 p1 p2 m1 m2 r1 r3) q2)

noncomputable def gameroomref_MoveDone_J1  (p1 : List Int) (p2 : Int) (p4 : Int) (m1 : Int) (m2 : Int) (r1 : (List Int × Int × Int × Int × Int × Int)) (r2 : Int) (r3 : Int) (q1 : List Int) : Option (List Int × Int × Int × Int × Int × Int) :=
  if ((r3 == 1) && (m2 == p4)) then (asrt (0 ≤ (w64 (m2 - (w64 (8 * r2)))) ∧ (w64 (m2 - (w64 (8 * r2)))) < (r1.1.length : Int)) <| (gameroomref_MoveDone_J2 p1 p2 m1 m2 r1 r3) (q1.set (Int.toNat (w64 (m2 - (w64 (8 * r2))))) 0)) else ((gameroomref_MoveDone_J2 p1 p2 m1 m2 r1 r3) q1)

noncomputable def gameroomref_MoveDone_m  (p1 : List Int) (p2 : Int) (p3 : Int) (p4 : Int) (p5 : Int) (p6 : Int) (m1 : Int) (m2 : Int) (m3 : Int) : Option (List Int × Int × Int × Int × Int × Int) :=
  (gameroomref_ChessOf_m p1 p2 p3 p4 p5 p6).bind fun r1 => (gameroomref_SideSign_m p2).bind fun r2 => asrt (0 ≤ m1 ∧ m1 < (p1.length : Int)) <| (gameroomref_size_m (geti p1 m1)).bind fun r3 => asrt (0 ≤ m1 ∧ m1 < (r1.1.length : Int)) <| asrt (0 ≤ m2 ∧ m2 < (r1.1.length : Int)) <| if (decide ((0 : Int) < m3)) then (asrt (0 ≤ m2 ∧ m2 < (r1.1.length : Int)) <| (gameroomref_MoveDone_J1 p1 p2 p4 m1 m2 r1 r2 r3) (((r1.1.set (Int.toNat m1) 0).set (Int.toNat m2) (geti p1 m1)).set (Int.toNat m2) (w64 (r2 * m3)))) else ((gameroomref_MoveDone_J1 p1 p2 p4 m1 m2 r1 r2 r3) ((r1.1.set (Int.toNat m1) 0).set (Int.toNat m2) (geti p1 m1)))

set_option maxRecDepth 100000 in
set_option maxHeartbeats 4000000 in
theorem gameroomref_MoveDone_w {A1 : Option Addr} {c1 : Nat} {n1 : Nat} {p1 : List Int} {p2 : Int} {p3 : Int} {p4 : Int} {p5 : Int} {p6 : Int} {m1 : Int} {m2 : Int} {m3 : Int} {r : (List Int × Int × Int × Int × Int × Int)} {w0 w : World} {B : Nat} {fs : List HP} (hm : gameroomref_MoveDone_m p1 p2 p3 p4 p5 p6 m1 m2 m3 = some r) (hS : Sep w0 B w (fs)) (hr_p1 : RdF w0 B fs A1 (vI p1)) (_hc_p1 : p1.length ≤ c1) (_hn_p1 : n1 = p1.length) :
    Calls Try.prog 62 #[.agg #[.slice A1 n1 c1, .int .i64 p2, .int .i64 p3, .int .i64 p4, .int .i64 p5, .int .i64 p6], .agg #[.int .i64 m1, .int .i64 m2, .int .i64 m3]] w fun e w' => ∃ v, e = .returned v ∧ ∃ (A3 : Option Addr) (c3 : Nat), v = .agg #[.slice A3 r.1.length c3, .int .i64 r.2.1, .int .i64 r.2.2.1, .int .i64 r.2.2.2.1, .int .i64 r.2.2.2.2.1, .int .i64 r.2.2.2.2.2] ∧ Sep w0 B w' (own 3 (.slice A3 r.1.length c3) (vI r.1) :: fs) := by
  obtain ⟨i3, hi3, hz3, hs3, hb3⟩ := info_parts Info3
  obtain rfl := _hn_p1
  unfold gameroomref_MoveDone_m at hm
  replace hm := start_b hm
  refine enter (l := [.agg #[.slice A1 p1.length c1, .int .i64 p2, .int .i64 p3, .int .i64 p4, .int .i64 p5, .int .i64 p6], .agg #[.int .i64 m1, .int .i64 m2, .int .i64 m3]]) (n := 221) Try.func62 rfl rfl (by simp) (fun a hF => ?_)
  refine seqR ?_
  refine at_do (d := 2) (s := vS (Instr.box 75 (.agg #[.slice A1 p1.length c1, .int .i64 p2, .int .i64 p3, .int .i64 p4, .int .i64 p5, .int .i64 p6]))) (v := .pointer (some ⟨w.heap.size, 0, none⟩)) (w' := w.alloc (.cells #[.slice A1 p1.length c1, .int .i64 p2, .int .i64 p3, .int .i64 p4, .int .i64 p5, .int .i64 p6] 75)) hF (by kernel_rfl) (by kernel_rfl) (by kernel_rfl) (fun a hF => ?_)
  have hS : Sep w0 B (w.alloc (.cells #[.slice A1 p1.length c1, .int .i64 p2, .int .i64 p3, .int .i64 p4, .int .i64 p5, .int .i64 p6] 75)) (blk w.heap.size 75 #[.slice A1 p1.length c1, .int .i64 p2, .int .i64 p3, .int .i64 p4, .int .i64 p5, .int .i64 p6] :: (fs)) := hS.box 75 #[.slice A1 p1.length c1, .int .i64 p2, .int .i64 p3, .int .i64 p4, .int .i64 p5, .int .i64 p6]
  generalize w.heap.size = g1 at hF hS
  generalize w.alloc (.cells #[.slice A1 p1.length c1, .int .i64 p2, .int .i64 p3, .int .i64 p4, .int .i64 p5, .int .i64 p6] 75) = w at hS ⊢
  refine at_do (d := 3) (s := vS (Instr.box 88 (.agg #[.int .i64 m1, .int .i64 m2, .int .i64 m3]))) (v := .pointer (some ⟨w.heap.size, 0, none⟩)) (w' := w.alloc (.cells #[.int .i64 m1, .int .i64 m2, .int .i64 m3] 88)) hF (by kernel_rfl) (by kernel_rfl) (by kernel_rfl) (fun a hF => ?_)
  have hS : Sep w0 B (w.alloc (.cells #[.int .i64 m1, .int .i64 m2, .int .i64 m3] 88)) (blk w.heap.size 88 #[.int .i64 m1, .int .i64 m2, .int .i64 m3] :: (blk g1 75 #[.slice A1 p1.length c1, .int .i64 p2, .int .i64 p3, .int .i64 p4, .int .i64 p5, .int .i64 p6] :: fs)) := hS.box 88 #[.int .i64 m1, .int .i64 m2, .int .i64 m3]
  generalize w.heap.size = g2 at hF hS
  generalize w.alloc (.cells #[.int .i64 m1, .int .i64 m2, .int .i64 m3] 88) = w at hS ⊢
  refine at_do (d := 4) (s := vS (Instr.alloc 75 true (.tuple #[]))) (v := .pointer (some ⟨w.heap.size, 0, none⟩)) (w' := w.alloc (.cells #[.slice none 0 0, .int .i64 0, .int .i64 0, .int .i64 0, .int .i64 0, .int .i64 0] 75)) hF (by kernel_rfl) (by kernel_rfl) (by kernel_rfl) (fun a hF => ?_)
  have hS : Sep w0 B (w.alloc (.cells #[.slice none 0 0, .int .i64 0, .int .i64 0, .int .i64 0, .int .i64 0, .int .i64 0] 75)) (blk w.heap.size 75 #[.slice none 0 0, .int .i64 0, .int .i64 0, .int .i64 0, .int .i64 0, .int .i64 0] :: (blk g2 88 #[.int .i64 m1, .int .i64 m2, .int .i64 m3] :: blk g1 75 #[.slice A1 p1.length c1, .int .i64 p2, .int .i64 p3, .int .i64 p4, .int .i64 p5, .int .i64 p6] :: fs)) := hS.box 75 #[.slice none 0 0, .int .i64 0, .int .i64 0, .int .i64 0, .int .i64 0, .int .i64 0]
  generalize w.heap.size = g3 at hF hS
  generalize w.alloc (.cells #[.slice none 0 0, .int .i64 0, .int .i64 0, .int .i64 0, .int .i64 0, .int .i64 0] 75) = w at hS ⊢
  refine at_end [2, 3, 4] [pl 2 (.pointer (some ⟨g1, 0, none⟩)), pl 3 (.pointer (some ⟨g2, 0, none⟩)), pl 4 (.pointer (some ⟨g3, 0, none⟩))] hF rfl (by kernel_rfl) (fun hF => ?_)
  refine then_n ?_
  refine seqR ?_
  obtain ⟨r1, hr1, hm⟩ := call_b hm
  refine at_run 1 [⟨false, [], vS (Instr.loadAt 75 (.pointer (some ⟨g1, 0, none⟩))), .agg #[.slice A1 p1.length c1, .int .i64 p2, .int .i64 p3, .int .i64 p4, .int .i64 p5, .int .i64 p6]⟩] [some (.agg #[.slice A1 p1.length c1, .int .i64 p2, .int .i64 p3, .int .i64 p4, .int .i64 p5, .int .i64 p6])] [2, 3, 4, 14] [pl 2 (.pointer (some ⟨g1, 0, none⟩)), pl 3 (.pointer (some ⟨g2, 0, none⟩)), pl 4 (.pointer (some ⟨g3, 0, none⟩)), pl 14 (.agg #[.slice A1 p1.length c1, .int .i64 p2, .int .i64 p3, .int .i64 p4, .int .i64 p5, .int .i64 p6])] hF hS (by kernel_rfl) (by kernel_rfl) ?_ (fun a w hF hS => ?_)
  · exact obs_cons (ob_loadA (cs := #[.slice A1 p1.length c1, .int .i64 p2, .int .i64 p3, .int .i64 p4, .int .i64 p5, .int .i64 p6]) (by kernel_rfl) (by kernel_rfl) (fun _ _ hS => (hS.at_ 2 rfl).cellsAt 0 (by rfl))) <| obs_nil
  refine at_call (f := 47) (args := #[.agg #[.slice A1 p1.length c1, .int .i64 p2, .int .i64 p3, .int .i64 p4, .int .i64 p5, .int .i64 p6]]) (d := 15) hF (by kernel_rfl) (by kernel_rfl) Try.func47 (by kernel_rfl) rfl (gameroomref_ChessOf_w hr1 hS (fun _ hS => (hr_p1 _ (hS.dropN 3))) _hc_p1 rfl) (fun v a w hR hF => ?_)
  clear hS
  obtain ⟨A2, c2, rfl, hS⟩ := hR
  have hS : Sep w0 B w (own 3 (.slice A2 r1.1.length c2) (vI r1.1) :: blk g3 75 #[.slice none 0 0, .int .i64 0, .int .i64 0, .int .i64 0, .int .i64 0, .int .i64 0] :: blk g2 88 #[.int .i64 m1, .int .i64 m2, .int .i64 m3] :: blk g1 75 #[.slice A1 p1.length c1, .int .i64 p2, .int .i64 p3, .int .i64 p4, .int .i64 p5, .int .i64 p6] :: fs) := hS
  refine at_do (d := 5) (s := vS (Instr.alloc 75 true (.tuple #[]))) (v := .pointer (some ⟨w.heap.size, 0, none⟩)) (w' := w.alloc (.cells #[.slice none 0 0, .int .i64 0, .int .i64 0, .int .i64 0, .int .i64 0, .int .i64 0] 75)) hF (by kernel_rfl) (by kernel_rfl) (by kernel_rfl) (fun a hF => ?_)
  have hS : Sep w0 B (w.alloc (.cells #[.slice none 0 0, .int .i64 0, .int .i64 0, .int .i64 0, .int .i64 0, .int .i64 0] 75)) (blk w.heap.size 75 #[.slice none 0 0, .int .i64 0, .int .i64 0, .int .i64 0, .int .i64 0, .int .i64 0] :: (own 3 (.slice A2 r1.1.length c2) (vI r1.1) :: blk g3 75 #[.slice none 0 0, .int .i64 0, .int .i64 0, .int .i64 0, .int .i64 0, .int .i64 0] :: blk g2 88 #[.int .i64 m1, .int .i64 m2, .int .i64 m3] :: blk g1 75 #[.slice A1 p1.length c1, .int .i64 p2, .int .i64 p3, .int .i64 p4, .int .i64 p5, .int .i64 p6] :: fs)) := hS.box 75 #[.slice none 0 0, .int .i64 0, .int .i64 0, .int .i64 0, .int .i64 0, .int .i64 0]
  generalize w.heap.size = g4 at hF hS
  generalize w.alloc (.cells #[.slice none 0 0, .int .i64 0, .int .i64 0, .int .i64 0, .int .i64 0, .int .i64 0] 75) = w at hS ⊢
  obtain ⟨w, hrun, hS⟩ := run_putA (P := Try.prog) (t := 75) (us := #[.slice A2 r1.1.length c2, .int .i64 r1.2.1, .int .i64 r1.2.2.1, .int .i64 r1.2.2.2.1, .int .i64 r1.2.2.2.2.1, .int .i64 r1.2.2.2.2.2]) (o := 0) (hS.at_ 0 rfl) (by kernel_rfl) (all_one (by kernel_rfl)) (Nat.le_of_ble_eq_true (by kernel_rfl))
  refine at_skip hF (by kernel_rfl) hrun ?_
  have hS : Sep w0 B w (blk g4 75 #[.slice A2 r1.1.length c2, .int .i64 r1.2.1, .int .i64 r1.2.2.1, .int .i64 r1.2.2.2.1, .int .i64 r1.2.2.2.2.1, .int .i64 r1.2.2.2.2.2] :: own 3 (.slice A2 r1.1.length c2) (vI r1.1) :: blk g3 75 #[.slice none 0 0, .int .i64 0, .int .i64 0, .int .i64 0, .int .i64 0, .int .i64 0] :: blk g2 88 #[.int .i64 m1, .int .i64 m2, .int .i64 m3] :: blk g1 75 #[.slice A1 p1.length c1, .int .i64 p2, .int .i64 p3, .int .i64 p4, .int .i64 p5, .int .i64 p6] :: fs) := hS
  refine at_end [2, 3, 4, 5] [pl 2 (.pointer (some ⟨g1, 0, none⟩)), pl 3 (.pointer (some ⟨g2, 0, none⟩)), pl 4 (.pointer (some ⟨g3, 0, none⟩)), pl 5 (.pointer (some ⟨g4, 0, none⟩))] hF rfl (by kernel_rfl) (fun hF => ?_)
  refine then_n ?_
  obtain ⟨r2, hr2, hm⟩ := call_b hm
  refine reg [⟨false, [], vS (Instr.loadAt 3 (.pointer (some ⟨g1, 1, none⟩))), .int .i64 p2⟩, ⟨false, [], callFunc 142 #[.int .i64 p2], .int .i64 r2⟩] [none, some (.int .i64 p2), some (.int .i64 r2), none] [2, 3, 4, 5, 6] [pl 2 (.pointer (some ⟨g1, 0, none⟩)), pl 3 (.pointer (some ⟨g2, 0, none⟩)), pl 4 (.pointer (some ⟨g3, 0, none⟩)), pl 5 (.pointer (some ⟨g4, 0, none⟩)), pl 6 (.int .i64 r2)] hF hS Fol (by kernel_rfl) (by kernel_rfl) (by kernel_rfl) ?_ (fun a w hF hS => ?_)
  · exact obs_cons (ob_load Agg3 (fun _ _ hS => (hS.at_ 4 rfl).cell rfl)) <| obs_cons (ob_call Try.func142 (by kernel_rfl) rfl (fun _ _ hS => gameroomref_SideSign_w hr2 hS )) <| obs_nil
  obtain ⟨hp1, hm⟩ := asrt_b hm
  refine reg [⟨false, [], vS (Instr.loadAt 27 (.pointer (some ⟨g1, 0, none⟩))), .slice A1 p1.length c1⟩, ⟨false, [], vS (Instr.loadAt 3 (.pointer (some ⟨g2, 0, none⟩))), .int .i64 m1⟩, ⟨true, [], vS (Instr.indexAt 27 (.slice A1 p1.length c1) (.int .i64 m1)), .pointer (some (sAddr A1 m1))⟩, ⟨false, [], vS (Instr.loadAt 3 (.pointer (some (sAddr A1 m1)))), .int .i64 (geti p1 m1)⟩] [none, some (.slice A1 p1.length c1), none, some (.int .i64 m1), some (.pointer (some (sAddr A1 m1))), some (.int .i64 (geti p1 m1)), none] [2, 3, 4, 5, 6, 7] [pl 2 (.pointer (some ⟨g1, 0, none⟩)), pl 3 (.pointer (some ⟨g2, 0, none⟩)), pl 4 (.pointer (some ⟨g3, 0, none⟩)), pl 5 (.pointer (some ⟨g4, 0, none⟩)), pl 6 (.int .i64 r2), pl 7 (.int .i64 (geti p1 m1))] hF hS Fol (by kernel_rfl) (by kernel_rfl) (by kernel_rfl) ?_ (fun a w hF hS => ?_)
  · exact obs_cons (ob_load Agg27 (fun _ _ hS => (hS.at_ 4 rfl).cell rfl)) <| obs_cons (ob_load Agg3 (fun _ _ hS => (hS.at_ 3 rfl).cell rfl)) <| obs_cons (ob_ix1 (f := (Value.int .i64)) (m := p1) Und27 hi3 hs3 (hr_p1 _ (hS.dropN 5)) rfl (fun _ => hp1)) <| obs_cons (ob_get1 (n := p1.length) (m := p1) (Value.int .i64) (0 : Int) Agg3 (fun _ hS => ⟨_, (hr_p1 _ (hS.dropN 5))⟩) (fun _ hS => rfl) (fun _ => hp1)) <| obs_nil
  obtain ⟨r3, hr3, hm⟩ := call_b hm
  refine reg [⟨false, [], callFunc 129 #[.int .i64 (geti p1 m1)], .int .i64 r3⟩] [none, some (.int .i64 r3), none, none] [2, 3, 4, 5, 6, 7, 8] [pl 2 (.pointer (some ⟨g1, 0, none⟩)), pl 3 (.pointer (some ⟨g2, 0, none⟩)), pl 4 (.pointer (some ⟨g3, 0, none⟩)), pl 5 (.pointer (some ⟨g4, 0, none⟩)), pl 6 (.int .i64 r2), pl 7 (.int .i64 (geti p1 m1)), pl 8 (.bool (r3 == 1))] hF hS Fol (by kernel_rfl) (by kernel_rfl) (by kernel_rfl) ?_ (fun a w hF hS => ?_)
  · exact obs_cons (ob_call Try.func129 (by kernel_rfl) rfl (fun _ _ hS => gameroomref_size_w hr3 hS )) <| obs_nil
  refine seqR ?_
  obtain ⟨hp2, hm⟩ := asrt_b hm
  refine at_run 5 [⟨false, [], vS (Instr.loadAt 27 (.pointer (some ⟨g4, 0, none⟩))), .slice A2 r1.1.length c2⟩, ⟨false, [], vS (Instr.loadAt 3 (.pointer (some ⟨g2, 0, none⟩))), .int .i64 m1⟩, ⟨true, [], vS (Instr.indexAt 27 (.slice A2 r1.1.length c2) (.int .i64 m1)), .pointer (some (sAddr A2 m1))⟩] [none, some (.slice A2 r1.1.length c2), none, some (.int .i64 m1), some (.pointer (some (sAddr A2 m1)))] [2, 3, 4, 5, 6, 7, 8, 32] [pl 2 (.pointer (some ⟨g1, 0, none⟩)), pl 3 (.pointer (some ⟨g2, 0, none⟩)), pl 4 (.pointer (some ⟨g3, 0, none⟩)), pl 5 (.pointer (some ⟨g4, 0, none⟩)), pl 6 (.int .i64 r2), pl 7 (.int .i64 (geti p1 m1)), pl 8 (.bool (r3 == 1)), pl 32 (.pointer (some (sAddr A2 m1)))] hF hS (by kernel_rfl) (by kernel_rfl) ?_ (fun a w hF hS => ?_)
  · exact obs_cons (ob_load Agg27 (fun _ _ hS => (hS.at_ 0 rfl).cell rfl)) <| obs_cons (ob_load Agg3 (fun _ _ hS => (hS.at_ 3 rfl).cell rfl)) <| obs_cons (ob_ix1 (f := (Value.int .i64)) (m := r1.1) Und27 hi3 hs3 (hS.at_ 1 rfl).rd rfl (fun _ => hp2)) <| obs_nil
  obtain ⟨w, hrun, hS⟩ := run_set1 (P := Try.prog) (t := 3) (x := 0) (Value.int .i64) (hS.at_ 1 rfl) hi3 hs3 rfl rfl hp2
  refine at_skip hF (by kernel_rfl) hrun ?_
  have hS : Sep w0 B w (blk g4 75 #[.slice A2 r1.1.length c2, .int .i64 r1.2.1, .int .i64 r1.2.2.1, .int .i64 r1.2.2.2.1, .int .i64 r1.2.2.2.2.1, .int .i64 r1.2.2.2.2.2] :: own 3 (.slice A2 r1.1.length c2) (vI (r1.1.set (Int.toNat m1) 0)) :: blk g3 75 #[.slice none 0 0, .int .i64 0, .int .i64 0, .int .i64 0, .int .i64 0, .int .i64 0] :: blk g2 88 #[.int .i64 m1, .int .i64 m2, .int .i64 m3] :: blk g1 75 #[.slice A1 p1.length c1, .int .i64 p2, .int .i64 p3, .int .i64 p4, .int .i64 p5, .int .i64 p6] :: fs) := hS
  refine at_end [2, 3, 4, 5, 6, 7, 8] [pl 2 (.pointer (some ⟨g1, 0, none⟩)), pl 3 (.pointer (some ⟨g2, 0, none⟩)), pl 4 (.pointer (some ⟨g3, 0, none⟩)), pl 5 (.pointer (some ⟨g4, 0, none⟩)), pl 6 (.int .i64 r2), pl 7 (.int .i64 (geti p1 m1)), pl 8 (.bool (r3 == 1))] hF rfl (by kernel_rfl) (fun hF => ?_)
  refine then_n ?_
  refine seqR ?_
  obtain ⟨hp3, hm⟩ := asrt_b hm
  refine at_run 6 [⟨false, [], vS (Instr.loadAt 27 (.pointer (some ⟨g4, 0, none⟩))), .slice A2 r1.1.length c2⟩, ⟨false, [], vS (Instr.loadAt 3 (.pointer (some ⟨g2, 1, none⟩))), .int .i64 m2⟩, ⟨true, [], vS (Instr.indexAt 27 (.slice A2 r1.1.length c2) (.int .i64 m2)), .pointer (some (sAddr A2 m2))⟩] [none, some (.slice A2 r1.1.length c2), none, some (.int .i64 m2), none, some (.pointer (some (sAddr A2 m2)))] [2, 3, 4, 5, 6, 7, 8, 37, 38] [pl 2 (.pointer (some ⟨g1, 0, none⟩)), pl 3 (.pointer (some ⟨g2, 0, none⟩)), pl 4 (.pointer (some ⟨g3, 0, none⟩)), pl 5 (.pointer (some ⟨g4, 0, none⟩)), pl 6 (.int .i64 r2), pl 7 (.int .i64 (geti p1 m1)), pl 8 (.bool (r3 == 1)), pl 37 (.int .i64 (geti p1 m1)), pl 38 (.pointer (some (sAddr A2 m2)))] hF hS (by kernel_rfl) (by kernel_rfl) ?_ (fun a w hF hS => ?_)
  · exact obs_cons (ob_load Agg27 (fun _ _ hS => (hS.at_ 0 rfl).cell rfl)) <| obs_cons (ob_load Agg3 (fun _ _ hS => (hS.at_ 3 rfl).cell rfl)) <| obs_cons (ob_ix1 (f := (Value.int .i64)) (m := (r1.1.set (Int.toNat m1) 0)) Und27 hi3 hs3 (hS.at_ 1 rfl).rd ((hS.at_ 1 rfl).len1) (fun _ => hp3)) <| obs_nil
  obtain ⟨w, hrun, hS⟩ := run_set1 (P := Try.prog) (t := 3) (x := (geti p1 m1)) (Value.int .i64) (hS.at_ 1 rfl) hi3 hs3 rfl rfl hp3
  refine at_skip hF (by kernel_rfl) hrun ?_
  have hS : Sep w0 B w (blk g4 75 #[.slice A2 r1.1.length c2, .int .i64 r1.2.1, .int .i64 r1.2.2.1, .int .i64 r1.2.2.2.1, .int .i64 r1.2.2.2.2.1, .int .i64 r1.2.2.2.2.2] :: own 3 (.slice A2 r1.1.length c2) (vI ((r1.1.set (Int.toNat m1) 0).set (Int.toNat m2) (geti p1 m1))) :: blk g3 75 #[.slice none 0 0, .int .i64 0, .int .i64 0, .int .i64 0, .int .i64 0, .int .i64 0] :: blk g2 88 #[.int .i64 m1, .int .i64 m2, .int .i64 m3] :: blk g1 75 #[.slice A1 p1.length c1, .int .i64 p2, .int .i64 p3, .int .i64 p4, .int .i64 p5, .int .i64 p6] :: fs) := hS
  refine at_end [2, 3, 4, 5, 6, 7, 8] [pl 2 (.pointer (some ⟨g1, 0, none⟩)), pl 3 (.pointer (some ⟨g2, 0, none⟩)), pl 4 (.pointer (some ⟨g3, 0, none⟩)), pl 5 (.pointer (some ⟨g4, 0, none⟩)), pl 6 (.int .i64 r2), pl 7 (.int .i64 (geti p1 m1)), pl 8 (.bool (r3 == 1))] hF rfl (by kernel_rfl) (fun hF => ?_)
  refine then_n ?_
  refine seq_cut (fun a w => ∃ (q1 : List Int), Fr 221 [pl 2 (.pointer (some ⟨g1, 0, none⟩)), pl 3 (.pointer (some ⟨g2, 0, none⟩)), pl 4 (.pointer (some ⟨g3, 0, none⟩)), pl 5 (.pointer (some ⟨g4, 0, none⟩)), pl 6 (.int .i64 r2), pl 7 (.int .i64 (geti p1 m1)), pl 8 (.bool (r3 == 1))] a ∧ Sep w0 B w (blk g1 75 #[.slice A1 p1.length c1, .int .i64 p2, .int .i64 p3, .int .i64 p4, .int .i64 p5, .int .i64 p6] :: blk g2 88 #[.int .i64 m1, .int .i64 m2, .int .i64 m3] :: blk g3 75 #[.slice none 0 0, .int .i64 0, .int .i64 0, .int .i64 0, .int .i64 0, .int .i64 0] :: blk g4 75 #[.slice A2 r1.1.length c2, .int .i64 r1.2.1, .int .i64 r1.2.2.1, .int .i64 r1.2.2.2.1, .int .i64 r1.2.2.2.2.1, .int .i64 r1.2.2.2.2.2] :: own 3 (.slice A2 r1.1.length c2) (vI q1) :: fs) ∧ ((gameroomref_MoveDone_J1 p1 p2 p4 m1 m2 r1 r2 r3) q1).bind some = some r) ?_ ?_
  · rintro a w ⟨q1, hF, hS, hm⟩
    unfold gameroomref_MoveDone_J1 at hm
    refine seq_cut (fun a w => ∃ (q2 : List Int), Fr 221 [pl 2 (.pointer (some ⟨g1, 0, none⟩)), pl 3 (.pointer (some ⟨g2, 0, none⟩)), pl 4 (.pointer (some ⟨g3, 0, none⟩)), pl 5 (.pointer (some ⟨g4, 0, none⟩)), pl 7 (.int .i64 (geti p1 m1)), pl 8 (.bool (r3 == 1))] a ∧ Sep w0 B w (blk g1 75 #[.slice A1 p1.length c1, .int .i64 p2, .int .i64 p3, .int .i64 p4, .int .i64 p5, .int .i64 p6] :: blk g2 88 #[.int .i64 m1, .int .i64 m2, .int .i64 m3] :: blk g3 75 #[.slice none 0 0, .int .i64 0, .int .i64 0, .int .i64 0, .int .i64 0, .int .i64 0] :: blk g4 75 #[.slice A2 r1.1.length c2, .int .i64 r1.2.1, .int .i64 r1.2.2.1, .int .i64 r1.2.2.2.1, .int .i64 r1.2.2.2.2.1, .int .i64 r1.2.2.2.2.2] :: own 3 (.slice A2 r1.1.length c2) (vI q2) :: fs) ∧ ((gameroomref_MoveDone_J2 p1 p2 m1 m2 r1 r3) q2).bind some = some r) ?_ ?_
    · rintro a w ⟨q2, hF, hS, hm⟩
      unfold gameroomref_MoveDone_J2 at hm
      refine seq_cut (fun a w => ∃ (q3 : List Int), Fr 221 [pl 2 (.pointer (some ⟨g1, 0, none⟩)), pl 3 (.pointer (some ⟨g2, 0, none⟩)), pl 4 (.pointer (some ⟨g3, 0, none⟩)), pl 5 (.pointer (some ⟨g4, 0, none⟩)), pl 7 (.int .i64 (geti p1 m1)), pl 8 (.bool (r3 == 1))] a ∧ Sep w0 B w (blk g1 75 #[.slice A1 p1.length c1, .int .i64 p2, .int .i64 p3, .int .i64 p4, .int .i64 p5, .int .i64 p6] :: blk g2 88 #[.int .i64 m1, .int .i64 m2, .int .i64 m3] :: blk g3 75 #[.slice none 0 0, .int .i64 0, .int .i64 0, .int .i64 0, .int .i64 0, .int .i64 0] :: blk g4 75 #[.slice A2 r1.1.length c2, .int .i64 r1.2.1, .int .i64 r1.2.2.1, .int .i64 r1.2.2.2.1, .int .i64 r1.2.2.2.2.1, .int .i64 r1.2.2.2.2.2] :: own 3 (.slice A2 r1.1.length c2) (vI q3) :: fs) ∧ ((gameroomref_MoveDone_J3 p1 p2 m1 m2 r1 r3) q3).bind some = some r) ?_ ?_
      · rintro a w ⟨q3, hF, hS, hm⟩
        unfold gameroomref_MoveDone_J3 at hm
        refine seqR ?_
        refine at_run 4 [⟨false, [], vS (Instr.loadAt 3 (.pointer (some ⟨g1, 1, none⟩))), .int .i64 p2⟩] [none, some (.int .i64 p2), none, none] [2, 3, 4, 5, 7, 8, 113, 114] [pl 2 (.pointer (some ⟨g1, 0, none⟩)), pl 3 (.pointer (some ⟨g2, 0, none⟩)), pl 4 (.pointer (some ⟨g3, 0, none⟩)), pl 5 (.pointer (some ⟨g4, 0, none⟩)), pl 7 (.int .i64 (geti p1 m1)), pl 8 (.bool (r3 == 1)), pl 113 (.int .i64 (w64 (1 - p2))), pl 114 (.pointer (some ⟨g4, 1, none⟩))] hF hS (by kernel_rfl) (by kernel_rfl) ?_ (fun a w hF hS => ?_)
        · exact obs_cons (ob_load Agg3 (fun _ _ hS => (hS.at_ 0 rfl).cell rfl)) <| obs_nil
        obtain ⟨w, hrun, hS⟩ := run_put (P := Try.prog) (t := 3) (u := .int .i64 (w64 (1 - p2))) (i := 1) (hS.at_ 3 rfl) hi3 hs3 rfl (Nat.lt_of_lt_of_eq (Nat.lt_of_succ_le (Nat.le_of_ble_eq_true (by kernel_rfl))) rfl)
        refine at_skip hF (by kernel_rfl) hrun ?_
        have hS : Sep w0 B w (blk g1 75 #[.slice A1 p1.length c1, .int .i64 p2, .int .i64 p3, .int .i64 p4, .int .i64 p5, .int .i64 p6] :: blk g2 88 #[.int .i64 m1, .int .i64 m2, .int .i64 m3] :: blk g3 75 #[.slice none 0 0, .int .i64 0, .int .i64 0, .int .i64 0, .int .i64 0, .int .i64 0] :: blk g4 75 #[.slice A2 r1.1.length c2, .int .i64 (w64 (1 - p2)), .int .i64 r1.2.2.1, .int .i64 r1.2.2.2.1, .int .i64 r1.2.2.2.2.1, .int .i64 r1.2.2.2.2.2] :: own 3 (.slice A2 r1.1.length c2) (vI q3) :: fs) := hS
        refine at_end [2, 3, 4, 5, 7, 8] [pl 2 (.pointer (some ⟨g1, 0, none⟩)), pl 3 (.pointer (some ⟨g2, 0, none⟩)), pl 4 (.pointer (some ⟨g3, 0, none⟩)), pl 5 (.pointer (some ⟨g4, 0, none⟩)), pl 7 (.int .i64 (geti p1 m1)), pl 8 (.bool (r3 == 1))] hF rfl (by kernel_rfl) (fun hF => ?_)
        refine then_n ?_
        refine seqR ?_
        refine at_run 1 [] [] [2, 3, 4, 5, 7, 8, 115] [pl 2 (.pointer (some ⟨g1, 0, none⟩)), pl 3 (.pointer (some ⟨g2, 0, none⟩)), pl 4 (.pointer (some ⟨g3, 0, none⟩)), pl 5 (.pointer (some ⟨g4, 0, none⟩)), pl 7 (.int .i64 (geti p1 m1)), pl 8 (.bool (r3 == 1)), pl 115 (.pointer (some ⟨g4, 3, none⟩))] hF hS (by kernel_rfl) (by kernel_rfl) ?_ (fun a w hF hS => ?_)
        · exact obs_nil
        obtain ⟨w, hrun, hS⟩ := run_put (P := Try.prog) (t := 3) (u := .int .i64 (-1)) (i := 3) (hS.at_ 3 rfl) hi3 hs3 rfl (Nat.lt_of_lt_of_eq (Nat.lt_of_succ_le (Nat.le_of_ble_eq_true (by kernel_rfl))) rfl)
        refine at_skip hF (by kernel_rfl) hrun ?_
        have hS : Sep w0 B w (blk g1 75 #[.slice A1 p1.length c1, .int .i64 p2, .int .i64 p3, .int .i64 p4, .int .i64 p5, .int .i64 p6] :: blk g2 88 #[.int .i64 m1, .int .i64 m2, .int .i64 m3] :: blk g3 75 #[.slice none 0 0, .int .i64 0, .int .i64 0, .int .i64 0, .int .i64 0, .int .i64 0] :: blk g4 75 #[.slice A2 r1.1.length c2, .int .i64 (w64 (1 - p2)), .int .i64 r1.2.2.1, .int .i64 (-1), .int .i64 r1.2.2.2.2.1, .int .i64 r1.2.2.2.2.2] :: own 3 (.slice A2 r1.1.length c2) (vI q3) :: fs) := hS
        refine at_end [2, 3, 4, 5, 7, 8] [pl 2 (.pointer (some ⟨g1, 0, none⟩)), pl 3 (.pointer (some ⟨g2, 0, none⟩)), pl 4 (.pointer (some ⟨g3, 0, none⟩)), pl 5 (.pointer (some ⟨g4, 0, none⟩)), pl 7 (.int .i64 (geti p1 m1)), pl 8 (.bool (r3 == 1))] hF rfl (by kernel_rfl) (fun hF => ?_)
        refine then_n ?_
        refine seq_cut (fun a w => ∃ (q4 : Int), Fr 221 [pl 2 (.pointer (some ⟨g1, 0, none⟩)), pl 3 (.pointer (some ⟨g2, 0, none⟩)), pl 4 (.pointer (some ⟨g3, 0, none⟩)), pl 5 (.pointer (some ⟨g4, 0, none⟩)), pl 7 (.int .i64 (geti p1 m1)), pl 8 (.bool (r3 == 1))] a ∧ Sep w0 B w (blk g1 75 #[.slice A1 p1.length c1, .int .i64 p2, .int .i64 p3, .int .i64 p4, .int .i64 p5, .int .i64 p6] :: blk g2 88 #[.int .i64 m1, .int .i64 m2, .int .i64 m3] :: blk g3 75 #[.slice none 0 0, .int .i64 0, .int .i64 0, .int .i64 0, .int .i64 0, .int .i64 0] :: blk g4 75 #[.slice A2 r1.1.length c2, .int .i64 (w64 (1 - p2)), .int .i64 r1.2.2.1, .int .i64 q4, .int .i64 r1.2.2.2.2.1, .int .i64 r1.2.2.2.2.2] :: own 3 (.slice A2 r1.1.length c2) (vI q3) :: fs) ∧ ((gameroomref_MoveDone_J5 p1 p2 m1 m2 r1 r3 q3) q4).bind some = some r) ?_ ?_
        · rintro a w ⟨q4, hF, hS, hm⟩
          unfold gameroomref_MoveDone_J5 at hm
          refine seqR ?_
          refine at_do (d := 133) (s := vS (Instr.buildSlice 27 4 #[(0, .int .i64 4), (1, .int .i64 4), (2, .int .i64 60), (3, .int .i64 60)])) (v := .slice (some ⟨w.heap.size, 0, none⟩) 4 4) (w' := w.alloc (.cells #[.int .i64 4, .int .i64 4, .int .i64 60, .int .i64 60] 3)) hF (by kernel_rfl) (by kernel_rfl) (by kernel_rfl) (fun a hF => ?_)
          have hS : Sep w0 B (w.alloc (.cells #[.int .i64 4, .int .i64 4, .int .i64 60, .int .i64 60] 3)) (own 3 (.slice (some (⟨w.heap.size, 0, none⟩ : Addr)) 4 4) (vI ([4, 4, 60, 60] : List Int)) :: (blk g1 75 #[.slice A1 p1.length c1, .int .i64 p2, .int .i64 p3, .int .i64 p4, .int .i64 p5, .int .i64 p6] :: blk g2 88 #[.int .i64 m1, .int .i64 m2, .int .i64 m3] :: blk g3 75 #[.slice none 0 0, .int .i64 0, .int .i64 0, .int .i64 0, .int .i64 0, .int .i64 0] :: blk g4 75 #[.slice A2 r1.1.length c2, .int .i64 (w64 (1 - p2)), .int .i64 r1.2.2.1, .int .i64 q4, .int .i64 r1.2.2.2.2.1, .int .i64 r1.2.2.2.2.2] :: own 3 (.slice A2 r1.1.length c2) (vI q3) :: fs)) := hS.lit 3 #[.int .i64 4, .int .i64 4, .int .i64 60, .int .i64 60] 4 rfl (by omega)
          generalize (some (⟨w.heap.size, 0, none⟩ : Addr)) = g5 at hF hS
          generalize w.alloc (.cells #[.int .i64 4, .int .i64 4, .int .i64 60, .int .i64 60] 3) = w at hS ⊢
          refine at_do (d := 134) (s := vS (Instr.buildSlice 27 4 #[(0, .int .i64 7), (1, .int .i64 0), (2, .int .i64 63), (3, .int .i64 56)])) (v := .slice (some ⟨w.heap.size, 0, none⟩) 4 4) (w' := w.alloc (.cells #[.int .i64 7, .int .i64 0, .int .i64 63, .int .i64 56] 3)) hF (by kernel_rfl) (by kernel_rfl) (by kernel_rfl) (fun a hF => ?_)
          have hS : Sep w0 B (w.alloc (.cells #[.int .i64 7, .int .i64 0, .int .i64 63, .int .i64 56] 3)) (own 3 (.slice (some (⟨w.heap.size, 0, none⟩ : Addr)) 4 4) (vI ([7, 0, 63, 56] : List Int)) :: (own 3 (.slice g5 4 4) (vI ([4, 4, 60, 60] : List Int)) :: blk g1 75 #[.slice A1 p1.length c1, .int .i64 p2, .int .i64 p3, .int .i64 p4, .int .i64 p5, .int .i64 p6] :: blk g2 88 #[.int .i64 m1, .int .i64 m2, .int .i64 m3] :: blk g3 75 #[.slice none 0 0, .int .i64 0, .int .i64 0, .int .i64 0, .int .i64 0, .int .i64 0] :: blk g4 75 #[.slice A2 r1.1.length c2, .int .i64 (w64 (1 - p2)), .int .i64 r1.2.2.1, .int .i64 q4, .int .i64 r1.2.2.2.2.1, .int .i64 r1.2.2.2.2.2] :: own 3 (.slice A2 r1.1.length c2) (vI q3) :: fs)) := hS.lit 3 #[.int .i64 7, .int .i64 0, .int .i64 63, .int .i64 56] 4 rfl (by omega)
          generalize (some (⟨w.heap.size, 0, none⟩ : Addr)) = g6 at hF hS
          generalize w.alloc (.cells #[.int .i64 7, .int .i64 0, .int .i64 63, .int .i64 56] 3) = w at hS ⊢
          refine at_run 2 [] [] [2, 3, 4, 5, 7, 8, 10, 11] [pl 2 (.pointer (some ⟨g1, 0, none⟩)), pl 3 (.pointer (some ⟨g2, 0, none⟩)), pl 4 (.pointer (some ⟨g3, 0, none⟩)), pl 5 (.pointer (some ⟨g4, 0, none⟩)), pl 7 (.int .i64 (geti p1 m1)), pl 8 (.bool (r3 == 1)), pl 10 (.slice g5 4 4), pl 11 (.slice g6 4 4)] hF hS (by kernel_rfl) (by kernel_rfl) ?_ (fun a w hF hS => ?_)
          · exact obs_nil
          refine at_end [2, 3, 4, 5, 7, 8, 10, 11] [pl 2 (.pointer (some ⟨g1, 0, none⟩)), pl 3 (.pointer (some ⟨g2, 0, none⟩)), pl 4 (.pointer (some ⟨g3, 0, none⟩)), pl 5 (.pointer (some ⟨g4, 0, none⟩)), pl 7 (.int .i64 (geti p1 m1)), pl 8 (.bool (r3 == 1)), pl 10 (.slice g5 4 4), pl 11 (.slice g6 4 4)] hF rfl (by kernel_rfl) (fun hF => ?_)
          refine then_n ?_
          refine seq_cut (fun a w => ∃ (q6 : Int), Fr 221 [pl 2 (.pointer (some ⟨g1, 0, none⟩)), pl 3 (.pointer (some ⟨g2, 0, none⟩)), pl 4 (.pointer (some ⟨g3, 0, none⟩)), pl 5 (.pointer (some ⟨g4, 0, none⟩)), pl 8 (.bool (r3 == 1))] a ∧ Sep w0 B w (blk g1 75 #[.slice A1 p1.length c1, .int .i64 p2, .int .i64 p3, .int .i64 p4, .int .i64 p5, .int .i64 p6] :: blk g2 88 #[.int .i64 m1, .int .i64 m2, .int .i64 m3] :: blk g3 75 #[.slice none 0 0, .int .i64 0, .int .i64 0, .int .i64 0, .int .i64 0, .int .i64 0] :: blk g4 75 #[.slice A2 r1.1.length c2, .int .i64 (w64 (1 - p2)), .int .i64 q6, .int .i64 q4, .int .i64 r1.2.2.2.2.1, .int .i64 r1.2.2.2.2.2] :: own 3 (.slice A2 r1.1.length c2) (vI q3) :: fs) ∧ ((gameroomref_MoveDone_J6 p1 p2 m2 r1 r3 q3 q4) q6).bind some = some r) ?_ ?_
          · rintro a w ⟨q6, hF, hS, hm⟩
            unfold gameroomref_MoveDone_J6 at hm
            refine seqR ?_
            refine at_run 4 [⟨false, [], vS (Instr.loadAt 3 (.pointer (some ⟨g4, 4, none⟩))), .int .i64 r1.2.2.2.2.1⟩] [none, some (.int .i64 r1.2.2.2.2.1), none, none] [2, 3, 4, 5, 8, 191, 192] [pl 2 (.pointer (some ⟨g1, 0, none⟩)), pl 3 (.pointer (some ⟨g2, 0, none⟩)), pl 4 (.pointer (some ⟨g3, 0, none⟩)), pl 5 (.pointer (some ⟨g4, 0, none⟩)), pl 8 (.bool (r3 == 1)), pl 191 (.int .i64 (w64 (r1.2.2.2.2.1 + 1))), pl 192 (.pointer (some ⟨g4, 4, none⟩))] hF hS (by kernel_rfl) (by kernel_rfl) ?_ (fun a w hF hS => ?_)
            · exact obs_cons (ob_load Agg3 (fun _ _ hS => (hS.at_ 3 rfl).cell rfl)) <| obs_nil
            obtain ⟨w, hrun, hS⟩ := run_put (P := Try.prog) (t := 3) (u := .int .i64 (w64 (r1.2.2.2.2.1 + 1))) (i := 4) (hS.at_ 3 rfl) hi3 hs3 rfl (Nat.lt_of_lt_of_eq (Nat.lt_of_succ_le (Nat.le_of_ble_eq_true (by kernel_rfl))) rfl)
            refine at_skip hF (by kernel_rfl) hrun ?_
            have hS : Sep w0 B w (blk g1 75 #[.slice A1 p1.length c1, .int .i64 p2, .int .i64 p3, .int .i64 p4, .int .i64 p5, .int .i64 p6] :: blk g2 88 #[.int .i64 m1, .int .i64 m2, .int .i64 m3] :: blk g3 75 #[.slice none 0 0, .int .i64 0, .int .i64 0, .int .i64 0, .int .i64 0, .int .i64 0] :: blk g4 75 #[.slice A2 r1.1.length c2, .int .i64 (w64 (1 - p2)), .int .i64 q6, .int .i64 q4, .int .i64 (w64 (r1.2.2.2.2.1 + 1)), .int .i64 r1.2.2.2.2.2] :: own 3 (.slice A2 r1.1.length c2) (vI q3) :: fs) := hS
            refine at_end [2, 3, 4, 5, 8] [pl 2 (.pointer (some ⟨g1, 0, none⟩)), pl 3 (.pointer (some ⟨g2, 0, none⟩)), pl 4 (.pointer (some ⟨g3, 0, none⟩)), pl 5 (.pointer (some ⟨g4, 0, none⟩)), pl 8 (.bool (r3 == 1))] hF rfl (by kernel_rfl) (fun hF => ?_)
            refine then_n ?_
            refine seq_cut (fun a w => ∃ (q8 : Int), Fr 221 [pl 2 (.pointer (some ⟨g1, 0, none⟩)), pl 3 (.pointer (some ⟨g2, 0, none⟩)), pl 4 (.pointer (some ⟨g3, 0, none⟩)), pl 5 (.pointer (some ⟨g4, 0, none⟩)), pl 8 (.bool (r3 == 1))] a ∧ Sep w0 B w (blk g1 75 #[.slice A1 p1.length c1, .int .i64 p2, .int .i64 p3, .int .i64 p4, .int .i64 p5, .int .i64 p6] :: blk g2 88 #[.int .i64 m1, .int .i64 m2, .int .i64 m3] :: blk g3 75 #[.slice none 0 0, .int .i64 0, .int .i64 0, .int .i64 0, .int .i64 0, .int .i64 0] :: blk g4 75 #[.slice A2 r1.1.length c2, .int .i64 (w64 (1 - p2)), .int .i64 q6, .int .i64 q4, .int .i64 q8, .int .i64 r1.2.2.2.2.2] :: own 3 (.slice A2 r1.1.length c2) (vI q3) :: fs) ∧ ((gameroomref_MoveDone_J9 p1 p2 m2 r1 r3 q3 q4 q6) q8).bind some = some r) ?_ ?_
            · rintro a w ⟨q8, hF, hS, hm⟩
              unfold gameroomref_MoveDone_J9 at hm
              refine seq_cut (fun a w => ∃ (q9 : Int), Fr 221 [pl 2 (.pointer (some ⟨g1, 0, none⟩)), pl 4 (.pointer (some ⟨g3, 0, none⟩)), pl 5 (.pointer (some ⟨g4, 0, none⟩))] a ∧ Sep w0 B w (blk g1 75 #[.slice A1 p1.length c1, .int .i64 p2, .int .i64 p3, .int .i64 p4, .int .i64 p5, .int .i64 p6] :: blk g3 75 #[.slice none 0 0, .int .i64 0, .int .i64 0, .int .i64 0, .int .i64 0, .int .i64 0] :: blk g4 75 #[.slice A2 r1.1.length c2, .int .i64 (w64 (1 - p2)), .int .i64 q6, .int .i64 q4, .int .i64 q9, .int .i64 r1.2.2.2.2.2] :: own 3 (.slice A2 r1.1.length c2) (vI q3) :: fs) ∧ ((gameroomref_MoveDone_J10 p2 r1 q3 q4 q6) q9).bind some = some r) ?_ ?_
              · rintro a w ⟨q9, hF, hS, hm⟩
                unfold gameroomref_MoveDone_J10 at hm
                refine seq_cut (fun a w => ∃ (q10 : Int), Fr 221 [pl 4 (.pointer (some ⟨g3, 0, none⟩)), pl 5 (.pointer (some ⟨g4, 0, none⟩))] a ∧ Sep w0 B w (blk g3 75 #[.slice none 0 0, .int .i64 0, .int .i64 0, .int .i64 0, .int .i64 0, .int .i64 0] :: blk g4 75 #[.slice A2 r1.1.length c2, .int .i64 (w64 (1 - p2)), .int .i64 q6, .int .i64 q4, .int .i64 q9, .int .i64 q10] :: own 3 (.slice A2 r1.1.length c2) (vI q3) :: fs) ∧ ((gameroomref_MoveDone_J11 p2 q3 q4 q6 q9) q10).bind some = some r) ?_ ?_
                · rintro a w ⟨q10, hF, hS, hm⟩
                  unfold gameroomref_MoveDone_J11 at hm
                  refine seqR ?_
                  refine at_run 1 [⟨false, [], vS (Instr.loadAt 75 (.pointer (some ⟨g4, 0, none⟩))), .agg #[.slice A2 r1.1.length c2, .int .i64 (w64 (1 - p2)), .int .i64 q6, .int .i64 q4, .int .i64 q9, .int .i64 q10]⟩] [some (.agg #[.slice A2 r1.1.length c2, .int .i64 (w64 (1 - p2)), .int .i64 q6, .int .i64 q4, .int .i64 q9, .int .i64 q10])] [4, 220] [pl 4 (.pointer (some ⟨g3, 0, none⟩)), pl 220 (.agg #[.slice A2 r1.1.length c2, .int .i64 (w64 (1 - p2)), .int .i64 q6, .int .i64 q4, .int .i64 q9, .int .i64 q10])] hF hS (by kernel_rfl) (by kernel_rfl) ?_ (fun a w hF hS => ?_)
                  · exact obs_cons (ob_loadA (cs := #[.slice A2 r1.1.length c2, .int .i64 (w64 (1 - p2)), .int .i64 q6, .int .i64 q4, .int .i64 q9, .int .i64 q10]) (by kernel_rfl) (by kernel_rfl) (fun _ _ hS => (hS.at_ 1 rfl).cellsAt 0 (by rfl))) <| obs_nil
                  obtain ⟨w, hrun, hS⟩ := run_putA (P := Try.prog) (t := 75) (us := #[.slice A2 r1.1.length c2, .int .i64 (w64 (1 - p2)), .int .i64 q6, .int .i64 q4, .int .i64 q9, .int .i64 q10]) (o := 0) (hS.at_ 0 rfl) (by kernel_rfl) (all_one (by kernel_rfl)) (Nat.le_of_ble_eq_true (by kernel_rfl))
                  refine at_skip hF (by kernel_rfl) hrun ?_
                  have hS : Sep w0 B w (blk g3 75 #[.slice A2 r1.1.length c2, .int .i64 (w64 (1 - p2)), .int .i64 q6, .int .i64 q4, .int .i64 q9, .int .i64 q10] :: blk g4 75 #[.slice A2 r1.1.length c2, .int .i64 (w64 (1 - p2)), .int .i64 q6, .int .i64 q4, .int .i64 q9, .int .i64 q10] :: own 3 (.slice A2 r1.1.length c2) (vI q3) :: fs) := hS
                  refine at_end [4] [pl 4 (.pointer (some ⟨g3, 0, none⟩))] hF rfl (by kernel_rfl) (fun hF => ?_)
                  refine then_n ?_
                  refine wpIn_ret ?_
                  have hl1 := (hS.at_ 2 rfl).len1
                  have hS := (hS.at_ 2 rfl).reN hl1
                  have hS := (hS.at_ 0 rfl).reBlk (congrArg (fun k9 => (#[.slice A2 k9 c2, .int .i64 (w64 (1 - p2)), .int .i64 q6, .int .i64 q4, .int .i64 q9, .int .i64 q10] : Array Value)) hl1)
                  have hS := (hS.at_ 1 rfl).reBlk (congrArg (fun k9 => (#[.slice A2 k9 c2, .int .i64 (w64 (1 - p2)), .int .i64 q6, .int .i64 q4, .int .i64 q9, .int .i64 q10] : Array Value)) hl1)
                  have hS : Sep w0 B w (blk g3 75 #[.slice A2 q3.length c2, .int .i64 (w64 (1 - p2)), .int .i64 q6, .int .i64 q4, .int .i64 q9, .int .i64 q10] :: blk g4 75 #[.slice A2 q3.length c2, .int .i64 (w64 (1 - p2)), .int .i64 q6, .int .i64 q4, .int .i64 q9, .int .i64 q10] :: own 3 (.slice A2 q3.length c2) (vI q3) :: fs) := hS
                  have hld0 := run_loadVarA (P := Try.prog) (t := 75) (cs := #[.slice A2 q3.length c2, .int .i64 (w64 (1 - p2)), .int .i64 q6, .int .i64 q4, .int .i64 q9, .int .i64 q10]) (by kernel_rfl) (by kernel_rfl) ((hS.at_ 0 rfl).cellsAt 0 (by rfl))
                  have hS := hS.pickN 3 [2] (by decide)
                  have hm : some (q3, (w64 (1 - p2)), q6, q4, q9, q10) = some r := hm
                  obtain rfl := Option.some.inj hm
                  exact retV (rs := [.cell 4 75]) (vs := [.agg #[.slice A2 q3.length c2, .int .i64 (w64 (1 - p2)), .int .i64 q6, .int .i64 q4, .int .i64 q9, .int .i64 q10]]) hF rfl (rv_c (by kernel_rfl) hld0 <| rv_nil) rfl ⟨_, rfl, A2, c2, rfl, hS⟩
                · refine reg [⟨false, [], vS (Instr.loadAt 3 (.pointer (some ⟨g1, 1, none⟩))), .int .i64 p2⟩, ⟨false, [((p2 == 1), true)], vS (Instr.loadAt 3 (.pointer (some ⟨g4, 5, none⟩))), .int .i64 r1.2.2.2.2.2⟩] [none, some (.int .i64 p2), none, none, none, some (.int .i64 r1.2.2.2.2.2), none, none] [4, 5, 215] [pl 4 (.pointer (some ⟨g3, 0, none⟩)), pl 5 (.pointer (some ⟨g4, 0, none⟩)), pl 215 (.bool ((p2 == 1) && (decide (r1.2.2.2.2.2 < 999))))] hF hS Fol (by kernel_rfl) (by kernel_rfl) (by kernel_rfl) ?_ (fun a w hF hS => ?_)
                  · exact obs_cons (ob_load Agg3 (fun _ _ hS => (hS.at_ 0 rfl).cell rfl)) <| obs_cons (ob_load Agg3 (fun _ _ hS => (hS.at_ 2 rfl).cell rfl)) <| obs_nil
                  refine cond_ev (t := 215) (b := (p2 == 1) && (decide (r1.2.2.2.2.2 < 999))) hF (by kernel_rfl) (fun hb => ?_) (fun hb => ?_)
                  · replace hm := if_t hm hb
                    refine oneR ?_
                    refine at_run 4 [⟨false, [], vS (Instr.loadAt 3 (.pointer (some ⟨g4, 5, none⟩))), .int .i64 r1.2.2.2.2.2⟩] [none, some (.int .i64 r1.2.2.2.2.2), none, none] [4, 5, 218, 219] [pl 4 (.pointer (some ⟨g3, 0, none⟩)), pl 5 (.pointer (some ⟨g4, 0, none⟩)), pl 218 (.int .i64 (w64 (r1.2.2.2.2.2 + 1))), pl 219 (.pointer (some ⟨g4, 5, none⟩))] hF hS (by kernel_rfl) (by kernel_rfl) ?_ (fun a w hF hS => ?_)
                    · exact obs_cons (ob_load Agg3 (fun _ _ hS => (hS.at_ 2 rfl).cell rfl)) <| obs_nil
                    obtain ⟨w, hrun, hS⟩ := run_put (P := Try.prog) (t := 3) (u := .int .i64 (w64 (r1.2.2.2.2.2 + 1))) (i := 5) (hS.at_ 2 rfl) hi3 hs3 rfl (Nat.lt_of_lt_of_eq (Nat.lt_of_succ_le (Nat.le_of_ble_eq_true (by kernel_rfl))) rfl)
                    refine at_skip hF (by kernel_rfl) hrun ?_
                    have hS : Sep w0 B w (blk g1 75 #[.slice A1 p1.length c1, .int .i64 p2, .int .i64 p3, .int .i64 p4, .int .i64 p5, .int .i64 p6] :: blk g3 75 #[.slice none 0 0, .int .i64 0, .int .i64 0, .int .i64 0, .int .i64 0, .int .i64 0] :: blk g4 75 #[.slice A2 r1.1.length c2, .int .i64 (w64 (1 - p2)), .int .i64 q6, .int .i64 q4, .int .i64 q9, .int .i64 (w64 (r1.2.2.2.2.2 + 1))] :: own 3 (.slice A2 r1.1.length c2) (vI q3) :: fs) := hS
                    refine at_end [4, 5] [pl 4 (.pointer (some ⟨g3, 0, none⟩)), pl 5 (.pointer (some ⟨g4, 0, none⟩))] hF rfl (by kernel_rfl) (fun hF => ?_)
                    refine then_n ?_
                    have hS := hS.pickN 4 [1, 2, 3] (by decide)
                    exact ⟨(w64 (r1.2.2.2.2.2 + 1)), hF.weak [4, 5] (by kernel_rfl), hS, hm⟩
                  · replace hm := if_f hm hb
                    refine wpIn_skip ?_
                    refine then_n ?_
                    have hS := hS.pickN 4 [1, 2, 3] (by decide)
                    exact ⟨r1.2.2.2.2.2, hF.weak [4, 5] (by kernel_rfl), hS, hm⟩
              · obtain ⟨hp14, hm⟩ := asrt_b hm
                refine reg [⟨false, [((r3 == 1), false)], vS (Instr.loadAt 27 (.pointer (some ⟨g1, 0, none⟩))), .slice A1 p1.length c1⟩, ⟨false, [((r3 == 1), false)], vS (Instr.loadAt 3 (.pointer (some ⟨g2, 1, none⟩))), .int .i64 m2⟩, ⟨true, [((r3 == 1), false)], vS (Instr.indexAt 27 (.slice A1 p1.length c1) (.int .i64 m2)), .pointer (some (sAddr A1 m2))⟩, ⟨false, [((r3 == 1), false)], vS (Instr.loadAt 3 (.pointer (some (sAddr A1 m2)))), .int .i64 (geti p1 m2)⟩] [none, none, none, some (.slice A1 p1.length c1), none, some (.int .i64 m2), some (.pointer (some (sAddr A1 m2))), some (.int .i64 (geti p1 m2)), none, none] [2, 4, 5, 206] [pl 2 (.pointer (some ⟨g1, 0, none⟩)), pl 4 (.pointer (some ⟨g3, 0, none⟩)), pl 5 (.pointer (some ⟨g4, 0, none⟩)), pl 206 (.bool ((r3 == 1) || ((geti p1 m2) != 0)))] hF hS Fol (by kernel_rfl) (by kernel_rfl) (by kernel_rfl) ?_ (fun a w hF hS => ?_)
                · exact obs_cons (ob_load Agg27 (fun _ _ hS => (hS.at_ 0 rfl).cell rfl)) <| obs_cons (ob_load Agg3 (fun _ _ hS => (hS.at_ 1 rfl).cell rfl)) <| obs_cons (ob_ix1 (f := (Value.int .i64)) (m := p1) Und27 hi3 hs3 (hr_p1 _ (hS.dropN 5)) rfl (fun hy => hp14 (hy ((r3 == 1), false) (by simp)))) <| obs_cons (ob_get1 (n := p1.length) (m := p1) (Value.int .i64) (0 : Int) Agg3 (fun _ hS => ⟨_, (hr_p1 _ (hS.dropN 5))⟩) (fun _ hS => rfl) (fun hy => hp14 (hy ((r3 == 1), false) (by simp)))) <| obs_nil
                refine cond_ev (t := 206) (b := (r3 == 1) || ((geti p1 m2) != 0)) hF (by kernel_rfl) (fun hb => ?_) (fun hb => ?_)
                · replace hm := if_t hm hb
                  refine oneR ?_
                  refine at_run 1 [] [] [2, 4, 5, 207] [pl 2 (.pointer (some ⟨g1, 0, none⟩)), pl 4 (.pointer (some ⟨g3, 0, none⟩)), pl 5 (.pointer (some ⟨g4, 0, none⟩)), pl 207 (.pointer (some ⟨g4, 4, none⟩))] hF hS (by kernel_rfl) (by kernel_rfl) ?_ (fun a w hF hS => ?_)
                  · exact obs_nil
                  obtain ⟨w, hrun, hS⟩ := run_put (P := Try.prog) (t := 3) (u := .int .i64 0) (i := 4) (hS.at_ 3 rfl) hi3 hs3 rfl (Nat.lt_of_lt_of_eq (Nat.lt_of_succ_le (Nat.le_of_ble_eq_true (by kernel_rfl))) rfl)
                  refine at_skip hF (by kernel_rfl) hrun ?_
                  have hS : Sep w0 B w (blk g1 75 #[.slice A1 p1.length c1, .int .i64 p2, .int .i64 p3, .int .i64 p4, .int .i64 p5, .int .i64 p6] :: blk g2 88 #[.int .i64 m1, .int .i64 m2, .int .i64 m3] :: blk g3 75 #[.slice none 0 0, .int .i64 0, .int .i64 0, .int .i64 0, .int .i64 0, .int .i64 0] :: blk g4 75 #[.slice A2 r1.1.length c2, .int .i64 (w64 (1 - p2)), .int .i64 q6, .int .i64 q4, .int .i64 0, .int .i64 r1.2.2.2.2.2] :: own 3 (.slice A2 r1.1.length c2) (vI q3) :: fs) := hS
                  refine at_end [2, 4, 5] [pl 2 (.pointer (some ⟨g1, 0, none⟩)), pl 4 (.pointer (some ⟨g3, 0, none⟩)), pl 5 (.pointer (some ⟨g4, 0, none⟩))] hF rfl (by kernel_rfl) (fun hF => ?_)
                  refine then_n ?_
                  have hS := hS.pickN 5 [0, 2, 3, 4] (by decide)
                  exact ⟨0, hF.weak [2, 4, 5] (by kernel_rfl), hS, hm⟩
                · replace hm := if_f hm hb
                  refine wpIn_skip ?_
                  refine then_n ?_
                  have hS := hS.pickN 5 [0, 2, 3, 4] (by decide)
                  exact ⟨q8, hF.weak [2, 4, 5] (by kernel_rfl), hS, hm⟩
            · refine reg [⟨false, [], vS (Instr.loadAt 3 (.pointer (some ⟨g4, 4, none⟩))), .int .i64 (w64 (r1.2.2.2.2.1 + 1))⟩] [none, some (.int .i64 (w64 (r1.2.2.2.2.1 + 1))), none] [2, 3, 4, 5, 8, 195] [pl 2 (.pointer (some ⟨g1, 0, none⟩)), pl 3 (.pointer (some ⟨g2, 0, none⟩)), pl 4 (.pointer (some ⟨g3, 0, none⟩)), pl 5 (.pointer (some ⟨g4, 0, none⟩)), pl 8 (.bool (r3 == 1)), pl 195 (.bool (decide ((999 : Int) < (w64 (r1.2.2.2.2.1 + 1)))))] hF hS Fol (by kernel_rfl) (by kernel_rfl) (by kernel_rfl) ?_ (fun a w hF hS => ?_)
              · exact obs_cons (ob_load Agg3 (fun _ _ hS => (hS.at_ 3 rfl).cell rfl)) <| obs_nil
              refine cond_ev (t := 195) (b := decide ((999 : Int) < (w64 (r1.2.2.2.2.1 + 1)))) hF (by kernel_rfl) (fun hb => ?_) (fun hb => ?_)
              · replace hm := if_t hm hb
                refine oneR ?_
                refine at_run 1 [] [] [2, 3, 4, 5, 8, 196] [pl 2 (.pointer (some ⟨g1, 0, none⟩)), pl 3 (.pointer (some ⟨g2, 0, none⟩)), pl 4 (.pointer (some ⟨g3, 0, none⟩)), pl 5 (.pointer (some ⟨g4, 0, none⟩)), pl 8 (.bool (r3 == 1)), pl 196 (.pointer (some ⟨g4, 4, none⟩))] hF hS (by kernel_rfl) (by kernel_rfl) ?_ (fun a w hF hS => ?_)
                · exact obs_nil
                obtain ⟨w, hrun, hS⟩ := run_put (P := Try.prog) (t := 3) (u := .int .i64 999) (i := 4) (hS.at_ 3 rfl) hi3 hs3 rfl (Nat.lt_of_lt_of_eq (Nat.lt_of_succ_le (Nat.le_of_ble_eq_true (by kernel_rfl))) rfl)
                refine at_skip hF (by kernel_rfl) hrun ?_
                have hS : Sep w0 B w (blk g1 75 #[.slice A1 p1.length c1, .int .i64 p2, .int .i64 p3, .int .i64 p4, .int .i64 p5, .int .i64 p6] :: blk g2 88 #[.int .i64 m1, .int .i64 m2, .int .i64 m3] :: blk g3 75 #[.slice none 0 0, .int .i64 0, .int .i64 0, .int .i64 0, .int .i64 0, .int .i64 0] :: blk g4 75 #[.slice A2 r1.1.length c2, .int .i64 (w64 (1 - p2)), .int .i64 q6, .int .i64 q4, .int .i64 999, .int .i64 r1.2.2.2.2.2] :: own 3 (.slice A2 r1.1.length c2) (vI q3) :: fs) := hS
                refine at_end [2, 3, 4, 5, 8] [pl 2 (.pointer (some ⟨g1, 0, none⟩)), pl 3 (.pointer (some ⟨g2, 0, none⟩)), pl 4 (.pointer (some ⟨g3, 0, none⟩)), pl 5 (.pointer (some ⟨g4, 0, none⟩)), pl 8 (.bool (r3 == 1))] hF rfl (by kernel_rfl) (fun hF => ?_)
                refine then_n ?_
                exact ⟨999, hF.weak [2, 3, 4, 5, 8] (by kernel_rfl), hS, hm⟩
              · replace hm := if_f hm hb
                refine wpIn_skip ?_
                refine then_n ?_
                exact ⟨(w64 (r1.2.2.2.2.1 + 1)), hF.weak [2, 3, 4, 5, 8] (by kernel_rfl), hS, hm⟩
          · refine reg [] [] [2, 3, 4, 5, 7, 8, 10, 11, 12] [pl 2 (.pointer (some ⟨g1, 0, none⟩)), pl 3 (.pointer (some ⟨g2, 0, none⟩)), pl 4 (.pointer (some ⟨g3, 0, none⟩)), pl 5 (.pointer (some ⟨g4, 0, none⟩)), pl 7 (.int .i64 (geti p1 m1)), pl 8 (.bool (r3 == 1)), pl 10 (.slice g5 4 4), pl 11 (.slice g6 4 4), pl 12 (.int .i64 0)] hF hS Fol (by kernel_rfl) (by kernel_rfl) (by kernel_rfl) ?_ (fun a w hF hS => ?_)
            · exact obs_nil
            refine wpIn_block ?_
            have hS := hS.pickN 7 [2, 3, 4, 5, 6, 1, 0] (by decide)
            refine wp_loop_model (S := (Int × Int)) (R := Int) (gameroomref_MoveDone_L1 p1 p2 m1 m2) (fun x => ((gameroomref_MoveDone_K1 p1 p2 m2 r1 r3 q3 q4) x).bind some) r (fun (x : (Int × Int)) a w => Fr 221 [pl 2 (.pointer (some ⟨g1, 0, none⟩)), pl 3 (.pointer (some ⟨g2, 0, none⟩)), pl 4 (.pointer (some ⟨g3, 0, none⟩)), pl 5 (.pointer (some ⟨g4, 0, none⟩)), pl 7 (.int .i64 (geti p1 m1)), pl 8 (.bool (r3 == 1)), pl 10 (.slice g5 4 4), pl 11 (.slice g6 4 4), pl 12 (.int .i64 x.2)] a ∧ Sep w0 B w (blk g1 75 #[.slice A1 p1.length c1, .int .i64 p2, .int .i64 p3, .int .i64 p4, .int .i64 p5, .int .i64 p6] :: blk g2 88 #[.int .i64 m1, .int .i64 m2, .int .i64 m3] :: blk g3 75 #[.slice none 0 0, .int .i64 0, .int .i64 0, .int .i64 0, .int .i64 0, .int .i64 0] :: blk g4 75 #[.slice A2 r1.1.length c2, .int .i64 (w64 (1 - p2)), .int .i64 x.1, .int .i64 q4, .int .i64 r1.2.2.2.2.1, .int .i64 r1.2.2.2.2.2] :: own 3 (.slice A2 r1.1.length c2) (vI q3) :: own 3 (.slice g5 4 4) (vI ([4, 4, 60, 60] : List Int)) :: own 3 (.slice g6 4 4) (vI ([7, 0, 63, 56] : List Int)) :: fs)) (assoc_b hm) ⟨hF.weak [2, 3, 4, 5, 7, 8, 10, 11, 12] (by kernel_rfl), hS⟩ ?_
            clear hF hS hm
            rintro nn1 ⟨q5, n2⟩ a w ⟨hF, hS⟩ hm
            generalize hφ1 : stK (gameroomref_MoveDone_L1 p1 p2 m1 m2) nn1 (fun x => ((gameroomref_MoveDone_K1 p1 p2 m2 r1 r3 q3 q4) x).bind some) = φ1 at hm
            unfold gameroomref_MoveDone_L1 at hm
            dsimp only at hF hS hm
            refine seq_cut (fun a w => Fr 221 [pl 2 (.pointer (some ⟨g1, 0, none⟩)), pl 3 (.pointer (some ⟨g2, 0, none⟩)), pl 4 (.pointer (some ⟨g3, 0, none⟩)), pl 5 (.pointer (some ⟨g4, 0, none⟩)), pl 7 (.int .i64 (geti p1 m1)), pl 8 (.bool (r3 == 1)), pl 10 (.slice g5 4 4), pl 11 (.slice g6 4 4), pl 12 (.int .i64 n2)] a ∧ Sep w0 B w (blk g1 75 #[.slice A1 p1.length c1, .int .i64 p2, .int .i64 p3, .int .i64 p4, .int .i64 p5, .int .i64 p6] :: blk g2 88 #[.int .i64 m1, .int .i64 m2, .int .i64 m3] :: blk g3 75 #[.slice none 0 0, .int .i64 0, .int .i64 0, .int .i64 0, .int .i64 0, .int .i64 0] :: blk g4 75 #[.slice A2 r1.1.length c2, .int .i64 (w64 (1 - p2)), .int .i64 q5, .int .i64 q4, .int .i64 r1.2.2.2.2.1, .int .i64 r1.2.2.2.2.2] :: own 3 (.slice A2 r1.1.length c2) (vI q3) :: own 3 (.slice g5 4 4) (vI ([4, 4, 60, 60] : List Int)) :: own 3 (.slice g6 4 4) (vI ([7, 0, 63, 56] : List Int)) :: fs) ∧ ((gameroomref_MoveDone_J7 p1 p2 m1 m2 q5 n2)).bind φ1 = some r) ?_ ?_
            · rintro a w ⟨hF, hS, hm⟩
              unfold gameroomref_MoveDone_J7 at hm
              refine seq_cut (fun a w => ∃ (q7 : Int), Fr 221 [pl 2 (.pointer (some ⟨g1, 0, none⟩)), pl 3 (.pointer (some ⟨g2, 0, none⟩)), pl 4 (.pointer (some ⟨g3, 0, none⟩)), pl 5 (.pointer (some ⟨g4, 0, none⟩)), pl 7 (.int .i64 (geti p1 m1)), pl 8 (.bool (r3 == 1)), pl 10 (.slice g5 4 4), pl 11 (.slice g6 4 4), pl 12 (.int .i64 n2)] a ∧ Sep w0 B w (blk g1 75 #[.slice A1 p1.length c1, .int .i64 p2, .int .i64 p3, .int .i64 p4, .int .i64 p5, .int .i64 p6] :: blk g2 88 #[.int .i64 m1, .int .i64 m2, .int .i64 m3] :: blk g3 75 #[.slice none 0 0, .int .i64 0, .int .i64 0, .int .i64 0, .int .i64 0, .int .i64 0] :: blk g4 75 #[.slice A2 r1.1.length c2, .int .i64 (w64 (1 - p2)), .int .i64 q7, .int .i64 q4, .int .i64 r1.2.2.2.2.1, .int .i64 r1.2.2.2.2.2] :: own 3 (.slice A2 r1.1.length c2) (vI q3) :: own 3 (.slice g5 4 4) (vI ([4, 4, 60, 60] : List Int)) :: own 3 (.slice g6 4 4) (vI ([7, 0, 63, 56] : List Int)) :: fs) ∧ ((gameroomref_MoveDone_J8 n2) q7).bind φ1 = some r) ?_ ?_
              · rintro a w ⟨q7, hF, hS, hm⟩
                unfold gameroomref_MoveDone_J8 at hm
                refine reg1 [] [] [2, 3, 4, 5, 7, 8, 10, 11, 12] [pl 2 (.pointer (some ⟨g1, 0, none⟩)), pl 3 (.pointer (some ⟨g2, 0, none⟩)), pl 4 (.pointer (some ⟨g3, 0, none⟩)), pl 5 (.pointer (some ⟨g4, 0, none⟩)), pl 7 (.int .i64 (geti p1 m1)), pl 8 (.bool (r3 == 1)), pl 10 (.slice g5 4 4), pl 11 (.slice g6 4 4), pl 12 (.int .i64 (w64 (n2 + 1)))] hF hS Fol (by kernel_rfl) (by kernel_rfl) (by kernel_rfl) ?_ (fun a w hF hS => ?_)
                · exact obs_nil
                refine then_n ?_
                rw [← hφ1] at hm
                exact ⟨(q7, (w64 (n2 + 1))), ⟨hF.weak [2, 3, 4, 5, 7, 8, 10, 11, 12] (by kernel_rfl), hS⟩, hm⟩
              · refine wpIn_block ?_
                obtain ⟨hp9, hm⟩ := asrt_b hm
                obtain ⟨hp10, hm⟩ := asrt_b hm
                obtain ⟨r7, hr7, hm⟩ := call_b hm
                obtain ⟨hp11, hm⟩ := asrt_b hm
                refine reg [⟨false, [], vS (Instr.loadAt 3 (.pointer (some ⟨g2, 0, none⟩))), .int .i64 m1⟩, ⟨true, [], vS (Instr.indexAt 27 (.slice g6 4 4) (.int .i64 n2)), .pointer (some (sAddr g6 n2))⟩, ⟨false, [], vS (Instr.loadAt 3 (.pointer (some (sAddr g6 n2)))), .int .i64 (geti ([7, 0, 63, 56] : List Int) n2)⟩, ⟨false, [((m1 == (geti ([7, 0, 63, 56] : List Int) n2)), false)], vS (Instr.loadAt 3 (.pointer (some ⟨g2, 1, none⟩))), .int .i64 m2⟩, ⟨true, [((m1 == (geti ([7, 0, 63, 56] : List Int) n2)), false)], vS (Instr.indexAt 27 (.slice g6 4 4) (.int .i64 n2)), .pointer (some (sAddr g6 n2))⟩, ⟨false, [((m1 == (geti ([7, 0, 63, 56] : List Int) n2)), false)], vS (Instr.loadAt 3 (.pointer (some (sAddr g6 n2)))), .int .i64 (geti ([7, 0, 63, 56] : List Int) n2)⟩, ⟨false, [((m1 == (geti ([7, 0, 63, 56] : List Int) n2)) || (m2 == (geti ([7, 0, 63, 56] : List Int) n2)), false)], callFunc 129 #[.int .i64 (geti p1 m1)], .int .i64 r7⟩, ⟨false, [((r7 == 6), true), ((m1 == (geti ([7, 0, 63, 56] : List Int) n2)) || (m2 == (geti ([7, 0, 63, 56] : List Int) n2)), false)], vS (Instr.loadAt 3 (.pointer (some ⟨g1, 1, none⟩))), .int .i64 p2⟩, ⟨true, [((r7 == 6) && ((w64 (Int.tdiv n2 2)) == p2), true), ((m1 == (geti ([7, 0, 63, 56] : List Int) n2)) || (m2 == (geti ([7, 0, 63, 56] : List Int) n2)), false)], vS (Instr.indexAt 27 (.slice g5 4 4) (.int .i64 n2)), .pointer (some (sAddr g5 n2))⟩, ⟨false, [((r7 == 6) && ((w64 (Int.tdiv n2 2)) == p2), true), ((m1 == (geti ([7, 0, 63, 56] : List Int) n2)) || (m2 == (geti ([7, 0, 63, 56] : List Int) n2)), false)], vS (Instr.loadAt 3 (.pointer (some (sAddr g5 n2)))), .int .i64 (geti ([4, 4, 60, 60] : List Int) n2)⟩] [none, some (.int .i64 m1), none, none, some (.pointer (some (sAddr g6 n2))), some (.int .i64 (geti ([7, 0, 63, 56] : List Int) n2)), none, none, none, some (.int .i64 m2), none, none, some (.pointer (some (sAddr g6 n2))), some (.int .i64 (geti ([7, 0, 63, 56] : List Int) n2)), none, none, none, none, some (.int .i64 r7), none, none, none, none, none, some (.int .i64 p2), none, none, none, none, none, some (.pointer (some (sAddr g5 n2))), some (.int .i64 (geti ([4, 4, 60, 60] : List Int) n2)), none, none, none, none] [2, 3, 4, 5, 7, 8, 10, 11, 12, 13] [pl 2 (.pointer (some ⟨g1, 0, none⟩)), pl 3 (.pointer (some ⟨g2, 0, none⟩)), pl 4 (.pointer (some ⟨g3, 0, none⟩)), pl 5 (.pointer (some ⟨g4, 0, none⟩)), pl 7 (.int .i64 (geti p1 m1)), pl 8 (.bool (r3 == 1)), pl 10 (.slice g5 4 4), pl 11 (.slice g6 4 4), pl 12 (.int .i64 n2), pl 13 (.bool (((m1 == (geti ([7, 0, 63, 56] : List Int) n2)) || (m2 == (geti ([7, 0, 63, 56] : List Int) n2))) || (((r7 == 6) && ((w64 (Int.tdiv n2 2)) == p2)) && (decide ((0 : Int) ≤ (geti ([4, 4, 60, 60] : List Int) n2))))))] hF hS Fol (by kernel_rfl) (by kernel_rfl) (by kernel_rfl) ?_ (fun a w hF hS => ?_)
                · exact obs_cons (ob_load Agg3 (fun _ _ hS => (hS.at_ 1 rfl).cell rfl)) <| obs_cons (ob_ix1 (f := (Value.int .i64)) (m := ([7, 0, 63, 56] : List Int)) Und27 hi3 hs3 (hS.at_ 6 rfl).rd ((hS.at_ 6 rfl).len1) (fun _ => hp9)) <| obs_cons (ob_get1 (n := 4) (m := ([7, 0, 63, 56] : List Int)) (Value.int .i64) (0 : Int) Agg3 (fun _ hS => ⟨_, (hS.at_ 6 rfl).rd⟩) (fun _ hS => ((hS.at_ 6 rfl).len1)) (fun _ => hp9)) <| obs_cons (ob_load Agg3 (fun _ _ hS => (hS.at_ 1 rfl).cell rfl)) <| obs_cons (ob_ix1 (f := (Value.int .i64)) (m := ([7, 0, 63, 56] : List Int)) Und27 hi3 hs3 (hS.at_ 6 rfl).rd ((hS.at_ 6 rfl).len1) (fun hy => hp10 (hy ((m1 == (geti ([7, 0, 63, 56] : List Int) n2)), false) (by simp)))) <| obs_cons (ob_get1 (n := 4) (m := ([7, 0, 63, 56] : List Int)) (Value.int .i64) (0 : Int) Agg3 (fun _ hS => ⟨_, (hS.at_ 6 rfl).rd⟩) (fun _ hS => ((hS.at_ 6 rfl).len1)) (fun hy => hp10 (hy ((m1 == (geti ([7, 0, 63, 56] : List Int) n2)), false) (by simp)))) <| obs_cons (ob_call Try.func129 (by kernel_rfl) rfl (fun hy _ hS => gameroomref_size_w (ite_some hr7 (by rw [show ((m1 == (geti ([7, 0, 63, 56] : List Int) n2)) || (m2 == (geti ([7, 0, 63, 56] : List Int) n2))) = false from hy ((m1 == (geti ([7, 0, 63, 56] : List Int) n2)) || (m2 == (geti ([7, 0, 63, 56] : List Int) n2)), false) (by simp)]; try rfl)) hS )) <| obs_cons (ob_load Agg3 (fun _ _ hS => (hS.at_ 0 rfl).cell rfl)) <| obs_cons (ob_ix1 (f := (Value.int .i64)) (m := ([4, 4, 60, 60] : List Int)) Und27 hi3 hs3 (hS.at_ 5 rfl).rd ((hS.at_ 5 rfl).len1) (fun hy => hp11 (hy ((r7 == 6) && ((w64 (Int.tdiv n2 2)) == p2), true) (by simp)) (hy ((m1 == (geti ([7, 0, 63, 56] : List Int) n2)) || (m2 == (geti ([7, 0, 63, 56] : List Int) n2)), false) (by simp)))) <| obs_cons (ob_get1 (n := 4) (m := ([4, 4, 60, 60] : List Int)) (Value.int .i64) (0 : Int) Agg3 (fun _ hS => ⟨_, (hS.at_ 5 rfl).rd⟩) (fun _ hS => ((hS.at_ 5 rfl).len1)) (fun hy => hp11 (hy ((r7 == 6) && ((w64 (Int.tdiv n2 2)) == p2), true) (by simp)) (hy ((m1 == (geti ([7, 0, 63, 56] : List Int) n2)) || (m2 == (geti ([7, 0, 63, 56] : List Int) n2)), false) (by simp)))) <| obs_nil
                obtain ⟨hp12, hm⟩ := asrt_b hm
                refine reg [⟨false, [(((m1 == (geti ([7, 0, 63, 56] : List Int) n2)) || (m2 == (geti ([7, 0, 63, 56] : List Int) n2))) || (((r7 == 6) && ((w64 (Int.tdiv n2 2)) == p2)) && (decide ((0 : Int) ≤ (geti ([4, 4, 60, 60] : List Int) n2)))), true)], vS (Instr.loadAt 3 (.pointer (some ⟨g4, 2, none⟩))), .int .i64 q5⟩, ⟨true, [(((m1 == (geti ([7, 0, 63, 56] : List Int) n2)) || (m2 == (geti ([7, 0, 63, 56] : List Int) n2))) || (((r7 == 6) && ((w64 (Int.tdiv n2 2)) == p2)) && (decide ((0 : Int) ≤ (geti ([4, 4, 60, 60] : List Int) n2)))), true)], vS (Op.shift .shr .i64 q5 .i64 n2), .int .i64 (shrK .i64 q5 n2)⟩] [none, none, none, some (.int .i64 q5), none, some (.int .i64 (shrK .i64 q5 n2)), none, none, none] [2, 3, 4, 5, 7, 8, 10, 11, 12, 182] [pl 2 (.pointer (some ⟨g1, 0, none⟩)), pl 3 (.pointer (some ⟨g2, 0, none⟩)), pl 4 (.pointer (some ⟨g3, 0, none⟩)), pl 5 (.pointer (some ⟨g4, 0, none⟩)), pl 7 (.int .i64 (geti p1 m1)), pl 8 (.bool (r3 == 1)), pl 10 (.slice g5 4 4), pl 11 (.slice g6 4 4), pl 12 (.int .i64 n2), pl 182 (.bool ((((m1 == (geti ([7, 0, 63, 56] : List Int) n2)) || (m2 == (geti ([7, 0, 63, 56] : List Int) n2))) || (((r7 == 6) && ((w64 (Int.tdiv n2 2)) == p2)) && (decide ((0 : Int) ≤ (geti ([4, 4, 60, 60] : List Int) n2))))) && ((bAnd (shrK .i64 q5 n2) 1) == 1)))] hF hS Fol (by kernel_rfl) (by kernel_rfl) (by kernel_rfl) ?_ (fun a w hF hS => ?_)
                · exact obs_cons (ob_load Agg3 (fun _ _ hS => (hS.at_ 3 rfl).cell rfl)) <| obs_cons (ob_shr (fun hy => hp12 (hy (((m1 == (geti ([7, 0, 63, 56] : List Int) n2)) || (m2 == (geti ([7, 0, 63, 56] : List Int) n2))) || (((r7 == 6) && ((w64 (Int.tdiv n2 2)) == p2)) && (decide ((0 : Int) ≤ (geti ([4, 4, 60, 60] : List Int) n2)))), true) (by simp)))) <| obs_nil
                refine cond_ev (t := 182) (b := (((m1 == (geti ([7, 0, 63, 56] : List Int) n2)) || (m2 == (geti ([7, 0, 63, 56] : List Int) n2))) || (((r7 == 6) && ((w64 (Int.tdiv n2 2)) == p2)) && (decide ((0 : Int) ≤ (geti ([4, 4, 60, 60] : List Int) n2))))) && ((bAnd (shrK .i64 q5 n2) 1) == 1)) hF (by kernel_rfl) (fun hb => ?_) (fun hb => ?_)
                · replace hm := if_t hm hb
                  obtain ⟨hp13, hm⟩ := asrt_b hm
                  refine regMix4 [0, 1, 2, 3, 4, 5] [6] [⟨false, [], vS (Instr.loadAt 3 (.pointer (some ⟨g4, 2, none⟩))), .int .i64 q5⟩, ⟨true, [], vS (Op.shift .shl .i64 1 .i64 n2), .int .i64 (shlK .i64 1 n2)⟩] [none, some (.int .i64 q5), none, some (.int .i64 (shlK .i64 1 n2)), none, none] [2, 3, 4, 5, 7, 8, 10, 11, 12, 187, 188] [pl 2 (.pointer (some ⟨g1, 0, none⟩)), pl 3 (.pointer (some ⟨g2, 0, none⟩)), pl 4 (.pointer (some ⟨g3, 0, none⟩)), pl 5 (.pointer (some ⟨g4, 0, none⟩)), pl 7 (.int .i64 (geti p1 m1)), pl 8 (.bool (r3 == 1)), pl 10 (.slice g5 4 4), pl 11 (.slice g6 4 4), pl 12 (.int .i64 n2), pl 187 (.int .i64 (w64 (q5 - (shlK .i64 1 n2)))), pl 188 (.pointer (some ⟨g4, 2, none⟩))] hF hS Fol (by kernel_rfl) (by kernel_rfl) (by kernel_rfl) (by kernel_rfl) (by kernel_rfl) ?_ (fun a w hF hS => ?_)
                  · exact obs_cons (ob_load Agg3 (fun _ _ hS => (hS.at_ 3 rfl).cell rfl)) <| obs_cons (ob_shl (fun _ => hp13)) <| obs_nil
                  obtain ⟨w, hrun, hS⟩ := run_put (P := Try.prog) (t := 3) (u := .int .i64 (w64 (q5 - (shlK .i64 1 n2)))) (i := 2) (hS.at_ 3 rfl) hi3 hs3 rfl (Nat.lt_of_lt_of_eq (Nat.lt_of_succ_le (Nat.le_of_ble_eq_true (by kernel_rfl))) rfl)
                  refine at_skip hF (by kernel_rfl) hrun ?_
                  have hS : Sep w0 B w (blk g1 75 #[.slice A1 p1.length c1, .int .i64 p2, .int .i64 p3, .int .i64 p4, .int .i64 p5, .int .i64 p6] :: blk g2 88 #[.int .i64 m1, .int .i64 m2, .int .i64 m3] :: blk g3 75 #[.slice none 0 0, .int .i64 0, .int .i64 0, .int .i64 0, .int .i64 0, .int .i64 0] :: blk g4 75 #[.slice A2 r1.1.length c2, .int .i64 (w64 (1 - p2)), .int .i64 (w64 (q5 - (shlK .i64 1 n2))), .int .i64 q4, .int .i64 r1.2.2.2.2.1, .int .i64 r1.2.2.2.2.2] :: own 3 (.slice A2 r1.1.length c2) (vI q3) :: own 3 (.slice g5 4 4) (vI ([4, 4, 60, 60] : List Int)) :: own 3 (.slice g6 4 4) (vI ([7, 0, 63, 56] : List Int)) :: fs) := hS
                  refine at_end [2, 3, 4, 5, 7, 8, 10, 11, 12] [pl 2 (.pointer (some ⟨g1, 0, none⟩)), pl 3 (.pointer (some ⟨g2, 0, none⟩)), pl 4 (.pointer (some ⟨g3, 0, none⟩)), pl 5 (.pointer (some ⟨g4, 0, none⟩)), pl 7 (.int .i64 (geti p1 m1)), pl 8 (.bool (r3 == 1)), pl 10 (.slice g5 4 4), pl 11 (.slice g6 4 4), pl 12 (.int .i64 n2)] hF rfl (by kernel_rfl) (fun hF => ?_)
                  refine np_n ?_
                  refine block_n ?_
                  refine then_n ?_
                  exact ⟨(w64 (q5 - (shlK .i64 1 n2))), hF.weak [2, 3, 4, 5, 7, 8, 10, 11, 12] (by kernel_rfl), hS, hm⟩
                · replace hm := if_f hm hb
                  refine wpIn_skip ?_
                  refine block_n ?_
                  refine then_n ?_
                  exact ⟨q5, hF.weak [2, 3, 4, 5, 7, 8, 10, 11, 12] (by kernel_rfl), hS, hm⟩
            · refine reg [] [] [2, 3, 4, 5, 7, 8, 10, 11, 12, 136] [pl 2 (.pointer (some ⟨g1, 0, none⟩)), pl 3 (.pointer (some ⟨g2, 0, none⟩)), pl 4 (.pointer (some ⟨g3, 0, none⟩)), pl 5 (.pointer (some ⟨g4, 0, none⟩)), pl 7 (.int .i64 (geti p1 m1)), pl 8 (.bool (r3 == 1)), pl 10 (.slice g5 4 4), pl 11 (.slice g6 4 4), pl 12 (.int .i64 n2), pl 136 (.bool (decide (n2 < 4)))] hF hS Fol (by kernel_rfl) (by kernel_rfl) (by kernel_rfl) ?_ (fun a w hF hS => ?_)
              · exact obs_nil
              refine cond_ev (t := 136) (b := decide (n2 < 4)) hF (by kernel_rfl) (fun hb => ?_) (fun hb => ?_)
              · replace hm := if_t hm hb
                refine wpIn_skip ?_
                refine then_n ?_
                exact ⟨hF.weak [2, 3, 4, 5, 7, 8, 10, 11, 12] (by kernel_rfl), hS, hm⟩
              · replace hm := if_f hm hb
                refine wpIn_exit ?_
                refine then_e (then_e (block_e (then_n ?_)))
                have hS := hS.pickN 7 [0, 1, 2, 3, 4] (by decide)
                rw [← hφ1] at hm
                replace hm := done_b hm
                unfold gameroomref_MoveDone_K1 at hm
                try dsimp only at hm
                have hm : ((gameroomref_MoveDone_J6 p1 p2 m2 r1 r3 q3 q4) q5).bind some = some r := hm
                exact ⟨q5, hF.weak [2, 3, 4, 5, 8] (by kernel_rfl), hS, hm⟩
        · obtain ⟨r6, hr6, hm⟩ := call_b hm
          refine reg [⟨false, [((r3 == 1), true)], vS (Instr.loadAt 3 (.pointer (some ⟨g2, 1, none⟩))), .int .i64 m2⟩, ⟨false, [((r3 == 1), true)], vS (Instr.loadAt 3 (.pointer (some ⟨g2, 0, none⟩))), .int .i64 m1⟩, ⟨false, [((r3 == 1), true)], callFunc 129 #[.int .i64 (w64 (m2 - m1))], .int .i64 r6⟩] [none, none, none, some (.int .i64 m2), none, some (.int .i64 m1), none, some (.int .i64 r6), none, none] [2, 3, 4, 5, 7, 8, 125] [pl 2 (.pointer (some ⟨g1, 0, none⟩)), pl 3 (.pointer (some ⟨g2, 0, none⟩)), pl 4 (.pointer (some ⟨g3, 0, none⟩)), pl 5 (.pointer (some ⟨g4, 0, none⟩)), pl 7 (.int .i64 (geti p1 m1)), pl 8 (.bool (r3 == 1)), pl 125 (.bool ((r3 == 1) && (r6 == 16)))] hF hS Fol (by kernel_rfl) (by kernel_rfl) (by kernel_rfl) ?_ (fun a w hF hS => ?_)
          · exact obs_cons (ob_load Agg3 (fun _ _ hS => (hS.at_ 1 rfl).cell rfl)) <| obs_cons (ob_load Agg3 (fun _ _ hS => (hS.at_ 1 rfl).cell rfl)) <| obs_cons (ob_call Try.func129 (by kernel_rfl) rfl (fun hy _ hS => gameroomref_size_w (ite_some hr6 (by rw [show (r3 == 1) = true from hy ((r3 == 1), true) (by simp)]; try rfl)) hS )) <| obs_nil
          refine cond_ev (t := 125) (b := (r3 == 1) && (r6 == 16)) hF (by kernel_rfl) (fun hb => ?_) (fun hb => ?_)
          · replace hm := if_t hm hb
            refine oneR ?_
            refine at_run 7 [⟨false, [], vS (Instr.loadAt 3 (.pointer (some ⟨g2, 0, none⟩))), .int .i64 m1⟩, ⟨false, [], vS (Instr.loadAt 3 (.pointer (some ⟨g2, 1, none⟩))), .int .i64 m2⟩] [none, some (.int .i64 m1), none, some (.int .i64 m2), none, none, none] [2, 3, 4, 5, 7, 8, 131, 132] [pl 2 (.pointer (some ⟨g1, 0, none⟩)), pl 3 (.pointer (some ⟨g2, 0, none⟩)), pl 4 (.pointer (some ⟨g3, 0, none⟩)), pl 5 (.pointer (some ⟨g4, 0, none⟩)), pl 7 (.int .i64 (geti p1 m1)), pl 8 (.bool (r3 == 1)), pl 131 (.int .i64 (w64 (Int.tdiv (w64 (m1 + m2)) 2))), pl 132 (.pointer (some ⟨g4, 3, none⟩))] hF hS (by kernel_rfl) (by kernel_rfl) ?_ (fun a w hF hS => ?_)
            · exact obs_cons (ob_load Agg3 (fun _ _ hS => (hS.at_ 1 rfl).cell rfl)) <| obs_cons (ob_load Agg3 (fun _ _ hS => (hS.at_ 1 rfl).cell rfl)) <| obs_nil
            obtain ⟨w, hrun, hS⟩ := run_put (P := Try.prog) (t := 3) (u := .int .i64 (w64 (Int.tdiv (w64 (m1 + m2)) 2))) (i := 3) (hS.at_ 3 rfl) hi3 hs3 rfl (Nat.lt_of_lt_of_eq (Nat.lt_of_succ_le (Nat.le_of_ble_eq_true (by kernel_rfl))) rfl)
            refine at_skip hF (by kernel_rfl) hrun ?_
            have hS : Sep w0 B w (blk g1 75 #[.slice A1 p1.length c1, .int .i64 p2, .int .i64 p3, .int .i64 p4, .int .i64 p5, .int .i64 p6] :: blk g2 88 #[.int .i64 m1, .int .i64 m2, .int .i64 m3] :: blk g3 75 #[.slice none 0 0, .int .i64 0, .int .i64 0, .int .i64 0, .int .i64 0, .int .i64 0] :: blk g4 75 #[.slice A2 r1.1.length c2, .int .i64 (w64 (1 - p2)), .int .i64 r1.2.2.1, .int .i64 (w64 (Int.tdiv (w64 (m1 + m2)) 2)), .int .i64 r1.2.2.2.2.1, .int .i64 r1.2.2.2.2.2] :: own 3 (.slice A2 r1.1.length c2) (vI q3) :: fs) := hS
            refine at_end [2, 3, 4, 5, 7, 8] [pl 2 (.pointer (some ⟨g1, 0, none⟩)), pl 3 (.pointer (some ⟨g2, 0, none⟩)), pl 4 (.pointer (some ⟨g3, 0, none⟩)), pl 5 (.pointer (some ⟨g4, 0, none⟩)), pl 7 (.int .i64 (geti p1 m1)), pl 8 (.bool (r3 == 1))] hF rfl (by kernel_rfl) (fun hF => ?_)
            refine then_n ?_
            exact ⟨(w64 (Int.tdiv (w64 (m1 + m2)) 2)), hF.weak [2, 3, 4, 5, 7, 8] (by kernel_rfl), hS, hm⟩
          · replace hm := if_f hm hb
            refine wpIn_skip ?_
            refine then_n ?_
            exact ⟨(-1), hF.weak [2, 3, 4, 5, 7, 8] (by kernel_rfl), hS, hm⟩
      · obtain ⟨r4, hr4, hm⟩ := call_b hm
        obtain ⟨r5, hr5, hm⟩ := call_b hm
        refine reg [⟨false, [], callFunc 129 #[.int .i64 (geti p1 m1)], .int .i64 r4⟩, ⟨false, [((r4 == 6), true)], vS (Instr.loadAt 3 (.pointer (some ⟨g2, 1, none⟩))), .int .i64 m2⟩, ⟨false, [((r4 == 6), true)], vS (Instr.loadAt 3 (.pointer (some ⟨g2, 0, none⟩))), .int .i64 m1⟩, ⟨false, [((r4 == 6), true)], callFunc 129 #[.int .i64 (w64 (m2 - m1))], .int .i64 r5⟩] [none, some (.int .i64 r4), none, none, none, some (.int .i64 m2), none, some (.int .i64 m1), none, some (.int .i64 r5), none, none] [2, 3, 4, 5, 7, 8, 78] [pl 2 (.pointer (some ⟨g1, 0, none⟩)), pl 3 (.pointer (some ⟨g2, 0, none⟩)), pl 4 (.pointer (some ⟨g3, 0, none⟩)), pl 5 (.pointer (some ⟨g4, 0, none⟩)), pl 7 (.int .i64 (geti p1 m1)), pl 8 (.bool (r3 == 1)), pl 78 (.bool ((r4 == 6) && (r5 == 2)))] hF hS Fol (by kernel_rfl) (by kernel_rfl) (by kernel_rfl) ?_ (fun a w hF hS => ?_)
        · exact obs_cons (ob_call Try.func129 (by kernel_rfl) rfl (fun _ _ hS => gameroomref_size_w hr4 hS )) <| obs_cons (ob_load Agg3 (fun _ _ hS => (hS.at_ 1 rfl).cell rfl)) <| obs_cons (ob_load Agg3 (fun _ _ hS => (hS.at_ 1 rfl).cell rfl)) <| obs_cons (ob_call Try.func129 (by kernel_rfl) rfl (fun hy _ hS => gameroomref_size_w (ite_some hr5 (by rw [show (r4 == 6) = true from hy ((r4 == 6), true) (by simp)]; try rfl)) hS )) <| obs_nil
        refine cond_ev (t := 78) (b := (r4 == 6) && (r5 == 2)) hF (by kernel_rfl) (fun hb => ?_) (fun hb => ?_)
        · replace hm := if_t hm hb
          refine reg [⟨false, [], vS (Instr.loadAt 3 (.pointer (some ⟨g2, 0, none⟩))), .int .i64 m1⟩] [none, some (.int .i64 m1), none, none, none, none] [2, 3, 4, 5, 7, 8, 9] [pl 2 (.pointer (some ⟨g1, 0, none⟩)), pl 3 (.pointer (some ⟨g2, 0, none⟩)), pl 4 (.pointer (some ⟨g3, 0, none⟩)), pl 5 (.pointer (some ⟨g4, 0, none⟩)), pl 7 (.int .i64 (geti p1 m1)), pl 8 (.bool (r3 == 1)), pl 9 (.int .i64 (w64 ((w64 ((w64 (Int.tdiv m1 8)) * 8)) + 7)))] hF hS Fol (by kernel_rfl) (by kernel_rfl) (by kernel_rfl) ?_ (fun a w hF hS => ?_)
          · exact obs_cons (ob_load Agg3 (fun _ _ hS => (hS.at_ 1 rfl).cell rfl)) <| obs_nil
          refine seq_cut (fun a w => ∃ (corner1 : Int), Fr 221 [pl 2 (.pointer (some ⟨g1, 0, none⟩)), pl 3 (.pointer (some ⟨g2, 0, none⟩)), pl 4 (.pointer (some ⟨g3, 0, none⟩)), pl 5 (.pointer (some ⟨g4, 0, none⟩)), pl 7 (.int .i64 (geti p1 m1)), pl 8 (.bool (r3 == 1)), pl 9 (.int .i64 corner1)] a ∧ Sep w0 B w (blk g1 75 #[.slice A1 p1.length c1, .int .i64 p2, .int .i64 p3, .int .i64 p4, .int .i64 p5, .int .i64 p6] :: blk g2 88 #[.int .i64 m1, .int .i64 m2, .int .i64 m3] :: blk g3 75 #[.slice none 0 0, .int .i64 0, .int .i64 0, .int .i64 0, .int .i64 0, .int .i64 0] :: blk g4 75 #[.slice A2 r1.1.length c2, .int .i64 r1.2.1, .int .i64 r1.2.2.1, .int .i64 r1.2.2.2.1, .int .i64 r1.2.2.2.2.1, .int .i64 r1.2.2.2.2.2] :: own 3 (.slice A2 r1.1.length c2) (vI q2) :: fs) ∧ ((gameroomref_MoveDone_J4 p1 p2 m1 m2 r1 r3 q2) corner1).bind some = some r) ?_ ?_
          · rintro a w ⟨corner1, hF, hS, hm⟩
            unfold gameroomref_MoveDone_J4 at hm
            refine wpIn_seq ?_
            obtain ⟨hp6, hm⟩ := asrt_b hm
            obtain ⟨hp7, hm⟩ := asrt_b hm
            refine regMix4 [0, 1, 2, 3, 4, 5, 6, 7, 8, 9, 10, 11, 12, 13] [14] [⟨false, [], vS (Instr.loadAt 27 (.pointer (some ⟨g4, 0, none⟩))), .slice A2 r1.1.length c2⟩, ⟨false, [], vS (Instr.loadAt 3 (.pointer (some ⟨g2, 0, none⟩))), .int .i64 m1⟩, ⟨false, [], vS (Instr.loadAt 3 (.pointer (some ⟨g2, 1, none⟩))), .int .i64 m2⟩, ⟨false, [], vS (Instr.loadAt 27 (.pointer (some ⟨g4, 0, none⟩))), .slice A2 r1.1.length c2⟩, ⟨true, [], vS (Instr.indexAt 27 (.slice A2 r1.1.length c2) (.int .i64 corner1)), .pointer (some (sAddr A2 corner1))⟩, ⟨false, [], vS (Instr.loadAt 3 (.pointer (some (sAddr A2 corner1)))), .int .i64 (geti q2 corner1)⟩, ⟨true, [], vS (Instr.indexAt 27 (.slice A2 r1.1.length c2) (.int .i64 (w64 (Int.tdiv (w64 (m1 + m2)) 2)))), .pointer (some (sAddr A2 (w64 (Int.tdiv (w64 (m1 + m2)) 2))))⟩] [none, some (.slice A2 r1.1.length c2), none, some (.int .i64 m1), none, some (.int .i64 m2), none, none, none, some (.slice A2 r1.1.length c2), none, some (.pointer (some (sAddr A2 corner1))), some (.int .i64 (geti q2 corner1)), some (.pointer (some (sAddr A2 (w64 (Int.tdiv (w64 (m1 + m2)) 2)))))] [2, 3, 4, 5, 7, 8, 9, 105, 106] [pl 2 (.pointer (some ⟨g1, 0, none⟩)), pl 3 (.pointer (some ⟨g2, 0, none⟩)), pl 4 (.pointer (some ⟨g3, 0, none⟩)), pl 5 (.pointer (some ⟨g4, 0, none⟩)), pl 7 (.int .i64 (geti p1 m1)), pl 8 (.bool (r3 == 1)), pl 9 (.int .i64 corner1), pl 105 (.int .i64 (geti q2 corner1)), pl 106 (.pointer (some (sAddr A2 (w64 (Int.tdiv (w64 (m1 + m2)) 2)))))] hF hS Fol (by kernel_rfl) (by kernel_rfl) (by kernel_rfl) (by kernel_rfl) (by kernel_rfl) ?_ (fun a w hF hS => ?_)
            · exact obs_cons (ob_load Agg27 (fun _ _ hS => (hS.at_ 3 rfl).cell rfl)) <| obs_cons (ob_load Agg3 (fun _ _ hS => (hS.at_ 1 rfl).cell rfl)) <| obs_cons (ob_load Agg3 (fun _ _ hS => (hS.at_ 1 rfl).cell rfl)) <| obs_cons (ob_load Agg27 (fun _ _ hS => (hS.at_ 3 rfl).cell rfl)) <| obs_cons (ob_ix1 (f := (Value.int .i64)) (m := q2) Und27 hi3 hs3 (hS.at_ 4 rfl).rd ((hS.at_ 4 rfl).len1) (fun _ => hp6)) <| obs_cons (ob_get1 (n := r1.1.length) (m := q2) (Value.int .i64) (0 : Int) Agg3 (fun _ hS => ⟨_, (hS.at_ 4 rfl).rd⟩) (fun _ hS => ((hS.at_ 4 rfl).len1)) (fun _ => hp6)) <| obs_cons (ob_ix1 (f := (Value.int .i64)) (m := q2) Und27 hi3 hs3 (hS.at_ 4 rfl).rd ((hS.at_ 4 rfl).len1) (fun _ => hp7)) <| obs_nil
            obtain ⟨w, hrun, hS⟩ := run_set1 (P := Try.prog) (t := 3) (x := (geti q2 corner1)) (Value.int .i64) (hS.at_ 4 rfl) hi3 hs3 rfl rfl hp7
            refine at_skip hF (by kernel_rfl) hrun ?_
            have hS : Sep w0 B w (blk g1 75 #[.slice A1 p1.length c1, .int .i64 p2, .int .i64 p3, .int .i64 p4, .int .i64 p5, .int .i64 p6] :: blk g2 88 #[.int .i64 m1, .int .i64 m2, .int .i64 m3] :: blk g3 75 #[.slice none 0 0, .int .i64 0, .int .i64 0, .int .i64 0, .int .i64 0, .int .i64 0] :: blk g4 75 #[.slice A2 r1.1.length c2, .int .i64 r1.2.1, .int .i64 r1.2.2.1, .int .i64 r1.2.2.2.1, .int .i64 r1.2.2.2.2.1, .int .i64 r1.2.2.2.2.2] :: own 3 (.slice A2 r1.1.length c2) (vI (q2.set (Int.toNat (w64 (Int.tdiv (w64 (m1 + m2)) 2))) (geti q2 corner1))) :: fs) := hS
            refine at_end [2, 3, 4, 5, 7, 8, 9] [pl 2 (.pointer (some ⟨g1, 0, none⟩)), pl 3 (.pointer (some ⟨g2, 0, none⟩)), pl 4 (.pointer (some ⟨g3, 0, none⟩)), pl 5 (.pointer (some ⟨g4, 0, none⟩)), pl 7 (.int .i64 (geti p1 m1)), pl 8 (.bool (r3 == 1)), pl 9 (.int .i64 corner1)] hF rfl (by kernel_rfl) (fun hF => ?_)
            refine np_n ?_
            refine then_n ?_
            refine oneR ?_
            obtain ⟨hp8, hm⟩ := asrt_b hm
            refine at_run 4 [⟨false, [], vS (Instr.loadAt 27 (.pointer (some ⟨g4, 0, none⟩))), .slice A2 r1.1.length c2⟩, ⟨true, [], vS (Instr.indexAt 27 (.slice A2 r1.1.length c2) (.int .i64 corner1)), .pointer (some (sAddr A2 corner1))⟩] [none, some (.slice A2 r1.1.length c2), none, some (.pointer (some (sAddr A2 corner1)))] [2, 3, 4, 5, 7, 8, 110] [pl 2 (.pointer (some ⟨g1, 0, none⟩)), pl 3 (.pointer (some ⟨g2, 0, none⟩)), pl 4 (.pointer (some ⟨g3, 0, none⟩)), pl 5 (.pointer (some ⟨g4, 0, none⟩)), pl 7 (.int .i64 (geti p1 m1)), pl 8 (.bool (r3 == 1)), pl 110 (.pointer (some (sAddr A2 corner1)))] hF hS (by kernel_rfl) (by kernel_rfl) ?_ (fun a w hF hS => ?_)
            · exact obs_cons (ob_load Agg27 (fun _ _ hS => (hS.at_ 3 rfl).cell rfl)) <| obs_cons (ob_ix1 (f := (Value.int .i64)) (m := (q2.set (Int.toNat (w64 (Int.tdiv (w64 (m1 + m2)) 2))) (geti q2 corner1))) Und27 hi3 hs3 (hS.at_ 4 rfl).rd ((hS.at_ 4 rfl).len1) (fun _ => hp8)) <| obs_nil
            obtain ⟨w, hrun, hS⟩ := run_set1 (P := Try.prog) (t := 3) (x := 0) (Value.int .i64) (hS.at_ 4 rfl) hi3 hs3 rfl rfl hp8
            refine at_skip hF (by kernel_rfl) hrun ?_
            have hS : Sep w0 B w (blk g1 75 #[.slice A1 p1.length c1, .int .i64 p2, .int .i64 p3, .int .i64 p4, .int .i64 p5, .int .i64 p6] :: blk g2 88 #[.int .i64 m1, .int .i64 m2, .int .i64 m3] :: blk g3 75 #[.slice none 0 0, .int .i64 0, .int .i64 0, .int .i64 0, .int .i64 0, .int .i64 0] :: blk g4 75 #[.slice A2 r1.1.length c2, .int .i64 r1.2.1, .int .i64 r1.2.2.1, .int .i64 r1.2.2.2.1, .int .i64 r1.2.2.2.2.1, .int .i64 r1.2.2.2.2.2] :: own 3 (.slice A2 r1.1.length c2) (vI ((q2.set (Int.toNat (w64 (Int.tdiv (w64 (m1 + m2)) 2))) (geti q2 corner1)).set (Int.toNat corner1) 0)) :: fs) := hS
            refine at_end [2, 3, 4, 5, 7, 8] [pl 2 (.pointer (some ⟨g1, 0, none⟩)), pl 3 (.pointer (some ⟨g2, 0, none⟩)), pl 4 (.pointer (some ⟨g3, 0, none⟩)), pl 5 (.pointer (some ⟨g4, 0, none⟩)), pl 7 (.int .i64 (geti p1 m1)), pl 8 (.bool (r3 == 1))] hF rfl (by kernel_rfl) (fun hF => ?_)
            refine then_n ?_
            exact ⟨((q2.set (Int.toNat (w64 (Int.tdiv (w64 (m1 + m2)) 2))) (geti q2 corner1)).set (Int.toNat corner1) 0), hF.weak [2, 3, 4, 5, 7, 8] (by kernel_rfl), hS, hm⟩
          · refine reg [⟨false, [], vS (Instr.loadAt 3 (.pointer (some ⟨g2, 1, none⟩))), .int .i64 m2⟩, ⟨false, [], vS (Instr.loadAt 3 (.pointer (some ⟨g2, 0, none⟩))), .int .i64 m1⟩] [none, some (.int .i64 m2), none, some (.int .i64 m1), none] [2, 3, 4, 5, 7, 8, 9, 88] [pl 2 (.pointer (some ⟨g1, 0, none⟩)), pl 3 (.pointer (some ⟨g2, 0, none⟩)), pl 4 (.pointer (some ⟨g3, 0, none⟩)), pl 5 (.pointer (some ⟨g4, 0, none⟩)), pl 7 (.int .i64 (geti p1 m1)), pl 8 (.bool (r3 == 1)), pl 9 (.int .i64 (w64 ((w64 ((w64 (Int.tdiv m1 8)) * 8)) + 7))), pl 88 (.bool (decide (m2 < m1)))] hF hS Fol (by kernel_rfl) (by kernel_rfl) (by kernel_rfl) ?_ (fun a w hF hS => ?_)
            · exact obs_cons (ob_load Agg3 (fun _ _ hS => (hS.at_ 1 rfl).cell rfl)) <| obs_cons (ob_load Agg3 (fun _ _ hS => (hS.at_ 1 rfl).cell rfl)) <| obs_nil
            refine cond_ev (t := 88) (b := decide (m2 < m1)) hF (by kernel_rfl) (fun hb => ?_) (fun hb => ?_)
            · replace hm := if_t hm hb
              refine reg1 [⟨false, [], vS (Instr.loadAt 3 (.pointer (some ⟨g2, 0, none⟩))), .int .i64 m1⟩] [none, some (.int .i64 m1), none, none, none] [2, 3, 4, 5, 7, 8, 9] [pl 2 (.pointer (some ⟨g1, 0, none⟩)), pl 3 (.pointer (some ⟨g2, 0, none⟩)), pl 4 (.pointer (some ⟨g3, 0, none⟩)), pl 5 (.pointer (some ⟨g4, 0, none⟩)), pl 7 (.int .i64 (geti p1 m1)), pl 8 (.bool (r3 == 1)), pl 9 (.int .i64 (w64 ((w64 (Int.tdiv m1 8)) * 8)))] hF hS Fol (by kernel_rfl) (by kernel_rfl) (by kernel_rfl) ?_ (fun a w hF hS => ?_)
              · exact obs_cons (ob_load Agg3 (fun _ _ hS => (hS.at_ 1 rfl).cell rfl)) <| obs_nil
              refine then_n ?_
              exact ⟨(w64 ((w64 (Int.tdiv m1 8)) * 8)), hF.weak [2, 3, 4, 5, 7, 8, 9] (by kernel_rfl), hS, hm⟩
            · replace hm := if_f hm hb
              refine wpIn_skip ?_
              refine then_n ?_
              exact ⟨(w64 ((w64 ((w64 (Int.tdiv m1 8)) * 8)) + 7)), hF.weak [2, 3, 4, 5, 7, 8, 9] (by kernel_rfl), hS, hm⟩
        · replace hm := if_f hm hb
          refine wpIn_skip ?_
          refine then_n ?_
          exact ⟨q2, hF.weak [2, 3, 4, 5, 7, 8] (by kernel_rfl), hS, hm⟩
    · refine reg [⟨false, [((r3 == 1), true)], vS (Instr.loadAt 3 (.pointer (some ⟨g2, 1, none⟩))), .int .i64 m2⟩, ⟨false, [((r3 == 1), true)], vS (Instr.loadAt 3 (.pointer (some ⟨g1, 3, none⟩))), .int .i64 p4⟩] [none, none, none, some (.int .i64 m2), none, some (.int .i64 p4), none, none] [2, 3, 4, 5, 6, 7, 8, 58] [pl 2 (.pointer (some ⟨g1, 0, none⟩)), pl 3 (.pointer (some ⟨g2, 0, none⟩)), pl 4 (.pointer (some ⟨g3, 0, none⟩)), pl 5 (.pointer (some ⟨g4, 0, none⟩)), pl 6 (.int .i64 r2), pl 7 (.int .i64 (geti p1 m1)), pl 8 (.bool (r3 == 1)), pl 58 (.bool ((r3 == 1) && (m2 == p4)))] hF hS Fol (by kernel_rfl) (by kernel_rfl) (by kernel_rfl) ?_ (fun a w hF hS => ?_)
      · exact obs_cons (ob_load Agg3 (fun _ _ hS => (hS.at_ 1 rfl).cell rfl)) <| obs_cons (ob_load Agg3 (fun _ _ hS => (hS.at_ 0 rfl).cell rfl)) <| obs_nil
      refine cond_ev (t := 58) (b := (r3 == 1) && (m2 == p4)) hF (by kernel_rfl) (fun hb => ?_) (fun hb => ?_)
      · replace hm := if_t hm hb
        refine oneR ?_
        obtain ⟨hp5, hm⟩ := asrt_b hm
        refine at_run 8 [⟨false, [], vS (Instr.loadAt 27 (.pointer (some ⟨g4, 0, none⟩))), .slice A2 r1.1.length c2⟩, ⟨false, [], vS (Instr.loadAt 3 (.pointer (some ⟨g2, 1, none⟩))), .int .i64 m2⟩, ⟨true, [], vS (Instr.indexAt 27 (.slice A2 r1.1.length c2) (.int .i64 (w64 (m2 - (w64 (8 * r2)))))), .pointer (some (sAddr A2 (w64 (m2 - (w64 (8 * r2))))))⟩] [none, some (.slice A2 r1.1.length c2), none, some (.int .i64 m2), none, none, none, some (.pointer (some (sAddr A2 (w64 (m2 - (w64 (8 * r2)))))))] [2, 3, 4, 5, 7, 8, 66] [pl 2 (.pointer (some ⟨g1, 0, none⟩)), pl 3 (.pointer (some ⟨g2, 0, none⟩)), pl 4 (.pointer (some ⟨g3, 0, none⟩)), pl 5 (.pointer (some ⟨g4, 0, none⟩)), pl 7 (.int .i64 (geti p1 m1)), pl 8 (.bool (r3 == 1)), pl 66 (.pointer (some (sAddr A2 (w64 (m2 - (w64 (8 * r2)))))))] hF hS (by kernel_rfl) (by kernel_rfl) ?_ (fun a w hF hS => ?_)
        · exact obs_cons (ob_load Agg27 (fun _ _ hS => (hS.at_ 3 rfl).cell rfl)) <| obs_cons (ob_load Agg3 (fun _ _ hS => (hS.at_ 1 rfl).cell rfl)) <| obs_cons (ob_ix1 (f := (Value.int .i64)) (m := q1) Und27 hi3 hs3 (hS.at_ 4 rfl).rd ((hS.at_ 4 rfl).len1) (fun _ => hp5)) <| obs_nil
        obtain ⟨w, hrun, hS⟩ := run_set1 (P := Try.prog) (t := 3) (x := 0) (Value.int .i64) (hS.at_ 4 rfl) hi3 hs3 rfl rfl hp5
        refine at_skip hF (by kernel_rfl) hrun ?_
        have hS : Sep w0 B w (blk g1 75 #[.slice A1 p1.length c1, .int .i64 p2, .int .i64 p3, .int .i64 p4, .int .i64 p5, .int .i64 p6] :: blk g2 88 #[.int .i64 m1, .int .i64 m2, .int .i64 m3] :: blk g3 75 #[.slice none 0 0, .int .i64 0, .int .i64 0, .int .i64 0, .int .i64 0, .int .i64 0] :: blk g4 75 #[.slice A2 r1.1.length c2, .int .i64 r1.2.1, .int .i64 r1.2.2.1, .int .i64 r1.2.2.2.1, .int .i64 r1.2.2.2.2.1, .int .i64 r1.2.2.2.2.2] :: own 3 (.slice A2 r1.1.length c2) (vI (q1.set (Int.toNat (w64 (m2 - (w64 (8 * r2))))) 0)) :: fs) := hS
        refine at_end [2, 3, 4, 5, 7, 8] [pl 2 (.pointer (some ⟨g1, 0, none⟩)), pl 3 (.pointer (some ⟨g2, 0, none⟩)), pl 4 (.pointer (some ⟨g3, 0, none⟩)), pl 5 (.pointer (some ⟨g4, 0, none⟩)), pl 7 (.int .i64 (geti p1 m1)), pl 8 (.bool (r3 == 1))] hF rfl (by kernel_rfl) (fun hF => ?_)
        refine then_n ?_
        exact ⟨(q1.set (Int.toNat (w64 (m2 - (w64 (8 * r2))))) 0), hF.weak [2, 3, 4, 5, 7, 8] (by kernel_rfl), hS, hm⟩
      · replace hm := if_f hm hb
        refine wpIn_skip ?_
        refine then_n ?_
        exact ⟨q1, hF.weak [2, 3, 4, 5, 7, 8] (by kernel_rfl), hS, hm⟩
  · refine reg [⟨false, [], vS (Instr.loadAt 3 (.pointer (some ⟨g2, 2, none⟩))), .int .i64 m3⟩] [none, some (.int .i64 m3), none] [2, 3, 4, 5, 6, 7, 8, 41] [pl 2 (.pointer (some ⟨g1, 0, none⟩)), pl 3 (.pointer (some ⟨g2, 0, none⟩)), pl 4 (.pointer (some ⟨g3, 0, none⟩)), pl 5 (.pointer (some ⟨g4, 0, none⟩)), pl 6 (.int .i64 r2), pl 7 (.int .i64 (geti p1 m1)), pl 8 (.bool (r3 == 1)), pl 41 (.bool (decide ((0 : Int) < m3)))] hF hS Fol (by kernel_rfl) (by kernel_rfl) (by kernel_rfl) ?_ (fun a w hF hS => ?_)
    · exact obs_cons (ob_load Agg3 (fun _ _ hS => (hS.at_ 3 rfl).cell rfl)) <| obs_nil
    refine cond_ev (t := 41) (b := decide ((0 : Int) < m3)) hF (by kernel_rfl) (fun hb => ?_) (fun hb => ?_)
    · replace hm := if_t hm hb
      refine oneR ?_
      obtain ⟨hp4, hm⟩ := asrt_b hm
      refine at_run 9 [⟨false, [], vS (Instr.loadAt 27 (.pointer (some ⟨g4, 0, none⟩))), .slice A2 r1.1.length c2⟩, ⟨false, [], vS (Instr.loadAt 3 (.pointer (some ⟨g2, 1, none⟩))), .int .i64 m2⟩, ⟨false, [], vS (Instr.loadAt 3 (.pointer (some ⟨g2, 2, none⟩))), .int .i64 m3⟩, ⟨true, [], vS (Instr.indexAt 27 (.slice A2 r1.1.length c2) (.int .i64 m2)), .pointer (some (sAddr A2 m2))⟩] [none, some (.slice A2 r1.1.length c2), none, some (.int .i64 m2), none, none, some (.int .i64 m3), none, some (.pointer (some (sAddr A2 m2)))] [2, 3, 4, 5, 6, 7, 8, 49, 50] [pl 2 (.pointer (some ⟨g1, 0, none⟩)), pl 3 (.pointer (some ⟨g2, 0, none⟩)), pl 4 (.pointer (some ⟨g3, 0, none⟩)), pl 5 (.pointer (some ⟨g4, 0, none⟩)), pl 6 (.int .i64 r2), pl 7 (.int .i64 (geti p1 m1)), pl 8 (.bool (r3 == 1)), pl 49 (.int .i64 (w64 (r2 * m3))), pl 50 (.pointer (some (sAddr A2 m2)))] hF hS (by kernel_rfl) (by kernel_rfl) ?_ (fun a w hF hS => ?_)
      · exact obs_cons (ob_load Agg27 (fun _ _ hS => (hS.at_ 0 rfl).cell rfl)) <| obs_cons (ob_load Agg3 (fun _ _ hS => (hS.at_ 3 rfl).cell rfl)) <| obs_cons (ob_load Agg3 (fun _ _ hS => (hS.at_ 3 rfl).cell rfl)) <| obs_cons (ob_ix1 (f := (Value.int .i64)) (m := ((r1.1.set (Int.toNat m1) 0).set (Int.toNat m2) (geti p1 m1))) Und27 hi3 hs3 (hS.at_ 1 rfl).rd ((hS.at_ 1 rfl).len1) (fun _ => hp4)) <| obs_nil
      obtain ⟨w, hrun, hS⟩ := run_set1 (P := Try.prog) (t := 3) (x := (w64 (r2 * m3))) (Value.int .i64) (hS.at_ 1 rfl) hi3 hs3 rfl rfl hp4
      refine at_skip hF (by kernel_rfl) hrun ?_
      have hS : Sep w0 B w (blk g4 75 #[.slice A2 r1.1.length c2, .int .i64 r1.2.1, .int .i64 r1.2.2.1, .int .i64 r1.2.2.2.1, .int .i64 r1.2.2.2.2.1, .int .i64 r1.2.2.2.2.2] :: own 3 (.slice A2 r1.1.length c2) (vI (((r1.1.set (Int.toNat m1) 0).set (Int.toNat m2) (geti p1 m1)).set (Int.toNat m2) (w64 (r2 * m3)))) :: blk g3 75 #[.slice none 0 0, .int .i64 0, .int .i64 0, .int .i64 0, .int .i64 0, .int .i64 0] :: blk g2 88 #[.int .i64 m1, .int .i64 m2, .int .i64 m3] :: blk g1 75 #[.slice A1 p1.length c1, .int .i64 p2, .int .i64 p3, .int .i64 p4, .int .i64 p5, .int .i64 p6] :: fs) := hS
      refine at_end [2, 3, 4, 5, 6, 7, 8] [pl 2 (.pointer (some ⟨g1, 0, none⟩)), pl 3 (.pointer (some ⟨g2, 0, none⟩)), pl 4 (.pointer (some ⟨g3, 0, none⟩)), pl 5 (.pointer (some ⟨g4, 0, none⟩)), pl 6 (.int .i64 r2), pl 7 (.int .i64 (geti p1 m1)), pl 8 (.bool (r3 == 1))] hF rfl (by kernel_rfl) (fun hF => ?_)
      refine then_n ?_
      have hS := hS.pickN 5 [4, 3, 2, 0, 1] (by decide)
      exact ⟨(((r1.1.set (Int.toNat m1) 0).set (Int.toNat m2) (geti p1 m1)).set (Int.toNat m2) (w64 (r2 * m3))), hF.weak [2, 3, 4, 5, 6, 7, 8] (by kernel_rfl), hS, hm⟩
    · replace hm := if_f hm hb
      refine wpIn_skip ?_
      refine then_n ?_
      have hS := hS.pickN 5 [4, 3, 2, 0, 1] (by decide)
      exact ⟨((r1.1.set (Int.toNat m1) 0).set (Int.toNat m2) (geti p1 m1)), hF.weak [2, 3, 4, 5, 6, 7, 8] (by kernel_rfl), hS, hm⟩

noncomputable def gameroomref_MovesAll_J9  (n2 : Int) (ok3 : Bool) : Option (St (Bool × Int) Bool) :=
  some (.next (ok3, (w64 (n2 + 1))))

noncomputable def gameroomref_MovesAll_J8  (p1 : List Int) (p2 : Int) (p3 : Int) (p4 : Int) (p5 : Int) (p6 : Int) (to1 : Int) (ok1 : Bool) (n2 : Int) : Option (St (Bool × Int) Bool) :=
  ((if (!ok1) then gameroomref_castleTo_m p1 p2 p3 p4 p5 p6 n2 else some 0)).bind fun r4 => (gameroomref_MovesAll_J9 n2) (ok1 || (r4 == to1))

noncomputable def gameroomref_MovesAll_J6  (to1 : Int) (l5 : List (Int × Int × Int)) : Option (St (List (Int × Int × Int) × Int) (List (Int × Int × Int))) :=
  some (.next (l5, (w64 (to1 + 1))))

noncomputable def gameroomref_MovesAll_J13  (into1 : Int) (l7 : List (Int × Int × Int)) : Option (St (List (Int × Int × Int) × Int) (List (Int × Int × Int))) :=
  some (.next (l7, (w64 (into1 + 1))))

noncomputable def gameroomref_MovesAll_J12  (from1 : Int) (to1 : Int) (l6 : List (Int × Int × Int)) (into1 : Int) : Option (St (List (Int × Int × Int) × Int) (List (Int × Int × Int))) :=
  asrt ((l6.length : Int) + 1 ≤ bigK) <| (gameroomref_MovesAll_J13 into1) (l6 ++ ([(from1, to1, into1)] : List (Int × Int × Int)))

noncomputable def gameroomref_MovesAll_L4  (from1 : Int) (to1 : Int) : (List (Int × Int × Int) × Int) → Option (St (List (Int × Int × Int) × Int) (List (Int × Int × Int))) :=
  fun (x : (List (Int × Int × Int) × Int)) => match x with | (l6, into1) => if (decide (into1 ≤ 5)) then ((gameroomref_MovesAll_J12 from1 to1 l6 into1)) else (some (.done l6))

noncomputable def gameroomref_MovesAll_K4  (to1 : Int) : (List (Int × Int × Int)) → Option (St (List (Int × Int × Int) × Int) (List (Int × Int × Int))) :=
  fun (x : (List (Int × Int × Int))) => match x with | l5 => (gameroomref_MovesAll_J6 to1) l5

noncomputable def gameroomref_MovesAll_J10  (p1 : List Int) (from1 : Int) (l4 : List (Int × Int × Int)) (to1 : Int) : Option (St (List (Int × Int × Int) × Int) (List (Int × Int × Int))) :=
  asrt (0 ≤ from1 ∧ from1 < (p1.length : Int)) <| (gameroomref_size_m (geti p1 from1)).bind fun r8 => if ((r8 == 1) && ((decide (to1 < 8)) || (decide ((55 : Int) < to1)))) then ((loop (gameroomref_MovesAll_L4 from1 to1) (l4, 2)).bind (gameroomref_MovesAll_K4 to1)) else (asrt ((l4.length : Int) + 1 ≤ bigK) <| (gameroomref_MovesAll_J6 to1) (l4 ++ ([(from1, to1, 0)] : List (Int × Int × Int))))

noncomputable def gameroomref_MovesAll_J11  (p1 : List Int) (from1 : Int) (l4 : List (Int × Int × Int)) (to1 : Int) (z1 : Bool) : Option (St (List (Int × Int × Int) × Int) (List (Int × Int × Int))) :=
  if z1 then ((gameroomref_MovesAll_J6 to1) l4) else ((gameroomref_MovesAll_J10 p1 from1 l4 to1))

noncomputable def gameroomref_MovesAll_J7  (p1 : List Int) (p2 : Int) (p3 : Int) (p4 : Int) (p5 : Int) (p6 : Int) (from1 : Int) (l4 : List (Int × Int × Int)) (to1 : Int) (ok2 : Bool) : Option (St (List (Int × Int × Int) × Int) (List (Int × Int × Int))) :=
  if (!ok2) then (((if (!(!ok2)) then gameroomref_InCheck_m ([] : List Int) p2 else some false)).bind fun r5 => (gameroomref_MovesAll_J11 p1 from1 l4 to1) ((!ok2) || r5)) else ((gameroomref_MoveDone_m p1 p2 p3 p4 p5 p6 from1 to1 0).bind fun r6 => ((if (!(!ok2)) then gameroomref_InCheck_m r6.1 p2 else some false)).bind fun r7 => (gameroomref_MovesAll_J11 p1 from1 l4 to1) ((!ok2) || r7))

noncomputable def gameroomref_MovesAll_K3  (p1 : List Int) (p2 : Int) (p3 : Int) (p4 : Int) (p5 : Int) (p6 : Int) (from1 : Int) (l4 : List (Int × Int × Int)) (to1 : Int) : Bool → Option (St (List (Int × Int × Int) × Int) (List (Int × Int × Int))) :=
  fun (x : Bool) => match x with | ok2 => (gameroomref_MovesAll_J7 p1 p2 p3 p4 p5 p6 from1 l4 to1) ok2

noncomputable def gameroomref_MovesAll_L3  (p1 : List Int) (p2 : Int) (p3 : Int) (p4 : Int) (p5 : Int) (p6 : Int) (from1 : Int) (to1 : Int) : (Bool × Int) → Option (St (Bool × Int) Bool) :=
  fun (x : (Bool × Int)) => match x with | (ok1, n2) => asrt ((decide (n2 < 4)) = true → 0 ≤ from1 ∧ from1 < (p1.length : Int)) <| ((if (decide (n2 < 4)) then gameroomref_size_m (geti p1 from1) else some 0)).bind fun r3 => if ((decide (n2 < 4)) && (r3 == 6)) then ((gameroomref_MovesAll_J8 p1 p2 p3 p4 p5 p6 to1 ok1 n2)) else (some (.done ok1))

noncomputable def gameroomref_MovesAll_J5  (p1 : List Int) (p2 : Int) (p3 : Int) (p4 : Int) (p5 : Int) (p6 : Int) (from1 : Int) (l4 : List (Int × Int × Int)) (to1 : Int) : Option (St (List (Int × Int × Int) × Int) (List (Int × Int × Int))) :=
  (gameroomref_mayGo_m p1 p2 p3 p4 p5 p6 from1 to1).bind fun r2 => (loop (gameroomref_MovesAll_L3 p1 p2 p3 p4 p5 p6 from1 to1) (r2, 0)).bind (gameroomref_MovesAll_K3 p1 p2 p3 p4 p5 p6 from1 l4 to1)

noncomputable def gameroomref_MovesAll_J3  (from1 : Int) (l3 : List (Int × Int × Int)) : Option (St (List (Int × Int × Int) × Int) (List (Int × Int × Int))) :=
  some (.next (l3, (w64 (from1 + 1))))

noncomputable def gameroomref_MovesAll_K2  (from1 : Int) : (List (Int × Int × Int)) → Option (St (List (Int × Int × Int) × Int) (List (Int × Int × Int))) :=
  fun (x : (List (Int × Int × Int))) => match x with | l3 => (gameroomref_MovesAll_J3 from1) l3

noncomputable def gameroomref_MovesAll_L2  (p1 : List Int) (p2 : Int) (p3 : Int) (p4 : Int) (p5 : Int) (p6 : Int) (from1 : Int) : (List (Int × Int × Int) × Int) → Option (St (List (Int × Int × Int) × Int) (List (Int × Int × Int))) :=
  fun (x : (List (Int × Int × Int) × Int)) => match x with | (l4, to1) => if (decide (to1 < 64)) then ((gameroomref_MovesAll_J5 p1 p2 p3 p4 p5 p6 from1 l4 to1)) else (some (.done l4))

noncomputable def gameroomref_MovesAll_J4  (p1 : List Int) (p2 : Int) (p3 : Int) (p4 : Int) (p5 : Int) (p6 : Int) (l1 : List (Int × Int × Int)) (from1 : Int) : Option (St (List (Int × Int × Int) × Int) (List (Int × Int × Int))) :=
  (loop (gameroomref_MovesAll_L2 p1 p2 p3 p4 p5 p6 from1) (l1, 0)).bind (gameroomref_MovesAll_K2 from1)

noncomputable def gameroomref_MovesAll_J2  (p1 : List Int) (p2 : Int) (p3 : Int) (p4 : Int) (p5 : Int) (p6 : Int) (l1 : List (Int × Int × Int)) (from1 : Int) : Option (St (List (Int × Int × Int) × Int) (List (Int × Int × Int))) :=
  asrt (0 ≤ from1 ∧ from1 < (p1.length : Int)) <| (gameroomref_pieceSide_m (geti p1 from1)).bind fun r1 => if (r1 != p2) then ((gameroomref_MovesAll_J3 from1) l1) else ((gameroomref_MovesAll_J4 p1 p2 p3 p4 p5 p6 l1 from1))

noncomputable def gameroomref_MovesAll_J1  (l2 : List (Int × Int × Int)) : Option (List (Int × Int × Int)) :=
  some l2

noncomputable def gameroomref_MovesAll_K1  : (List (Int × Int × Int)) → Option (List (Int × Int × Int)) :=
  fun (x : (List (Int × Int × Int))) => match x with | l2 => gameroomref_MovesAll_J1 l2

noncomputable def gameroomref_MovesAll_L1  (p1 : List Int) (p2 : Int) (p3 : Int) (p4 : Int) (p5 : Int) (p6 : Int) : (List (Int × Int × Int) × Int) → Option (St (List (Int × Int × Int) × Int) (List (Int × Int × Int))) :=
  fun (x : (List (Int × Int × Int) × Int)) => match x with | (l1, from1) => if (decide (from1 < 64)) then ((gameroomref_MovesAll_J2 p1 p2 p3 p4 p5 p6 l1 from1)) else (some (.done l1))

noncomputable def gameroomref_MovesAll_m  (p1 : List Int) (p2 : Int) (p3 : Int) (p4 : Int) (p5 : Int) (p6 : Int) : Option (List (Int × Int × Int)) :=
  (loop (gameroomref_MovesAll_L1 p1 p2 p3 p4 p5 p6) (([] : List (Int × Int × Int)), 0)).bind gameroomref_MovesAll_K1

set_option maxRecDepth 100000 in
set_option maxHeartbeats 4000000 in
theorem gameroomref_MovesAll_w {A1 : Option Addr} {c1 : Nat} {n1 : Nat} {p1 : List Int} {p2 : Int} {p3 : Int} {p4 : Int} {p5 : Int} {p6 : Int} {r : (List (Int × Int × Int))} {w0 w : World} {B : Nat} {fs : List HP} (hm : gameroomref_MovesAll_m p1 p2 p3 p4 p5 p6 = some r) (hS : Sep w0 B w (fs)) (hr_p1 : RdF w0 B fs A1 (vI p1)) (_hc_p1 : p1.length ≤ c1) (_hn_p1 : n1 = p1.length) :
    Calls Try.prog 58 #[.agg #[.slice A1 n1 c1, .int .i64 p2, .int .i64 p3, .int .i64 p4, .int .i64 p5, .int .i64 p6]] w fun e w' => ∃ v, e = .returned v ∧ ∃ (A12 : Option Addr) (c12 : Nat), v = .slice A12 r.length c12 ∧ Sep w0 B w' (ownK 88 3 A12 r.length c12 (List.flatMap enc88 r) :: fs) := by
  obtain ⟨i3, hi3, hz3, hs3, hb3⟩ := info_parts Info3
  obtain ⟨i88, hi88, hz88, hs88, hb88⟩ := info_parts Info88
  obtain rfl := _hn_p1
  unfold gameroomref_MovesAll_m at hm
  replace hm := start_b hm
  refine enter (l := [.agg #[.slice A1 p1.length c1, .int .i64 p2, .int .i64 p3, .int .i64 p4, .int .i64 p5, .int .i64 p6]]) (n := 97) Try.func58 rfl rfl (by simp) (fun a hF => ?_)
  refine seqR ?_
  refine at_do (d := 1) (s := vS (Instr.box 75 (.agg #[.slice A1 p1.length c1, .int .i64 p2, .int .i64 p3, .int .i64 p4, .int .i64 p5, .int .i64 p6]))) (v := .pointer (some ⟨w.heap.size, 0, none⟩)) (w' := w.alloc (.cells #[.slice A1 p1.length c1, .int .i64 p2, .int .i64 p3, .int .i64 p4, .int .i64 p5, .int .i64 p6] 75)) hF (by kernel_rfl) (by kernel_rfl) (by kernel_rfl) (fun a hF => ?_)
  have hS : Sep w0 B (w.alloc (.cells #[.slice A1 p1.length c1, .int .i64 p2, .int .i64 p3, .int .i64 p4, .int .i64 p5, .int .i64 p6] 75)) (blk w.heap.size 75 #[.slice A1 p1.length c1, .int .i64 p2, .int .i64 p3, .int .i64 p4, .int .i64 p5, .int .i64 p6] :: (fs)) := hS.box 75 #[.slice A1 p1.length c1, .int .i64 p2, .int .i64 p3, .int .i64 p4, .int .i64 p5, .int .i64 p6]
  generalize w.heap.size = g1 at hF hS
  generalize w.alloc (.cells #[.slice A1 p1.length c1, .int .i64 p2, .int .i64 p3, .int .i64 p4, .int .i64 p5, .int .i64 p6] 75) = w at hS ⊢
  refine at_run 1 [] [] [1] [pl 1 (.pointer (some ⟨g1, 0, none⟩))] hF hS (by kernel_rfl) (by kernel_rfl) ?_ (fun a w hF hS => ?_)
  · exact obs_nil
  refine at_end [1] [pl 1 (.pointer (some ⟨g1, 0, none⟩))] hF rfl (by kernel_rfl) (fun hF => ?_)
  refine then_n ?_
  refine reg [] [] [1, 3] [pl 1 (.pointer (some ⟨g1, 0, none⟩)), pl 3 (.slice none 0 0)] hF hS Fol (by kernel_rfl) (by kernel_rfl) (by kernel_rfl) ?_ (fun a w hF hS => ?_)
  · exact obs_nil
  refine seq_cut (fun a w => ∃ (l2 : List (Int × Int × Int)) (A3 : Option Addr) (c3 : Nat), Fr 97 [pl 3 (.slice A3 l2.length c3)] a ∧ Sep w0 B w (ownK 88 3 A3 l2.length c3 (List.flatMap enc88 l2) :: fs) ∧ (gameroomref_MovesAll_J1 l2).bind some = some r) ?_ ?_
  · rintro a w ⟨l2, A3, c3, hF, hS, hm⟩
    unfold gameroomref_MovesAll_J1 at hm
    refine reg [] [] [2] [pl 2 (.slice A3 l2.length c3)] hF hS Fol (by kernel_rfl) (by kernel_rfl) (by kernel_rfl) ?_ (fun a w hF hS => ?_)
    · exact obs_nil
    refine wpIn_ret ?_
    have hm : some l2 = some r := hm
    obtain rfl := Option.some.inj hm
    exact retV (rs := [.tmp 2]) (vs := [.slice A3 l2.length c3]) hF rfl (rv_t (by kernel_rfl) <| rv_nil) rfl ⟨_, rfl, A3, c3, rfl, hS⟩
  · refine reg [] [] [1, 3, 4] [pl 1 (.pointer (some ⟨g1, 0, none⟩)), pl 3 (.slice none 0 0), pl 4 (.int .i64 0)] hF hS Fol (by kernel_rfl) (by kernel_rfl) (by kernel_rfl) ?_ (fun a w hF hS => ?_)
    · exact obs_nil
    refine wpIn_block ?_
    have hS : Sep w0 B w (ownK 88 3 none 0 0 (List.flatMap enc88 ([] : List (Int × Int × Int))) :: blk g1 75 #[.slice A1 p1.length c1, .int .i64 p2, .int .i64 p3, .int .i64 p4, .int .i64 p5, .int .i64 p6] :: fs) := hS.nilK 88 3 enc88
    have hl1 := (hS.at_ 0 rfl).lenK encK88
    have hS := (hS.at_ 0 rfl).reNK hl1
    have hS : Sep w0 B w (ownK 88 3 none (([] : List (Int × Int × Int)).length) 0 (List.flatMap enc88 ([] : List (Int × Int × Int))) :: blk g1 75 #[.slice A1 p1.length c1, .int .i64 p2, .int .i64 p3, .int .i64 p4, .int .i64 p5, .int .i64 p6] :: fs) := hS
    have hF := hF.cast (t := 3) (v := .slice none 0 0) (v' := .slice none (([] : List (Int × Int × Int)).length) 0) rfl rfl (congrArg (fun k => Value.slice none k 0) hl1)
    have hS := hS.pickN 2 [1, 0] (by decide)
    refine wp_loop_model (S := (List (Int × Int × Int) × Int)) (R := (List (Int × Int × Int))) (gameroomref_MovesAll_L1 p1 p2 p3 p4 p5 p6) (fun x => (gameroomref_MovesAll_K1 x).bind some) r (fun (x : (List (Int × Int × Int) × Int)) a w => ∃ (A2 : Option Addr) (c2 : Nat), Fr 97 [pl 1 (.pointer (some ⟨g1, 0, none⟩)), pl 3 (.slice A2 x.1.length c2), pl 4 (.int .i64 x.2)] a ∧ Sep w0 B w (blk g1 75 #[.slice A1 p1.length c1, .int .i64 p2, .int .i64 p3, .int .i64 p4, .int .i64 p5, .int .i64 p6] :: ownK 88 3 A2 x.1.length c2 (List.flatMap enc88 x.1) :: fs)) (assoc_b hm) ⟨none, 0, hF.weak [1, 3, 4] (by kernel_rfl), hS⟩ ?_
    clear hF hS hm
    rintro nn1 ⟨l1, from1⟩ a w ⟨A2, c2, hF, hS⟩ hm
    generalize hφ1 : stK (gameroomref_MovesAll_L1 p1 p2 p3 p4 p5 p6) nn1 (fun x => (gameroomref_MovesAll_K1 x).bind some) = φ1 at hm
    unfold gameroomref_MovesAll_L1 at hm
    dsimp only at hF hS hm
    refine seq_cut (fun a w => Fr 97 [pl 1 (.pointer (some ⟨g1, 0, none⟩)), pl 3 (.slice A2 l1.length c2), pl 4 (.int .i64 from1)] a ∧ Sep w0 B w (blk g1 75 #[.slice A1 p1.length c1, .int .i64 p2, .int .i64 p3, .int .i64 p4, .int .i64 p5, .int .i64 p6] :: ownK 88 3 A2 l1.length c2 (List.flatMap enc88 l1) :: fs) ∧ ((gameroomref_MovesAll_J2 p1 p2 p3 p4 p5 p6 l1 from1)).bind φ1 = some r) ?_ ?_
    · rintro a w ⟨hF, hS, hm⟩
      unfold gameroomref_MovesAll_J2 at hm
      refine seq_cut (fun a w => ∃ (l3 : List (Int × Int × Int)) (A4 : Option Addr) (c4 : Nat), Fr 97 [pl 1 (.pointer (some ⟨g1, 0, none⟩)), pl 3 (.slice A4 l3.length c4), pl 4 (.int .i64 from1)] a ∧ Sep w0 B w (blk g1 75 #[.slice A1 p1.length c1, .int .i64 p2, .int .i64 p3, .int .i64 p4, .int .i64 p5, .int .i64 p6] :: ownK 88 3 A4 l3.length c4 (List.flatMap enc88 l3) :: fs) ∧ ((gameroomref_MovesAll_J3 from1) l3).bind φ1 = some r) ?_ ?_
      · rintro a w ⟨l3, A4, c4, hF, hS, hm⟩
        unfold gameroomref_MovesAll_J3 at hm
        refine reg1 [] [] [1, 3, 4] [pl 1 (.pointer (some ⟨g1, 0, none⟩)), pl 3 (.slice A4 l3.length c4), pl 4 (.int .i64 (w64 (from1 + 1)))] hF hS Fol (by kernel_rfl) (by kernel_rfl) (by kernel_rfl) ?_ (fun a w hF hS => ?_)
        · exact obs_nil
        refine then_n ?_
        rw [← hφ1] at hm
        exact ⟨(l3, (w64 (from1 + 1))), ⟨A4, c4, hF.weak [1, 3, 4] (by kernel_rfl), hS⟩, hm⟩
      · refine wpIn_block ?_
        refine seq_cut (fun a w => Fr 97 [pl 1 (.pointer (some ⟨g1, 0, none⟩)), pl 3 (.slice A2 l1.length c2), pl 4 (.int .i64 from1)] a ∧ Sep w0 B w (blk g1 75 #[.slice A1 p1.length c1, .int .i64 p2, .int .i64 p3, .int .i64 p4, .int .i64 p5, .int .i64 p6] :: ownK 88 3 A2 l1.length c2 (List.flatMap enc88 l1) :: fs) ∧ ((gameroomref_MovesAll_J4 p1 p2 p3 p4 p5 p6 l1 from1)).bind φ1 = some r) ?_ ?_
        · rintro a w ⟨hF, hS, hm⟩
          unfold gameroomref_MovesAll_J4 at hm
          refine reg [] [] [1, 3, 4, 5] [pl 1 (.pointer (some ⟨g1, 0, none⟩)), pl 3 (.slice A2 l1.length c2), pl 4 (.int .i64 from1), pl 5 (.int .i64 0)] hF hS Fol (by kernel_rfl) (by kernel_rfl) (by kernel_rfl) ?_ (fun a w hF hS => ?_)
          · exact obs_nil
          refine wpIn_block ?_
          refine wp_loop_model (S := (List (Int × Int × Int) × Int)) (R := (List (Int × Int × Int))) (gameroomref_MovesAll_L2 p1 p2 p3 p4 p5 p6 from1) (fun x => ((gameroomref_MovesAll_K2 from1) x).bind φ1) r (fun (x : (List (Int × Int × Int) × Int)) a w => ∃ (A5 : Option Addr) (c5 : Nat), Fr 97 [pl 1 (.pointer (some ⟨g1, 0, none⟩)), pl 3 (.slice A5 x.1.length c5), pl 4 (.int .i64 from1), pl 5 (.int .i64 x.2)] a ∧ Sep w0 B w (blk g1 75 #[.slice A1 p1.length c1, .int .i64 p2, .int .i64 p3, .int .i64 p4, .int .i64 p5, .int .i64 p6] :: ownK 88 3 A5 x.1.length c5 (List.flatMap enc88 x.1) :: fs)) (assoc_b hm) ⟨A2, c2, hF.weak [1, 3, 4, 5] (by kernel_rfl), hS⟩ ?_
          clear hF hS hm
          rintro nn2 ⟨l4, to1⟩ a w ⟨A5, c5, hF, hS⟩ hm
          generalize hφ2 : stK (gameroomref_MovesAll_L2 p1 p2 p3 p4 p5 p6 from1) nn2 (fun x => ((gameroomref_MovesAll_K2 from1) x).bind φ1) = φ2 at hm
          unfold gameroomref_MovesAll_L2 at hm
          dsimp only at hF hS hm
          refine seq_cut (fun a w => Fr 97 [pl 1 (.pointer (some ⟨g1, 0, none⟩)), pl 3 (.slice A5 l4.length c5), pl 4 (.int .i64 from1), pl 5 (.int .i64 to1)] a ∧ Sep w0 B w (blk g1 75 #[.slice A1 p1.length c1, .int .i64 p2, .int .i64 p3, .int .i64 p4, .int .i64 p5, .int .i64 p6] :: ownK 88 3 A5 l4.length c5 (List.flatMap enc88 l4) :: fs) ∧ ((gameroomref_MovesAll_J5 p1 p2 p3 p4 p5 p6 from1 l4 to1)).bind φ2 = some r) ?_ ?_
          · rintro a w ⟨hF, hS, hm⟩
            unfold gameroomref_MovesAll_J5 at hm
            refine seq_cut (fun a w => ∃ (l5 : List (Int × Int × Int)) (A7 : Option Addr) (c7 : Nat), Fr 97 [pl 1 (.pointer (some ⟨g1, 0, none⟩)), pl 3 (.slice A7 l5.length c7), pl 4 (.int .i64 from1), pl 5 (.int .i64 to1)] a ∧ Sep w0 B w (blk g1 75 #[.slice A1 p1.length c1, .int .i64 p2, .int .i64 p3, .int .i64 p4, .int .i64 p5, .int .i64 p6] :: ownK 88 3 A7 l5.length c7 (List.flatMap enc88 l5) :: fs) ∧ ((gameroomref_MovesAll_J6 to1) l5).bind φ2 = some r) ?_ ?_
            · rintro a w ⟨l5, A7, c7, hF, hS, hm⟩
              unfold gameroomref_MovesAll_J6 at hm
              refine reg1 [] [] [1, 3, 4, 5] [pl 1 (.pointer (some ⟨g1, 0, none⟩)), pl 3 (.slice A7 l5.length c7), pl 4 (.int .i64 from1), pl 5 (.int .i64 (w64 (to1 + 1)))] hF hS Fol (by kernel_rfl) (by kernel_rfl) (by kernel_rfl) ?_ (fun a w hF hS => ?_)
              · exact obs_nil
              refine then_n ?_
              rw [← hφ2] at hm
              exact ⟨(l5, (w64 (to1 + 1))), ⟨A7, c7, hF.weak [1, 3, 4, 5] (by kernel_rfl), hS⟩, hm⟩
            · refine wpIn_block ?_
              obtain ⟨r2, hr2, hm⟩ := call_b hm
              refine reg [⟨false, [], vS (Instr.loadAt 75 (.pointer (some ⟨g1, 0, none⟩))), .agg #[.slice A1 p1.length c1, .int .i64 p2, .int .i64 p3, .int .i64 p4, .int .i64 p5, .int .i64 p6]⟩, ⟨false, [], callFunc 139 #[.agg #[.slice A1 p1.length c1, .int .i64 p2, .int .i64 p3, .int .i64 p4, .int .i64 p5, .int .i64 p6], .int .i64 from1, .int .i64 to1], .bool r2⟩] [some (.agg #[.slice A1 p1.length c1, .int .i64 p2, .int .i64 p3, .int .i64 p4, .int .i64 p5, .int .i64 p6]), none, none, some (.bool r2), none] [1, 3, 4, 5, 6] [pl 1 (.pointer (some ⟨g1, 0, none⟩)), pl 3 (.slice A5 l4.length c5), pl 4 (.int .i64 from1), pl 5 (.int .i64 to1), pl 6 (.bool r2)] hF hS Fol (by kernel_rfl) (by kernel_rfl) (by kernel_rfl) ?_ (fun a w hF hS => ?_)
              · exact obs_cons (ob_loadA (cs := #[.slice A1 p1.length c1, .int .i64 p2, .int .i64 p3, .int .i64 p4, .int .i64 p5, .int .i64 p6]) (by kernel_rfl) (by kernel_rfl) (fun _ _ hS => (hS.at_ 0 rfl).cellsAt 0 (by rfl))) <| obs_cons (ob_call Try.func139 (by kernel_rfl) rfl (fun _ _ hS => gameroomref_mayGo_w hr2 hS (fun _ hS => (hr_p1 _ (hS.dropN 2))) _hc_p1 rfl)) <| obs_nil
              refine seq_cut (fun a w => ∃ (ok2 : Bool), Fr 97 [pl 1 (.pointer (some ⟨g1, 0, none⟩)), pl 3 (.slice A5 l4.length c5), pl 4 (.int .i64 from1), pl 5 (.int .i64 to1), pl 6 (.bool ok2)] a ∧ Sep w0 B w (blk g1 75 #[.slice A1 p1.length c1, .int .i64 p2, .int .i64 p3, .int .i64 p4, .int .i64 p5, .int .i64 p6] :: ownK 88 3 A5 l4.length c5 (List.flatMap enc88 l4) :: fs) ∧ ((gameroomref_MovesAll_J7 p1 p2 p3 p4 p5 p6 from1 l4 to1) ok2).bind φ2 = some r) ?_ ?_
              · rintro a w ⟨ok2, hF, hS, hm⟩
                unfold gameroomref_MovesAll_J7 at hm
                refine seq_cut (fun a w => Fr 97 [pl 1 (.pointer (some ⟨g1, 0, none⟩)), pl 3 (.slice A5 l4.length c5), pl 4 (.int .i64 from1), pl 5 (.int .i64 to1)] a ∧ Sep w0 B w (blk g1 75 #[.slice A1 p1.length c1, .int .i64 p2, .int .i64 p3, .int .i64 p4, .int .i64 p5, .int .i64 p6] :: ownK 88 3 A5 l4.length c5 (List.flatMap enc88 l4) :: fs) ∧ ((gameroomref_MovesAll_J10 p1 from1 l4 to1)).bind φ2 = some r) ?_ ?_
                · rintro a w ⟨hF, hS, hm⟩
                  unfold gameroomref_MovesAll_J10 at hm
                  obtain ⟨hp3, hm⟩ := asrt_b hm
                  obtain ⟨r8, hr8, hm⟩ := call_b hm
                  refine reg [⟨false, [], vS (Instr.loadAt 27 (.pointer (some ⟨g1, 0, none⟩))), .slice A1 p1.length c1⟩, ⟨true, [], vS (Instr.indexAt 27 (.slice A1 p1.length c1) (.int .i64 from1)), .pointer (some (sAddr A1 from1))⟩, ⟨false, [], vS (Instr.loadAt 3 (.pointer (some (sAddr A1 from1)))), .int .i64 (geti p1 from1)⟩, ⟨false, [], callFunc 129 #[.int .i64 (geti p1 from1)], .int .i64 r8⟩] [none, some (.slice A1 p1.length c1), none, some (.pointer (some (sAddr A1 from1))), some (.int .i64 (geti p1 from1)), some (.int .i64 r8), none, none, none, none, none, none, none, none, none] [1, 3, 4, 5, 78] [pl 1 (.pointer (some ⟨g1, 0, none⟩)), pl 3 (.slice A5 l4.length c5), pl 4 (.int .i64 from1), pl 5 (.int .i64 to1), pl 78 (.bool ((r8 == 1) && ((decide (to1 < 8)) || (decide ((55 : Int) < to1)))))] hF hS Fol (by kernel_rfl) (by kernel_rfl) (by kernel_rfl) ?_ (fun a w hF hS => ?_)
                  · exact obs_cons (ob_load Agg27 (fun _ _ hS => (hS.at_ 0 rfl).cell rfl)) <| obs_cons (ob_ix1 (f := (Value.int .i64)) (m := p1) Und27 hi3 hs3 (hr_p1 _ (hS.dropN 2)) rfl (fun _ => hp3)) <| obs_cons (ob_get1 (n := p1.length) (m := p1) (Value.int .i64) (0 : Int) Agg3 (fun _ hS => ⟨_, (hr_p1 _ (hS.dropN 2))⟩) (fun _ hS => rfl) (fun _ => hp3)) <| obs_cons (ob_call Try.func129 (by kernel_rfl) rfl (fun _ _ hS => gameroomref_size_w hr8 hS )) <| obs_nil
                  refine cond_ev (t := 78) (b := (r8 == 1) && ((decide (to1 < 8)) || (decide ((55 : Int) < to1)))) hF (by kernel_rfl) (fun hb => ?_) (fun hb => ?_)
                  · replace hm := if_t hm hb
                    refine reg [] [] [1, 3, 4, 5, 8] [pl 1 (.pointer (some ⟨g1, 0, none⟩)), pl 3 (.slice A5 l4.length c5), pl 4 (.int .i64 from1), pl 5 (.int .i64 to1), pl 8 (.int .i64 2)] hF hS Fol (by kernel_rfl) (by kernel_rfl) (by kernel_rfl) ?_ (fun a w hF hS => ?_)
                    · exact obs_nil
                    refine wpIn_block ?_
                    refine wp_loop_model (S := (List (Int × Int × Int) × Int)) (R := (List (Int × Int × Int))) (gameroomref_MovesAll_L4 from1 to1) (fun x => ((gameroomref_MovesAll_K4 to1) x).bind φ2) r (fun (x : (List (Int × Int × Int) × Int)) a w => ∃ (A8 : Option Addr) (c8 : Nat), Fr 97 [pl 1 (.pointer (some ⟨g1, 0, none⟩)), pl 3 (.slice A8 x.1.length c8), pl 4 (.int .i64 from1), pl 5 (.int .i64 to1), pl 8 (.int .i64 x.2)] a ∧ Sep w0 B w (blk g1 75 #[.slice A1 p1.length c1, .int .i64 p2, .int .i64 p3, .int .i64 p4, .int .i64 p5, .int .i64 p6] :: ownK 88 3 A8 x.1.length c8 (List.flatMap enc88 x.1) :: fs)) (assoc_b hm) ⟨A5, c5, hF.weak [1, 3, 4, 5, 8] (by kernel_rfl), hS⟩ ?_
                    clear hF hS hm
                    rintro nn4 ⟨l6, into1⟩ a w ⟨A8, c8, hF, hS⟩ hm
                    generalize hφ4 : stK (gameroomref_MovesAll_L4 from1 to1) nn4 (fun x => ((gameroomref_MovesAll_K4 to1) x).bind φ2) = φ4 at hm
                    unfold gameroomref_MovesAll_L4 at hm
                    dsimp only at hF hS hm
                    refine seq_cut (fun a w => Fr 97 [pl 1 (.pointer (some ⟨g1, 0, none⟩)), pl 3 (.slice A8 l6.length c8), pl 4 (.int .i64 from1), pl 5 (.int .i64 to1), pl 8 (.int .i64 into1)] a ∧ Sep w0 B w (blk g1 75 #[.slice A1 p1.length c1, .int .i64 p2, .int .i64 p3, .int .i64 p4, .int .i64 p5, .int .i64 p6] :: ownK 88 3 A8 l6.length c8 (List.flatMap enc88 l6) :: fs) ∧ ((gameroomref_MovesAll_J12 from1 to1 l6 into1)).bind φ4 = some r) ?_ ?_
                    · rintro a w ⟨hF, hS, hm⟩
                      unfold gameroomref_MovesAll_J12 at hm
                      refine seq_cut (fun a w => ∃ (l7 : List (Int × Int × Int)) (A10 : Option Addr) (c10 : Nat), Fr 97 [pl 1 (.pointer (some ⟨g1, 0, none⟩)), pl 3 (.slice A10 l7.length c10), pl 4 (.int .i64 from1), pl 5 (.int .i64 to1), pl 8 (.int .i64 into1)] a ∧ Sep w0 B w (blk g1 75 #[.slice A1 p1.length c1, .int .i64 p2, .int .i64 p3, .int .i64 p4, .int .i64 p5, .int .i64 p6] :: ownK 88 3 A10 l7.length c10 (List.flatMap enc88 l7) :: fs) ∧ ((gameroomref_MovesAll_J13 into1) l7).bind φ4 = some r) ?_ ?_
                      · rintro a w ⟨l7, A10, c10, hF, hS, hm⟩
                        unfold gameroomref_MovesAll_J13 at hm
                        refine reg1 [] [] [1, 3, 4, 5, 8] [pl 1 (.pointer (some ⟨g1, 0, none⟩)), pl 3 (.slice A10 l7.length c10), pl 4 (.int .i64 from1), pl 5 (.int .i64 to1), pl 8 (.int .i64 (w64 (into1 + 1)))] hF hS Fol (by kernel_rfl) (by kernel_rfl) (by kernel_rfl) ?_ (fun a w hF hS => ?_)
                        · exact obs_nil
                        refine then_n ?_
                        rw [← hφ4] at hm
                        exact ⟨(l7, (w64 (into1 + 1))), ⟨A10, c10, hF.weak [1, 3, 4, 5, 8] (by kernel_rfl), hS⟩, hm⟩
                      · refine wpIn_block ?_
                        refine oneR ?_
                        obtain ⟨hp4, hm⟩ := asrt_b hm
                        refine at_run 5 [] [] [1, 4, 5, 8, 83, 87] [pl 1 (.pointer (some ⟨g1, 0, none⟩)), pl 4 (.int .i64 from1), pl 5 (.int .i64 to1), pl 8 (.int .i64 into1), pl 83 (.slice A8 l6.length c8), pl 87 (.agg #[.int .i64 from1, .int .i64 to1, .int .i64 into1])] hF hS (by kernel_rfl) (by kernel_rfl) ?_ (fun a w hF hS => ?_)
                        · exact obs_nil
                        refine at_do (d := 88) (s := vS (Instr.buildSlice 81 1 #[(0, .agg #[.int .i64 from1, .int .i64 to1, .int .i64 into1])])) (v := .slice (some ⟨w.heap.size, 0, none⟩) 1 1) (w' := w.alloc (.cells #[.int .i64 from1, .int .i64 to1, .int .i64 into1] 88)) hF (by kernel_rfl) (by kernel_rfl) (by kernel_rfl) (fun a hF => ?_)
                        have hS : Sep w0 B (w.alloc (.cells #[.int .i64 from1, .int .i64 to1, .int .i64 into1] 88)) (ownK 88 3 (some (⟨w.heap.size, 0, none⟩ : Addr)) 1 1 (List.flatMap enc88 ([(from1, to1, into1)] : List (Int × Int × Int))) :: (blk g1 75 #[.slice A1 p1.length c1, .int .i64 p2, .int .i64 p3, .int .i64 p4, .int .i64 p5, .int .i64 p6] :: ownK 88 3 A8 l6.length c8 (List.flatMap enc88 l6) :: fs)) := hS.litK 88 3 #[.int .i64 from1, .int .i64 to1, .int .i64 into1] 1 rfl (by omega)
                        generalize (some (⟨w.heap.size, 0, none⟩ : Addr)) = g2 at hF hS
                        generalize w.alloc (.cells #[.int .i64 from1, .int .i64 to1, .int .i64 into1] 88) = w at hS ⊢
                        obtain ⟨A9, c9, w, hrun, hS⟩ := run_appK (P := Try.prog) (t := 81) (m := l6) (ys := ([(from1, to1, into1)] : List (Int × Int × Int))) (A2 := g2) (m2 := 1) (c2 := 1) encK88 (hS.at_ 2 rfl) (hS.at_ 0 rfl).rdK ((hS.at_ 0 rfl).lenK encK88) 81 Und81 hi88 hz88 hs88 rfl (by omega) hp4
                        have hS : Sep w0 B w (ownK 88 3 g2 1 1 (List.flatMap enc88 ([(from1, to1, into1)] : List (Int × Int × Int))) :: blk g1 75 #[.slice A1 p1.length c1, .int .i64 p2, .int .i64 p3, .int .i64 p4, .int .i64 p5, .int .i64 p6] :: ownK 88 3 A9 ((l6 ++ ([(from1, to1, into1)] : List (Int × Int × Int))).length) c9 (List.flatMap enc88 (l6 ++ ([(from1, to1, into1)] : List (Int × Int × Int)))) :: fs) := hS
                        refine at_do (d := 89) hF (by kernel_rfl) (by kernel_rfl) hrun (fun a hF => ?_)
                        refine at_run 1 [] [] [1, 3, 4, 5, 8] [pl 1 (.pointer (some ⟨g1, 0, none⟩)), pl 3 (.slice A9 ((l6 ++ ([(from1, to1, into1)] : List (Int × Int × Int))).length) c9), pl 4 (.int .i64 from1), pl 5 (.int .i64 to1), pl 8 (.int .i64 into1)] hF hS (by kernel_rfl) (by kernel_rfl) ?_ (fun a w hF hS => ?_)
                        · exact obs_nil
                        refine at_end [1, 3, 4, 5, 8] [pl 1 (.pointer (some ⟨g1, 0, none⟩)), pl 3 (.slice A9 ((l6 ++ ([(from1, to1, into1)] : List (Int × Int × Int))).length) c9), pl 4 (.int .i64 from1), pl 5 (.int .i64 to1), pl 8 (.int .i64 into1)] hF rfl (by kernel_rfl) (fun hF => ?_)
                        refine block_n ?_
                        refine then_n ?_
                        have hS := hS.pickN 3 [1, 2] (by decide)
                        exact ⟨(l6 ++ ([(from1, to1, into1)] : List (Int × Int × Int))), A9, c9, hF.weak [1, 3, 4, 5, 8] (by kernel_rfl), hS, hm⟩
                    · refine reg [] [] [1, 3, 4, 5, 8, 80] [pl 1 (.pointer (some ⟨g1, 0, none⟩)), pl 3 (.slice A8 l6.length c8), pl 4 (.int .i64 from1), pl 5 (.int .i64 to1), pl 8 (.int .i64 into1), pl 80 (.bool (decide (into1 ≤ 5)))] hF hS Fol (by kernel_rfl) (by kernel_rfl) (by kernel_rfl) ?_ (fun a w hF hS => ?_)
                      · exact obs_nil
                      refine cond_ev (t := 80) (b := decide (into1 ≤ 5)) hF (by kernel_rfl) (fun hb => ?_) (fun hb => ?_)
                      · replace hm := if_t hm hb
                        refine wpIn_skip ?_
                        refine then_n ?_
                        exact ⟨hF.weak [1, 3, 4, 5, 8] (by kernel_rfl), hS, hm⟩
                      · replace hm := if_f hm hb
                        refine wpIn_exit ?_
                        refine then_e (then_e (block_e (block_n (then_n ?_))))
                        rw [← hφ4] at hm
                        replace hm := done_b hm
                        unfold gameroomref_MovesAll_K4 at hm
                        try dsimp only at hm
                        have hm : ((gameroomref_MovesAll_J6 to1) l6).bind φ2 = some r := hm
                        exact ⟨l6, A8, c8, hF.weak [1, 3, 4, 5] (by kernel_rfl), hS, hm⟩
                  · replace hm := if_f hm hb
                    refine oneR ?_
                    obtain ⟨hp5, hm⟩ := asrt_b hm
                    refine at_run 4 [] [] [1, 4, 5, 90, 93] [pl 1 (.pointer (some ⟨g1, 0, none⟩)), pl 4 (.int .i64 from1), pl 5 (.int .i64 to1), pl 90 (.slice A5 l4.length c5), pl 93 (.agg #[.int .i64 from1, .int .i64 to1, .int .i64 0])] hF hS (by kernel_rfl) (by kernel_rfl) ?_ (fun a w hF hS => ?_)
                    · exact obs_nil
                    refine at_do (d := 94) (s := vS (Instr.buildSlice 81 1 #[(0, .agg #[.int .i64 from1, .int .i64 to1, .int .i64 0])])) (v := .slice (some ⟨w.heap.size, 0, none⟩) 1 1) (w' := w.alloc (.cells #[.int .i64 from1, .int .i64 to1, .int .i64 0] 88)) hF (by kernel_rfl) (by kernel_rfl) (by kernel_rfl) (fun a hF => ?_)
                    have hS : Sep w0 B (w.alloc (.cells #[.int .i64 from1, .int .i64 to1, .int .i64 0] 88)) (ownK 88 3 (some (⟨w.heap.size, 0, none⟩ : Addr)) 1 1 (List.flatMap enc88 ([(from1, to1, 0)] : List (Int × Int × Int))) :: (blk g1 75 #[.slice A1 p1.length c1, .int .i64 p2, .int .i64 p3, .int .i64 p4, .int .i64 p5, .int .i64 p6] :: ownK 88 3 A5 l4.length c5 (List.flatMap enc88 l4) :: fs)) := hS.litK 88 3 #[.int .i64 from1, .int .i64 to1, .int .i64 0] 1 rfl (by omega)
                    generalize (some (⟨w.heap.size, 0, none⟩ : Addr)) = g3 at hF hS
                    generalize w.alloc (.cells #[.int .i64 from1, .int .i64 to1, .int .i64 0] 88) = w at hS ⊢
                    obtain ⟨A11, c11, w, hrun, hS⟩ := run_appK (P := Try.prog) (t := 81) (m := l4) (ys := ([(from1, to1, 0)] : List (Int × Int × Int))) (A2 := g3) (m2 := 1) (c2 := 1) encK88 (hS.at_ 2 rfl) (hS.at_ 0 rfl).rdK ((hS.at_ 0 rfl).lenK encK88) 81 Und81 hi88 hz88 hs88 rfl (by omega) hp5
                    have hS : Sep w0 B w (ownK 88 3 g3 1 1 (List.flatMap enc88 ([(from1, to1, 0)] : List (Int × Int × Int))) :: blk g1 75 #[.slice A1 p1.length c1, .int .i64 p2, .int .i64 p3, .int .i64 p4, .int .i64 p5, .int .i64 p6] :: ownK 88 3 A11 ((l4 ++ ([(from1, to1, 0)] : List (Int × Int × Int))).length) c11 (List.flatMap enc88 (l4 ++ ([(from1, to1, 0)] : List (Int × Int × Int)))) :: fs) := hS
                    refine at_do (d := 95) hF (by kernel_rfl) (by kernel_rfl) hrun (fun a hF => ?_)
                    refine at_run 1 [] [] [1, 3, 4, 5] [pl 1 (.pointer (some ⟨g1, 0, none⟩)), pl 3 (.slice A11 ((l4 ++ ([(from1, to1, 0)] : List (Int × Int × Int))).length) c11), pl 4 (.int .i64 from1), pl 5 (.int .i64 to1)] hF hS (by kernel_rfl) (by kernel_rfl) ?_ (fun a w hF hS => ?_)
                    · exact obs_nil
                    refine at_end [1, 3, 4, 5] [pl 1 (.pointer (some ⟨g1, 0, none⟩)), pl 3 (.slice A11 ((l4 ++ ([(from1, to1, 0)] : List (Int × Int × Int))).length) c11), pl 4 (.int .i64 from1), pl 5 (.int .i64 to1)] hF rfl (by kernel_rfl) (fun hF => ?_)
                    refine block_n ?_
                    refine then_n ?_
                    have hS := hS.pickN 3 [1, 2] (by decide)
                    exact ⟨(l4 ++ ([(from1, to1, 0)] : List (Int × Int × Int))), A11, c11, hF.weak [1, 3, 4, 5] (by kernel_rfl), hS, hm⟩
                · refine seq_cut (fun a w => ∃ (z1 : Bool), Fr 97 [pl 1 (.pointer (some ⟨g1, 0, none⟩)), pl 3 (.slice A5 l4.length c5), pl 4 (.int .i64 from1), pl 5 (.int .i64 to1), pl 63 (.bool z1)] a ∧ Sep w0 B w (blk g1 75 #[.slice A1 p1.length c1, .int .i64 p2, .int .i64 p3, .int .i64 p4, .int .i64 p5, .int .i64 p6] :: ownK 88 3 A5 l4.length c5 (List.flatMap enc88 l4) :: fs) ∧ ((gameroomref_MovesAll_J11 p1 from1 l4 to1) z1).bind φ2 = some r) ?_ ?_
                  · rintro a w ⟨z1, hF, hS, hm⟩
                    unfold gameroomref_MovesAll_J11 at hm
                    refine cond_ev (t := 63) (b := z1) hF (by kernel_rfl) (fun hb => ?_) (fun hb => ?_)
                    · replace hm := if_t hm hb
                      refine wpIn_exit ?_
                      refine then_e (block_e (then_n ?_))
                      exact ⟨l4, A5, c5, hF.weak [1, 3, 4, 5] (by kernel_rfl), hS, hm⟩
                    · replace hm := if_f hm hb
                      refine wpIn_skip ?_
                      refine then_n ?_
                      exact ⟨hF.weak [1, 3, 4, 5] (by kernel_rfl), hS, hm⟩
                  · refine regMix3 [0, 1, 2, 3, 4, 5, 6, 9, 10] 7 [8, 11, 12] [⟨false, [(!ok2, false)], vS (Instr.loadAt 75 (.pointer (some ⟨g1, 0, none⟩))), .agg #[.slice A1 p1.length c1, .int .i64 p2, .int .i64 p3, .int .i64 p4, .int .i64 p5, .int .i64 p6]⟩, ⟨false, [(!ok2, false)], vS (Instr.loadAt 3 (.pointer (some ⟨g1, 1, none⟩))), .int .i64 p2⟩] [none, none, none, some (.agg #[.slice A1 p1.length c1, .int .i64 p2, .int .i64 p3, .int .i64 p4, .int .i64 p5, .int .i64 p6]), none, none, none, none, some (.int .i64 p2)] [1, 3, 4, 5, 53, 54, 57, 61] [pl 1 (.pointer (some ⟨g1, 0, none⟩)), pl 3 (.slice A5 l4.length c5), pl 4 (.int .i64 from1), pl 5 (.int .i64 to1), pl 53 (.bool (!ok2)), ⟨54, [(53, false)], .agg #[.slice A1 p1.length c1, .int .i64 p2, .int .i64 p3, .int .i64 p4, .int .i64 p5, .int .i64 p6]⟩, ⟨57, [(53, false)], .agg #[.int .i64 from1, .int .i64 to1, .int .i64 0]⟩, ⟨61, [(53, false)], .int .i64 p2⟩] hF hS Fol (by kernel_rfl) (by kernel_rfl) (by kernel_rfl) (by kernel_rfl) (by kernel_rfl) (by kernel_rfl) ?_ (fun a w hF hS => ?_)
                    · exact obs_cons (ob_loadA (cs := #[.slice A1 p1.length c1, .int .i64 p2, .int .i64 p3, .int .i64 p4, .int .i64 p5, .int .i64 p6]) (by kernel_rfl) (by kernel_rfl) (fun _ _ hS => (hS.at_ 0 rfl).cellsAt 0 (by rfl))) <| obs_cons (ob_load Agg3 (fun _ _ hS => (hS.at_ 0 rfl).cell rfl)) <| obs_nil
                    rcases Bool.eq_false_or_eq_true (!ok2) with hg1 | hg1
                    · replace hm := if_t hm hg1
                      obtain ⟨r5, hr5, hm⟩ := call_b hm
                      refine at_gskip (d := 58) (v := .agg #[.slice none 0 0, .int .i64 0, .int .i64 0, .int .i64 0, .int .i64 0, .int .i64 0]) (hs := [(!ok2, false)]) (ctx := [(53, false)]) hF (by kernel_rfl) (by kernel_rfl) (fun h => absurd (h (!ok2, false) (by simp)) (by simp [hg1])) (fun a hF => ?_)
                      refine at_fin3 rfl (hS) ?_
                      refine at_run 3 [⟨false, [(!ok2, false)], callFunc 130 #[.slice none 0 0, .int .i64 p2], .bool r5⟩] [none, some (.bool r5), none] [1, 3, 4, 5, 63] [pl 1 (.pointer (some ⟨g1, 0, none⟩)), pl 3 (.slice A5 l4.length c5), pl 4 (.int .i64 from1), pl 5 (.int .i64 to1), pl 63 (.bool ((!ok2) || r5))] hF hS (by kernel_rfl) (by kernel_rfl) ?_ (fun a w hF hS => ?_)
                      · exact obs_cons (Ob.vac (fun h => absurd (h (!ok2, false) (by simp)) (by simp [hg1]))) <| obs_nil
                      refine at_end [1, 3, 4, 5, 63] [pl 1 (.pointer (some ⟨g1, 0, none⟩)), pl 3 (.slice A5 l4.length c5), pl 4 (.int .i64 from1), pl 5 (.int .i64 to1), pl 63 (.bool ((!ok2) || r5))] hF rfl (by kernel_rfl) (fun hF => ?_)
                      refine np_n ?_
                      refine then_n ?_
                      exact ⟨((!ok2) || r5), hF.weak [1, 3, 4, 5, 63] (by kernel_rfl), hS, hm⟩
                    · replace hm := if_f hm hg1
                      obtain ⟨r6, hr6, hm⟩ := call_b hm
                      obtain ⟨r7, hr7, hm⟩ := call_b hm
                      refine at_gcall (hs := [(!ok2, false)]) (fun y hy => by simp only [List.mem_cons, List.not_mem_nil, or_false] at hy; subst hy; first | exact hg1) (f := 62) (args := #[.agg #[.slice A1 p1.length c1, .int .i64 p2, .int .i64 p3, .int .i64 p4, .int .i64 p5, .int .i64 p6], .agg #[.int .i64 from1, .int .i64 to1, .int .i64 0]]) (d := 58) hF (by kernel_rfl) (by kernel_rfl) Try.func62 (by kernel_rfl) rfl (gameroomref_MoveDone_w hr6 hS (fun _ hS => (hr_p1 _ (hS.dropN 2))) _hc_p1 rfl) (fun v a w hR hF => ?_)
                      clear hS
                      obtain ⟨A6, c6, rfl, hS⟩ := hR
                      have hS : Sep w0 B w (own 3 (.slice A6 r6.1.length c6) (vI r6.1) :: blk g1 75 #[.slice A1 p1.length c1, .int .i64 p2, .int .i64 p3, .int .i64 p4, .int .i64 p5, .int .i64 p6] :: ownK 88 3 A5 l4.length c5 (List.flatMap enc88 l4) :: fs) := hS
                      refine at_fin3 rfl (hS.pickN 3 [1, 2] (by decide)) ?_
                      refine at_run 3 [⟨false, [(!ok2, false)], callFunc 130 #[.slice A6 r6.1.length c6, .int .i64 p2], .bool r7⟩] [none, some (.bool r7), none] [1, 3, 4, 5, 63] [pl 1 (.pointer (some ⟨g1, 0, none⟩)), pl 3 (.slice A5 l4.length c5), pl 4 (.int .i64 from1), pl 5 (.int .i64 to1), pl 63 (.bool ((!ok2) || r7))] hF hS (by kernel_rfl) (by kernel_rfl) ?_ (fun a w hF hS => ?_)
                      · exact obs_cons (ob_call Try.func130 (by kernel_rfl) rfl (fun hy _ hS => gameroomref_InCheck_w (ite_some hr7 (by rw [show (!ok2) = false from hy (!ok2, false) (by simp)]; try rfl)) hS (fun _ hS => (hS.at_ 0 rfl).rd) ((hS.at_ 0 rfl).cap1) rfl)) <| obs_nil
                      refine at_end [1, 3, 4, 5, 63] [pl 1 (.pointer (some ⟨g1, 0, none⟩)), pl 3 (.slice A5 l4.length c5), pl 4 (.int .i64 from1), pl 5 (.int .i64 to1), pl 63 (.bool ((!ok2) || r7))] hF rfl (by kernel_rfl) (fun hF => ?_)
                      refine np_n ?_
                      refine then_n ?_
                      have hS := hS.pickN 3 [1, 2] (by decide)
                      exact ⟨((!ok2) || r7), hF.weak [1, 3, 4, 5, 63] (by kernel_rfl), hS, hm⟩
              · refine reg [] [] [1, 3, 4, 5, 6, 7] [pl 1 (.pointer (some ⟨g1, 0, none⟩)), pl 3 (.slice A5 l4.length c5), pl 4 (.int .i64 from1), pl 5 (.int .i64 to1), pl 6 (.bool r2), pl 7 (.int .i64 0)] hF hS Fol (by kernel_rfl) (by kernel_rfl) (by kernel_rfl) ?_ (fun a w hF hS => ?_)
                · exact obs_nil
                refine wpIn_block ?_
                refine wp_loop_model (S := (Bool × Int)) (R := Bool) (gameroomref_MovesAll_L3 p1 p2 p3 p4 p5 p6 from1 to1) (fun x => ((gameroomref_MovesAll_K3 p1 p2 p3 p4 p5 p6 from1 l4 to1) x).bind φ2) r (fun (x : (Bool × Int)) a w => Fr 97 [pl 1 (.pointer (some ⟨g1, 0, none⟩)), pl 3 (.slice A5 l4.length c5), pl 4 (.int .i64 from1), pl 5 (.int .i64 to1), pl 6 (.bool x.1), pl 7 (.int .i64 x.2)] a ∧ Sep w0 B w (blk g1 75 #[.slice A1 p1.length c1, .int .i64 p2, .int .i64 p3, .int .i64 p4, .int .i64 p5, .int .i64 p6] :: ownK 88 3 A5 l4.length c5 (List.flatMap enc88 l4) :: fs)) (assoc_b hm) ⟨hF.weak [1, 3, 4, 5, 6, 7] (by kernel_rfl), hS⟩ ?_
                clear hF hS hm
                rintro nn3 ⟨ok1, n2⟩ a w ⟨hF, hS⟩ hm
                generalize hφ3 : stK (gameroomref_MovesAll_L3 p1 p2 p3 p4 p5 p6 from1 to1) nn3 (fun x => ((gameroomref_MovesAll_K3 p1 p2 p3 p4 p5 p6 from1 l4 to1) x).bind φ2) = φ3 at hm
                unfold gameroomref_MovesAll_L3 at hm
                dsimp only at hF hS hm
                refine seq_cut (fun a w => Fr 97 [pl 1 (.pointer (some ⟨g1, 0, none⟩)), pl 3 (.slice A5 l4.length c5), pl 4 (.int .i64 from1), pl 5 (.int .i64 to1), pl 6 (.bool ok1), pl 7 (.int .i64 n2)] a ∧ Sep w0 B w (blk g1 75 #[.slice A1 p1.length c1, .int .i64 p2, .int .i64 p3, .int .i64 p4, .int .i64 p5, .int .i64 p6] :: ownK 88 3 A5 l4.length c5 (List.flatMap enc88 l4) :: fs) ∧ ((gameroomref_MovesAll_J8 p1 p2 p3 p4 p5 p6 to1 ok1 n2)).bind φ3 = some r) ?_ ?_
                · rintro a w ⟨hF, hS, hm⟩
                  unfold gameroomref_MovesAll_J8 at hm
                  refine seq_cut (fun a w => ∃ (ok3 : Bool), Fr 97 [pl 1 (.pointer (some ⟨g1, 0, none⟩)), pl 3 (.slice A5 l4.length c5), pl 4 (.int .i64 from1), pl 5 (.int .i64 to1), pl 6 (.bool ok3), pl 7 (.int .i64 n2)] a ∧ Sep w0 B w (blk g1 75 #[.slice A1 p1.length c1, .int .i64 p2, .int .i64 p3, .int .i64 p4, .int .i64 p5, .int .i64 p6] :: ownK 88 3 A5 l4.length c5 (List.flatMap enc88 l4) :: fs) ∧ ((gameroomref_MovesAll_J9 n2) ok3).bind φ3 = some r) ?_ ?_
                  · rintro a w ⟨ok3, hF, hS, hm⟩
                    unfold gameroomref_MovesAll_J9 at hm
                    refine reg1 [] [] [1, 3, 4, 5, 6, 7] [pl 1 (.pointer (some ⟨g1, 0, none⟩)), pl 3 (.slice A5 l4.length c5), pl 4 (.int .i64 from1), pl 5 (.int .i64 to1), pl 6 (.bool ok3), pl 7 (.int .i64 (w64 (n2 + 1)))] hF hS Fol (by kernel_rfl) (by kernel_rfl) (by kernel_rfl) ?_ (fun a w hF hS => ?_)
                    · exact obs_nil
                    refine then_n ?_
                    rw [← hφ3] at hm
                    exact ⟨(ok3, (w64 (n2 + 1))), ⟨hF.weak [1, 3, 4, 5, 6, 7] (by kernel_rfl), hS⟩, hm⟩
                  · refine wpIn_block ?_
                    obtain ⟨r4, hr4, hm⟩ := call_b hm
                    refine reg1 [⟨false, [(ok1, false)], vS (Instr.loadAt 75 (.pointer (some ⟨g1, 0, none⟩))), .agg #[.slice A1 p1.length c1, .int .i64 p2, .int .i64 p3, .int .i64 p4, .int .i64 p5, .int .i64 p6]⟩, ⟨false, [(ok1, false)], callFunc 140 #[.agg #[.slice A1 p1.length c1, .int .i64 p2, .int .i64 p3, .int .i64 p4, .int .i64 p5, .int .i64 p6], .int .i64 n2], .int .i64 r4⟩] [none, none, some (.agg #[.slice A1 p1.length c1, .int .i64 p2, .int .i64 p3, .int .i64 p4, .int .i64 p5, .int .i64 p6]), none, some (.int .i64 r4), none, none, none, none] [1, 3, 4, 5, 6, 7] [pl 1 (.pointer (some ⟨g1, 0, none⟩)), pl 3 (.slice A5 l4.length c5), pl 4 (.int .i64 from1), pl 5 (.int .i64 to1), pl 6 (.bool (ok1 || (r4 == to1))), pl 7 (.int .i64 n2)] hF hS Fol (by kernel_rfl) (by kernel_rfl) (by kernel_rfl) ?_ (fun a w hF hS => ?_)
                    · exact obs_cons (ob_loadA (cs := #[.slice A1 p1.length c1, .int .i64 p2, .int .i64 p3, .int .i64 p4, .int .i64 p5, .int .i64 p6]) (by kernel_rfl) (by kernel_rfl) (fun _ _ hS => (hS.at_ 0 rfl).cellsAt 0 (by rfl))) <| obs_cons (ob_call Try.func140 (by kernel_rfl) rfl (fun hy _ hS => gameroomref_castleTo_w (ite_some hr4 (by rw [show ok1 = false from hy (ok1, false) (by simp)]; try rfl)) hS (fun _ hS => (hr_p1 _ (hS.dropN 2))) _hc_p1 rfl)) <| obs_nil
                    refine block_n ?_
                    refine then_n ?_
                    exact ⟨(ok1 || (r4 == to1)), hF.weak [1, 3, 4, 5, 6, 7] (by kernel_rfl), hS, hm⟩
                · obtain ⟨hp2, hm⟩ := asrt_b hm
                  obtain ⟨r3, hr3, hm⟩ := call_b hm
                  refine reg [⟨false, [(decide (n2 < 4), true)], vS (Instr.loadAt 27 (.pointer (some ⟨g1, 0, none⟩))), .slice A1 p1.length c1⟩, ⟨true, [(decide (n2 < 4), true)], vS (Instr.indexAt 27 (.slice A1 p1.length c1) (.int .i64 from1)), .pointer (some (sAddr A1 from1))⟩, ⟨false, [(decide (n2 < 4), true)], vS (Instr.loadAt 3 (.pointer (some (sAddr A1 from1)))), .int .i64 (geti p1 from1)⟩, ⟨false, [(decide (n2 < 4), true)], callFunc 129 #[.int .i64 (geti p1 from1)], .int .i64 r3⟩] [none, none, none, none, some (.slice A1 p1.length c1), none, some (.pointer (some (sAddr A1 from1))), some (.int .i64 (geti p1 from1)), some (.int .i64 r3), none, none] [1, 3, 4, 5, 6, 7, 40] [pl 1 (.pointer (some ⟨g1, 0, none⟩)), pl 3 (.slice A5 l4.length c5), pl 4 (.int .i64 from1), pl 5 (.int .i64 to1), pl 6 (.bool ok1), pl 7 (.int .i64 n2), pl 40 (.bool ((decide (n2 < 4)) && (r3 == 6)))] hF hS Fol (by kernel_rfl) (by kernel_rfl) (by kernel_rfl) ?_ (fun a w hF hS => ?_)
                  · exact obs_cons (ob_load Agg27 (fun _ _ hS => (hS.at_ 0 rfl).cell rfl)) <| obs_cons (ob_ix1 (f := (Value.int .i64)) (m := p1) Und27 hi3 hs3 (hr_p1 _ (hS.dropN 2)) rfl (fun hy => hp2 (hy (decide (n2 < 4), true) (by simp)))) <| obs_cons (ob_get1 (n := p1.length) (m := p1) (Value.int .i64) (0 : Int) Agg3 (fun _ hS => ⟨_, (hr_p1 _ (hS.dropN 2))⟩) (fun _ hS => rfl) (fun hy => hp2 (hy (decide (n2 < 4), true) (by simp)))) <| obs_cons (ob_call Try.func129 (by kernel_rfl) rfl (fun hy _ hS => gameroomref_size_w (ite_some hr3 (by rw [show (decide (n2 < 4)) = true from hy (decide (n2 < 4), true) (by simp)]; try rfl)) hS )) <| obs_nil
                  refine cond_ev (t := 40) (b := (decide (n2 < 4)) && (r3 == 6)) hF (by kernel_rfl) (fun hb => ?_) (fun hb => ?_)
                  · replace hm := if_t hm hb
                    refine wpIn_skip ?_
                    refine then_n ?_
                    exact ⟨hF.weak [1, 3, 4, 5, 6, 7] (by kernel_rfl), hS, hm⟩
                  · replace hm := if_f hm hb
                    refine wpIn_exit ?_
                    refine then_e (then_e (block_e (then_n ?_)))
                    rw [← hφ3] at hm
                    replace hm := done_b hm
                    unfold gameroomref_MovesAll_K3 at hm
                    try dsimp only at hm
                    have hm : ((gameroomref_MovesAll_J7 p1 p2 p3 p4 p5 p6 from1 l4 to1) ok1).bind φ2 = some r := hm
                    exact ⟨ok1, hF.weak [1, 3, 4, 5, 6] (by kernel_rfl), hS, hm⟩
          · refine reg [] [] [1, 3, 4, 5, 23] [pl 1 (.pointer (some ⟨g1, 0, none⟩)), pl 3 (.slice A5 l4.length c5), pl 4 (.int .i64 from1), pl 5 (.int .i64 to1), pl 23 (.bool (decide (to1 < 64)))] hF hS Fol (by kernel_rfl) (by kernel_rfl) (by kernel_rfl) ?_ (fun a w hF hS => ?_)
            · exact obs_nil
            refine cond_ev (t := 23) (b := decide (to1 < 64)) hF (by kernel_rfl) (fun hb => ?_) (fun hb => ?_)
            · replace hm := if_t hm hb
              refine wpIn_skip ?_
              refine then_n ?_
              exact ⟨hF.weak [1, 3, 4, 5] (by kernel_rfl), hS, hm⟩
            · replace hm := if_f hm hb
              refine wpIn_exit ?_
              refine then_e (then_e (block_e (block_n (then_n ?_))))
              rw [← hφ2] at hm
              replace hm := done_b hm
              unfold gameroomref_MovesAll_K2 at hm
              try dsimp only at hm
              have hm : ((gameroomref_MovesAll_J3 from1) l4).bind φ1 = some r := hm
              exact ⟨l4, A5, c5, hF.weak [1, 3, 4] (by kernel_rfl), hS, hm⟩
        · obtain ⟨hp1, hm⟩ := asrt_b hm
          obtain ⟨r1, hr1, hm⟩ := call_b hm
          refine reg [⟨false, [], vS (Instr.loadAt 27 (.pointer (some ⟨g1, 0, none⟩))), .slice A1 p1.length c1⟩, ⟨true, [], vS (Instr.indexAt 27 (.slice A1 p1.length c1) (.int .i64 from1)), .pointer (some (sAddr A1 from1))⟩, ⟨false, [], vS (Instr.loadAt 3 (.pointer (some (sAddr A1 from1)))), .int .i64 (geti p1 from1)⟩, ⟨false, [], callFunc 138 #[.int .i64 (geti p1 from1)], .int .i64 r1⟩, ⟨false, [], vS (Instr.loadAt 3 (.pointer (some ⟨g1, 1, none⟩))), .int .i64 p2⟩] [none, some (.slice A1 p1.length c1), none, some (.pointer (some (sAddr A1 from1))), some (.int .i64 (geti p1 from1)), some (.int .i64 r1), none, some (.int .i64 p2), none] [1, 3, 4, 21] [pl 1 (.pointer (some ⟨g1, 0, none⟩)), pl 3 (.slice A2 l1.length c2), pl 4 (.int .i64 from1), pl 21 (.bool (r1 != p2))] hF hS Fol (by kernel_rfl) (by kernel_rfl) (by kernel_rfl) ?_ (fun a w hF hS => ?_)
          · exact obs_cons (ob_load Agg27 (fun _ _ hS => (hS.at_ 0 rfl).cell rfl)) <| obs_cons (ob_ix1 (f := (Value.int .i64)) (m := p1) Und27 hi3 hs3 (hr_p1 _ (hS.dropN 2)) rfl (fun _ => hp1)) <| obs_cons (ob_get1 (n := p1.length) (m := p1) (Value.int .i64) (0 : Int) Agg3 (fun _ hS => ⟨_, (hr_p1 _ (hS.dropN 2))⟩) (fun _ hS => rfl) (fun _ => hp1)) <| obs_cons (ob_call Try.func138 (by kernel_rfl) rfl (fun _ _ hS => gameroomref_pieceSide_w hr1 hS )) <| obs_cons (ob_load Agg3 (fun _ _ hS => (hS.at_ 0 rfl).cell rfl)) <| obs_nil
          refine cond_ev (t := 21) (b := (r1 != p2)) hF (by kernel_rfl) (fun hb => ?_) (fun hb => ?_)
          · replace hm := if_t hm hb
            refine wpIn_exit ?_
            refine then_e (block_e (then_n ?_))
            exact ⟨l1, A2, c2, hF.weak [1, 3, 4] (by kernel_rfl), hS, hm⟩
          · replace hm := if_f hm hb
            refine wpIn_skip ?_
            refine then_n ?_
            exact ⟨hF.weak [1, 3, 4] (by kernel_rfl), hS, hm⟩
    · refine reg [] [] [1, 3, 4, 10] [pl 1 (.pointer (some ⟨g1, 0, none⟩)), pl 3 (.slice A2 l1.length c2), pl 4 (.int .i64 from1), pl 10 (.bool (decide (from1 < 64)))] hF hS Fol (by kernel_rfl) (by kernel_rfl) (by kernel_rfl) ?_ (fun a w hF hS => ?_)
      · exact obs_nil
      refine cond_ev (t := 10) (b := decide (from1 < 64)) hF (by kernel_rfl) (fun hb => ?_) (fun hb => ?_)
      · replace hm := if_t hm hb
        refine wpIn_skip ?_
        refine then_n ?_
        exact ⟨hF.weak [1, 3, 4] (by kernel_rfl), hS, hm⟩
      · replace hm := if_f hm hb
        refine wpIn_exit ?_
        refine then_e (then_e (block_e (then_n ?_)))
        have hS := hS.pickN 2 [1] (by decide)
        rw [← hφ1] at hm
        replace hm := done_b hm
        unfold gameroomref_MovesAll_K1 at hm
        try dsimp only at hm
        have hm : (gameroomref_MovesAll_J1 l1).bind some = some r := hm
        exact ⟨l1, A2, c2, hF.weak [3] (by kernel_rfl), hS, hm⟩

noncomputable def gameroomref_CountRows_J5  (i1 : Int) (n4 : Int) : Option (St (Int × Int) Int) :=
  some (.next (n4, (w64 (i1 + 1))))

noncomputable def gameroomref_CountRows_J4  (rec_gameroomref_CountRows : List Int → Int → Int → Int → Int → Int → Int → Option Int) (p1 : List Int) (p2 : Int) (p3 : Int) (p4 : Int) (p5 : Int) (p6 : Int) (plies1 : Int) (r1 : (List (Int × Int × Int))) (n2 : Int) (i1 : Int) : Option (St (Int × Int) Int) :=
  asrt (0 ≤ i1 ∧ i1 < (r1.length : Int)) <| (gameroomref_MoveDone_m p1 p2 p3 p4 p5 p6 ((getd ((0, 0, 0) : (Int × Int × Int)) r1 i1).1) ((getd ((0, 0, 0) : (Int × Int × Int)) r1 i1).2.1) ((getd ((0, 0, 0) : (Int × Int × Int)) r1 i1).2.2)).bind fun r2 => (rec_gameroomref_CountRows r2.1 r2.2.1 r2.2.2.1 r2.2.2.2.1 r2.2.2.2.2.1 r2.2.2.2.2.2 (w64 (plies1 - 1))).bind fun r3 => (gameroomref_CountRows_J5 i1) (w64 (n2 + r3))

noncomputable def gameroomref_CountRows_J3  (n3 : Int) : Option Int :=
  some n3

noncomputable def gameroomref_CountRows_K1  : Int → Option Int :=
  fun (x : Int) => match x with | n3 => gameroomref_CountRows_J3 n3

noncomputable def gameroomref_CountRows_L1  (rec_gameroomref_CountRows : List Int → Int → Int → Int → Int → Int → Int → Option Int) (p1 : List Int) (p2 : Int) (p3 : Int) (p4 : Int) (p5 : Int) (p6 : Int) (plies1 : Int) (r1 : (List (Int × Int × Int))) : (Int × Int) → Option (St (Int × Int) Int) :=
  fun (x : (Int × Int)) => match x with | (n2, i1) => if (decide (i1 < (r1.length : Int))) then ((gameroomref_CountRows_J4 rec_gameroomref_CountRows p1 p2 p3 p4 p5 p6 plies1 r1 n2 i1)) else (some (.done n2))

noncomputable def gameroomref_CountRows_J2  (rec_gameroomref_CountRows : List Int → Int → Int → Int → Int → Int → Int → Option Int) (p1 : List Int) (p2 : Int) (p3 : Int) (p4 : Int) (p5 : Int) (p6 : Int) (plies1 : Int) (r1 : (List (Int × Int × Int))) : Option Int :=
  (loop (gameroomref_CountRows_L1 rec_gameroomref_CountRows p1 p2 p3 p4 p5 p6 plies1 r1) (0, 0)).bind gameroomref_CountRows_K1

noncomputable def gameroomref_CountRows_J1  (rec_gameroomref_CountRows : List Int → Int → Int → Int → Int → Int → Int → Option Int) (p1 : List Int) (p2 : Int) (p3 : Int) (p4 : Int) (p5 : Int) (p6 : Int) (plies1 : Int) : Option Int :=
  (gameroomref_MovesAll_m p1 p2 p3 p4 p5 p6).bind fun r1 => if (plies1 == 1) then (some (r1.length : Int)) else ((gameroomref_CountRows_J2 rec_gameroomref_CountRows p1 p2 p3 p4 p5 p6 plies1 r1))

noncomputable def gameroomref_CountRows_B (rec_gameroomref_CountRows : List Int → Int → Int → Int → Int → Int → Int → Option Int) (p1 : List Int) (p2 : Int) (p3 : Int) (p4 : Int) (p5 : Int) (p6 : Int) (plies1 : Int) : Option Int :=
  if (plies1 == 0) then (some 1) else ((gameroomref_CountRows_J1 rec_gameroomref_CountRows p1 p2 p3 p4 p5 p6 plies1))

noncomputable def gameroomref_CountRows_mF : Nat → List Int → Int → Int → Int → Int → Int → Int → Option Int
  | 0 => fun _ _ _ _ _ _ _ => none
  | n + 1 => fun p1 p2 p3 p4 p5 p6 plies1 => gameroomref_CountRows_B (gameroomref_CountRows_mF n) p1 p2 p3 p4 p5 p6 plies1

noncomputable def gameroomref_CountRows_m (p1 : List Int) (p2 : Int) (p3 : Int) (p4 : Int) (p5 : Int) (p6 : Int) (plies1 : Int) : Option Int :=
  recM fun n => gameroomref_CountRows_mF n p1 p2 p3 p4 p5 p6 plies1

set_option maxRecDepth 100000 in
set_option maxHeartbeats 4000000 in
theorem gameroomref_CountRows_wB {rec_gameroomref_CountRows : List Int → Int → Int → Int → Int → Int → Int → Option Int} (ih_gameroomref_CountRows : ∀ {A1 : Option Addr} {c1 : Nat} {n1 : Nat} {p1 : List Int} {p2 : Int} {p3 : Int} {p4 : Int} {p5 : Int} {p6 : Int} {plies1 : Int} {r : Int} {w0 w : World} {B : Nat} {fs : List HP} (_ : rec_gameroomref_CountRows p1 p2 p3 p4 p5 p6 plies1 = some r) (_ : Sep w0 B w (fs)) (hr_p1 : RdF w0 B fs A1 (vI p1)) (_hc_p1 : p1.length ≤ c1) (_hn_p1 : n1 = p1.length), Calls Try.prog 49 #[.agg #[.slice A1 n1 c1, .int .i64 p2, .int .i64 p3, .int .i64 p4, .int .i64 p5, .int .i64 p6], .int .i64 plies1] w fun e w' => e = .returned (.int .i64 r) ∧ Sep w0 B w' (fs)) {A1 : Option Addr} {c1 : Nat} {n1 : Nat} {p1 : List Int} {p2 : Int} {p3 : Int} {p4 : Int} {p5 : Int} {p6 : Int} {plies1 : Int} {r : Int} {w0 w : World} {B : Nat} {fs : List HP} (hm : gameroomref_CountRows_B rec_gameroomref_CountRows p1 p2 p3 p4 p5 p6 plies1 = some r) (hS : Sep w0 B w (fs)) (hr_p1 : RdF w0 B fs A1 (vI p1)) (_hc_p1 : p1.length ≤ c1) (_hn_p1 : n1 = p1.length) :
    Calls Try.prog 49 #[.agg #[.slice A1 n1 c1, .int .i64 p2, .int .i64 p3, .int .i64 p4, .int .i64 p5, .int .i64 p6], .int .i64 plies1] w fun e w' => e = .returned (.int .i64 r) ∧ Sep w0 B w' (fs) := by
  obtain ⟨i3, hi3, hz3, hs3, hb3⟩ := info_parts Info3
  obtain ⟨i88, hi88, hz88, hs88, hb88⟩ := info_parts Info88
  obtain rfl := _hn_p1
  unfold gameroomref_CountRows_B at hm
  replace hm := start_b hm
  refine enter (l := [.agg #[.slice A1 p1.length c1, .int .i64 p2, .int .i64 p3, .int .i64 p4, .int .i64 p5, .int .i64 p6], .int .i64 plies1]) (n := 34) Try.func49 rfl rfl (by simp) (fun a hF => ?_)
  refine seqR ?_
  refine at_do (d := 2) (s := vS (Instr.box 75 (.agg #[.slice A1 p1.length c1, .int .i64 p2, .int .i64 p3, .int .i64 p4, .int .i64 p5, .int .i64 p6]))) (v := .pointer (some ⟨w.heap.size, 0, none⟩)) (w' := w.alloc (.cells #[.slice A1 p1.length c1, .int .i64 p2, .int .i64 p3, .int .i64 p4, .int .i64 p5, .int .i64 p6] 75)) hF (by kernel_rfl) (by kernel_rfl) (by kernel_rfl) (fun a hF => ?_)
  have hS : Sep w0 B (w.alloc (.cells #[.slice A1 p1.length c1, .int .i64 p2, .int .i64 p3, .int .i64 p4, .int .i64 p5, .int .i64 p6] 75)) (blk w.heap.size 75 #[.slice A1 p1.length c1, .int .i64 p2, .int .i64 p3, .int .i64 p4, .int .i64 p5, .int .i64 p6] :: (fs)) := hS.box 75 #[.slice A1 p1.length c1, .int .i64 p2, .int .i64 p3, .int .i64 p4, .int .i64 p5, .int .i64 p6]
  generalize w.heap.size = g1 at hF hS
  generalize w.alloc (.cells #[.slice A1 p1.length c1, .int .i64 p2, .int .i64 p3, .int .i64 p4, .int .i64 p5, .int .i64 p6] 75) = w at hS ⊢
  refine at_run 1 [] [] [1, 2] [pl 1 (.int .i64 plies1), pl 2 (.pointer (some ⟨g1, 0, none⟩))] hF hS (by kernel_rfl) (by kernel_rfl) ?_ (fun a w hF hS => ?_)
  · exact obs_nil
  refine at_end [1, 2] [pl 1 (.int .i64 plies1), pl 2 (.pointer (some ⟨g1, 0, none⟩))] hF rfl (by kernel_rfl) (fun hF => ?_)
  refine then_n ?_
  refine seq_cut (fun a w => Fr 34 [pl 1 (.int .i64 plies1), pl 2 (.pointer (some ⟨g1, 0, none⟩))] a ∧ Sep w0 B w (blk g1 75 #[.slice A1 p1.length c1, .int .i64 p2, .int .i64 p3, .int .i64 p4, .int .i64 p5, .int .i64 p6] :: fs) ∧ ((gameroomref_CountRows_J1 rec_gameroomref_CountRows p1 p2 p3 p4 p5 p6 plies1)).bind some = some r) ?_ ?_
  · rintro a w ⟨hF, hS, hm⟩
    unfold gameroomref_CountRows_J1 at hm
    refine seqR ?_
    obtain ⟨r1, hr1, hm⟩ := call_b hm
    refine at_run 1 [⟨false, [], vS (Instr.loadAt 75 (.pointer (some ⟨g1, 0, none⟩))), .agg #[.slice A1 p1.length c1, .int .i64 p2, .int .i64 p3, .int .i64 p4, .int .i64 p5, .int .i64 p6]⟩] [some (.agg #[.slice A1 p1.length c1, .int .i64 p2, .int .i64 p3, .int .i64 p4, .int .i64 p5, .int .i64 p6])] [1, 2, 10] [pl 1 (.int .i64 plies1), pl 2 (.pointer (some ⟨g1, 0, none⟩)), pl 10 (.agg #[.slice A1 p1.length c1, .int .i64 p2, .int .i64 p3, .int .i64 p4, .int .i64 p5, .int .i64 p6])] hF hS (by kernel_rfl) (by kernel_rfl) ?_ (fun a w hF hS => ?_)
    · exact obs_cons (ob_loadA (cs := #[.slice A1 p1.length c1, .int .i64 p2, .int .i64 p3, .int .i64 p4, .int .i64 p5, .int .i64 p6]) (by kernel_rfl) (by kernel_rfl) (fun _ _ hS => (hS.at_ 0 rfl).cellsAt 0 (by rfl))) <| obs_nil
    refine at_call (f := 58) (args := #[.agg #[.slice A1 p1.length c1, .int .i64 p2, .int .i64 p3, .int .i64 p4, .int .i64 p5, .int .i64 p6]]) (d := 11) hF (by kernel_rfl) (by kernel_rfl) Try.func58 (by kernel_rfl) rfl (gameroomref_MovesAll_w hr1 hS (fun _ hS => (hr_p1 _ (hS.dropN 1))) _hc_p1 rfl) (fun v a w hR hF => ?_)
    clear hS
    obtain ⟨A2, c2, rfl, hS⟩ := hR
    have hS : Sep w0 B w (ownK 88 3 A2 r1.length c2 (List.flatMap enc88 r1) :: blk g1 75 #[.slice A1 p1.length c1, .int .i64 p2, .int .i64 p3, .int .i64 p4, .int .i64 p5, .int .i64 p6] :: fs) := hS
    refine at_run 1 [] [] [1, 2, 5] [pl 1 (.int .i64 plies1), pl 2 (.pointer (some ⟨g1, 0, none⟩)), pl 5 (.slice A2 r1.length c2)] hF hS (by kernel_rfl) (by kernel_rfl) ?_ (fun a w hF hS => ?_)
    · exact obs_nil
    refine at_end [1, 2, 5] [pl 1 (.int .i64 plies1), pl 2 (.pointer (some ⟨g1, 0, none⟩)), pl 5 (.slice A2 r1.length c2)] hF rfl (by kernel_rfl) (fun hF => ?_)
    refine then_n ?_
    refine seq_cut (fun a w => Fr 34 [pl 1 (.int .i64 plies1), pl 2 (.pointer (some ⟨g1, 0, none⟩)), pl 5 (.slice A2 r1.length c2)] a ∧ Sep w0 B w (blk g1 75 #[.slice A1 p1.length c1, .int .i64 p2, .int .i64 p3, .int .i64 p4, .int .i64 p5, .int .i64 p6] :: ownK 88 3 A2 r1.length c2 (List.flatMap enc88 r1) :: fs) ∧ ((gameroomref_CountRows_J2 rec_gameroomref_CountRows p1 p2 p3 p4 p5 p6 plies1 r1)).bind some = some r) ?_ ?_
    · rintro a w ⟨hF, hS, hm⟩
      unfold gameroomref_CountRows_J2 at hm
      refine reg [] [] [1, 2, 5, 6] [pl 1 (.int .i64 plies1), pl 2 (.pointer (some ⟨g1, 0, none⟩)), pl 5 (.slice A2 r1.length c2), pl 6 (.int .i64 0)] hF hS Fol (by kernel_rfl) (by kernel_rfl) (by kernel_rfl) ?_ (fun a w hF hS => ?_)
      · exact obs_nil
      refine seq_cut (fun a w => ∃ (n3 : Int), Fr 34 [pl 6 (.int .i64 n3)] a ∧ Sep w0 B w (fs) ∧ (gameroomref_CountRows_J3 n3).bind some = some r) ?_ ?_
      · rintro a w ⟨n3, hF, hS, hm⟩
        unfold gameroomref_CountRows_J3 at hm
        refine reg [] [] [4] [pl 4 (.int .i64 n3)] hF hS Fol (by kernel_rfl) (by kernel_rfl) (by kernel_rfl) ?_ (fun a w hF hS => ?_)
        · exact obs_nil
        refine wpIn_ret ?_
        have hm : some n3 = some r := hm
        obtain rfl := Option.some.inj hm
        exact retV (rs := [.tmp 4]) (vs := [.int .i64 n3]) hF rfl (rv_t (by kernel_rfl) <| rv_nil) rfl ⟨rfl, hS⟩
      · refine reg [] [] [1, 2, 5, 6, 7] [pl 1 (.int .i64 plies1), pl 2 (.pointer (some ⟨g1, 0, none⟩)), pl 5 (.slice A2 r1.length c2), pl 6 (.int .i64 0), pl 7 (.int .i64 0)] hF hS Fol (by kernel_rfl) (by kernel_rfl) (by kernel_rfl) ?_ (fun a w hF hS => ?_)
        · exact obs_nil
        refine wpIn_block ?_
        refine wp_loop_model (S := (Int × Int)) (R := Int) (gameroomref_CountRows_L1 rec_gameroomref_CountRows p1 p2 p3 p4 p5 p6 plies1 r1) (fun x => (gameroomref_CountRows_K1 x).bind some) r (fun (x : (Int × Int)) a w => Fr 34 [pl 1 (.int .i64 plies1), pl 2 (.pointer (some ⟨g1, 0, none⟩)), pl 5 (.slice A2 r1.length c2), pl 6 (.int .i64 x.1), pl 7 (.int .i64 x.2)] a ∧ Sep w0 B w (blk g1 75 #[.slice A1 p1.length c1, .int .i64 p2, .int .i64 p3, .int .i64 p4, .int .i64 p5, .int .i64 p6] :: ownK 88 3 A2 r1.length c2 (List.flatMap enc88 r1) :: fs)) (assoc_b hm) ⟨hF.weak [1, 2, 5, 6, 7] (by kernel_rfl), hS⟩ ?_
        clear hF hS hm
        rintro nn1 ⟨n2, i1⟩ a w ⟨hF, hS⟩ hm
        generalize hφ1 : stK (gameroomref_CountRows_L1 rec_gameroomref_CountRows p1 p2 p3 p4 p5 p6 plies1 r1) nn1 (fun x => (gameroomref_CountRows_K1 x).bind some) = φ1 at hm
        unfold gameroomref_CountRows_L1 at hm
        dsimp only at hF hS hm
        refine seq_cut (fun a w => Fr 34 [pl 1 (.int .i64 plies1), pl 2 (.pointer (some ⟨g1, 0, none⟩)), pl 5 (.slice A2 r1.length c2), pl 6 (.int .i64 n2), pl 7 (.int .i64 i1)] a ∧ Sep w0 B w (blk g1 75 #[.slice A1 p1.length c1, .int .i64 p2, .int .i64 p3, .int .i64 p4, .int .i64 p5, .int .i64 p6] :: ownK 88 3 A2 r1.length c2 (List.flatMap enc88 r1) :: fs) ∧ ((gameroomref_CountRows_J4 rec_gameroomref_CountRows p1 p2 p3 p4 p5 p6 plies1 r1 n2 i1)).bind φ1 = some r) ?_ ?_
        · rintro a w ⟨hF, hS, hm⟩
          unfold gameroomref_CountRows_J4 at hm
          refine seq_cut (fun a w => ∃ (n4 : Int), Fr 34 [pl 1 (.int .i64 plies1), pl 2 (.pointer (some ⟨g1, 0, none⟩)), pl 5 (.slice A2 r1.length c2), pl 6 (.int .i64 n4), pl 7 (.int .i64 i1)] a ∧ Sep w0 B w (blk g1 75 #[.slice A1 p1.length c1, .int .i64 p2, .int .i64 p3, .int .i64 p4, .int .i64 p5, .int .i64 p6] :: ownK 88 3 A2 r1.length c2 (List.flatMap enc88 r1) :: fs) ∧ ((gameroomref_CountRows_J5 i1) n4).bind φ1 = some r) ?_ ?_
          · rintro a w ⟨n4, hF, hS, hm⟩
            unfold gameroomref_CountRows_J5 at hm
            refine reg1 [] [] [1, 2, 5, 6, 7] [pl 1 (.int .i64 plies1), pl 2 (.pointer (some ⟨g1, 0, none⟩)), pl 5 (.slice A2 r1.length c2), pl 6 (.int .i64 n4), pl 7 (.int .i64 (w64 (i1 + 1)))] hF hS Fol (by kernel_rfl) (by kernel_rfl) (by kernel_rfl) ?_ (fun a w hF hS => ?_)
            · exact obs_nil
            refine then_n ?_
            rw [← hφ1] at hm
            exact ⟨(n4, (w64 (i1 + 1))), ⟨hF.weak [1, 2, 5, 6, 7] (by kernel_rfl), hS⟩, hm⟩
          · refine wpIn_block ?_
            obtain ⟨hp1, hm⟩ := asrt_b hm
            obtain ⟨r2, hr2, hm⟩ := call_b hm
            obtain ⟨r3, hr3, hm⟩ := call_b hm
            refine regMix4 [0, 1, 2, 3, 4, 5, 7, 8] [6, 9, 10, 11] [⟨false, [], vS (Instr.loadAt 75 (.pointer (some ⟨g1, 0, none⟩))), .agg #[.slice A1 p1.length c1, .int .i64 p2, .int .i64 p3, .int .i64 p4, .int .i64 p5, .int .i64 p6]⟩, ⟨true, [], vS (Instr.indexAt 81 (.slice A2 r1.length c2) (.int .i64 i1)), .pointer (some (sAddrK A2 3 i1))⟩, ⟨false, [], vS (Instr.loadAt 88 (.pointer (some (sAddrK A2 3 i1)))), .agg #[.int .i64 ((getd ((0, 0, 0) : (Int × Int × Int)) r1 i1).1), .int .i64 ((getd ((0, 0, 0) : (Int × Int × Int)) r1 i1).2.1), .int .i64 ((getd ((0, 0, 0) : (Int × Int × Int)) r1 i1).2.2)]⟩] [none, some (.agg #[.slice A1 p1.length c1, .int .i64 p2, .int .i64 p3, .int .i64 p4, .int .i64 p5, .int .i64 p6]), none, none, some (.pointer (some (sAddrK A2 3 i1))), some (.agg #[.int .i64 ((getd ((0, 0, 0) : (Int × Int × Int)) r1 i1).1), .int .i64 ((getd ((0, 0, 0) : (Int × Int × Int)) r1 i1).2.1), .int .i64 ((getd ((0, 0, 0) : (Int × Int × Int)) r1 i1).2.2)]), none, none] [1, 2, 5, 7, 22, 23, 27, 30] [pl 1 (.int .i64 plies1), pl 2 (.pointer (some ⟨g1, 0, none⟩)), pl 5 (.slice A2 r1.length c2), pl 7 (.int .i64 i1), pl 22 (.int .i64 n2), pl 23 (.agg #[.slice A1 p1.length c1, .int .i64 p2, .int .i64 p3, .int .i64 p4, .int .i64 p5, .int .i64 p6]), pl 27 (.agg #[.int .i64 ((getd ((0, 0, 0) : (Int × Int × Int)) r1 i1).1), .int .i64 ((getd ((0, 0, 0) : (Int × Int × Int)) r1 i1).2.1), .int .i64 ((getd ((0, 0, 0) : (Int × Int × Int)) r1 i1).2.2)]), pl 30 (.int .i64 (w64 (plies1 - 1)))] hF hS Fol (by kernel_rfl) (by kernel_rfl) (by kernel_rfl) (by kernel_rfl) (by kernel_rfl) ?_ (fun a w hF hS => ?_)
            · exact obs_cons (ob_loadA (cs := #[.slice A1 p1.length c1, .int .i64 p2, .int .i64 p3, .int .i64 p4, .int .i64 p5, .int .i64 p6]) (by kernel_rfl) (by kernel_rfl) (fun _ _ hS => (hS.at_ 0 rfl).cellsAt 0 (by rfl))) <| obs_cons (ob_ixK (m := r1) encK88 Und81 hi88 hs88 (hS.at_ 1 rfl).rdK rfl (fun _ => hp1)) <| obs_cons (ob_getK (n := r1.length) (m := r1) encK88 ((0, 0, 0) : (Int × Int × Int)) (by kernel_rfl) (by kernel_rfl) (fun _ hS => ⟨_, (hS.at_ 1 rfl).rdK⟩) (fun _ hS => rfl) (fun _ => hp1)) <| obs_nil
            refine at_call (f := 62) (args := #[.agg #[.slice A1 p1.length c1, .int .i64 p2, .int .i64 p3, .int .i64 p4, .int .i64 p5, .int .i64 p6], .agg #[.int .i64 ((getd ((0, 0, 0) : (Int × Int × Int)) r1 i1).1), .int .i64 ((getd ((0, 0, 0) : (Int × Int × Int)) r1 i1).2.1), .int .i64 ((getd ((0, 0, 0) : (Int × Int × Int)) r1 i1).2.2)]]) (d := 28) hF (by kernel_rfl) (by kernel_rfl) Try.func62 (by kernel_rfl) rfl (gameroomref_MoveDone_w hr2 hS (fun _ hS => (hr_p1 _ (hS.dropN 2))) _hc_p1 rfl) (fun v a w hR hF => ?_)
            clear hS
            obtain ⟨A3, c3, rfl, hS⟩ := hR
            have hS : Sep w0 B w (own 3 (.slice A3 r2.1.length c3) (vI r2.1) :: blk g1 75 #[.slice A1 p1.length c1, .int .i64 p2, .int .i64 p3, .int .i64 p4, .int .i64 p5, .int .i64 p6] :: ownK 88 3 A2 r1.length c2 (List.flatMap enc88 r1) :: fs) := hS
            refine at_run 3 [⟨false, [], callFunc 49 #[.agg #[.slice A3 r2.1.length c3, .int .i64 r2.2.1, .int .i64 r2.2.2.1, .int .i64 r2.2.2.2.1, .int .i64 r2.2.2.2.2.1, .int .i64 r2.2.2.2.2.2], .int .i64 (w64 (plies1 - 1))], .int .i64 r3⟩] [some (.int .i64 r3), none, none] [1, 2, 5, 6, 7] [pl 1 (.int .i64 plies1), pl 2 (.pointer (some ⟨g1, 0, none⟩)), pl 5 (.slice A2 r1.length c2), pl 6 (.int .i64 (w64 (n2 + r3))), pl 7 (.int .i64 i1)] hF hS (by kernel_rfl) (by kernel_rfl) ?_ (fun a w hF hS => ?_)
            · exact obs_cons (ob_call Try.func49 (by kernel_rfl) rfl (fun _ _ hS => ih_gameroomref_CountRows hr3 hS (fun _ hS => (hS.at_ 0 rfl).rd) ((hS.at_ 0 rfl).cap1) rfl)) <| obs_nil
            refine at_end [1, 2, 5, 6, 7] [pl 1 (.int .i64 plies1), pl 2 (.pointer (some ⟨g1, 0, none⟩)), pl 5 (.slice A2 r1.length c2), pl 6 (.int .i64 (w64 (n2 + r3))), pl 7 (.int .i64 i1)] hF rfl (by kernel_rfl) (fun hF => ?_)
            refine np_n ?_
            refine block_n ?_
            refine then_n ?_
            have hS := hS.pickN 3 [1, 2] (by decide)
            exact ⟨(w64 (n2 + r3)), hF.weak [1, 2, 5, 6, 7] (by kernel_rfl), hS, hm⟩
        · refine reg [] [] [1, 2, 5, 6, 7, 19] [pl 1 (.int .i64 plies1), pl 2 (.pointer (some ⟨g1, 0, none⟩)), pl 5 (.slice A2 r1.length c2), pl 6 (.int .i64 n2), pl 7 (.int .i64 i1), pl 19 (.bool (decide (i1 < (r1.length : Int))))] hF hS Fol (by kernel_rfl) (by kernel_rfl) (by kernel_rfl) ?_ (fun a w hF hS => ?_)
          · exact obs_nil
          refine cond_ev (t := 19) (b := decide (i1 < (r1.length : Int))) hF (by kernel_rfl) (fun hb => ?_) (fun hb => ?_)
          · replace hm := if_t hm hb
            refine wpIn_skip ?_
            refine then_n ?_
            exact ⟨hF.weak [1, 2, 5, 6, 7] (by kernel_rfl), hS, hm⟩
          · replace hm := if_f hm hb
            refine wpIn_exit ?_
            refine then_e (then_e (block_e (then_n ?_)))
            have hS := hS.pickN 2 [] (by decide)
            rw [← hφ1] at hm
            replace hm := done_b hm
            unfold gameroomref_CountRows_K1 at hm
            try dsimp only at hm
            have hm : (gameroomref_CountRows_J3 n2).bind some = some r := hm
            exact ⟨n2, hF.weak [6] (by kernel_rfl), hS, hm⟩
    · refine reg [] [] [1, 2, 5, 13] [pl 1 (.int .i64 plies1), pl 2 (.pointer (some ⟨g1, 0, none⟩)), pl 5 (.slice A2 r1.length c2), pl 13 (.bool (plies1 == 1))] hF hS Fol (by kernel_rfl) (by kernel_rfl) (by kernel_rfl) ?_ (fun a w hF hS => ?_)
      · exact obs_nil
      refine cond_ev (t := 13) (b := (plies1 == 1)) hF (by kernel_rfl) (fun hb => ?_) (fun hb => ?_)
      · replace hm := if_t hm hb
        refine reg [] [] [4] [pl 4 (.int .i64 (r1.length : Int))] hF hS Fol (by kernel_rfl) (by kernel_rfl) (by kernel_rfl) ?_ (fun a w hF hS => ?_)
        · exact obs_nil
        refine wpIn_ret ?_
        refine then_r ?_
        have hS := hS.pickN 2 [] (by decide)
        have hm : some (r1.length : Int) = some r := hm
        obtain rfl := Option.some.inj hm
        exact retV (rs := [.tmp 4]) (vs := [.int .i64 (r1.length : Int)]) hF rfl (rv_t (by kernel_rfl) <| rv_nil) rfl ⟨rfl, hS⟩
      · replace hm := if_f hm hb
        refine wpIn_skip ?_
        refine then_n ?_
        have hS := hS.pickN 2 [1, 0] (by decide)
        exact ⟨hF.weak [1, 2, 5] (by kernel_rfl), hS, hm⟩
  · refine reg [] [] [1, 2, 9] [pl 1 (.int .i64 plies1), pl 2 (.pointer (some ⟨g1, 0, none⟩)), pl 9 (.bool (plies1 == 0))] hF hS Fol (by kernel_rfl) (by kernel_rfl) (by kernel_rfl) ?_ (fun a w hF hS => ?_)
    · exact obs_nil
    refine cond_ev (t := 9) (b := (plies1 == 0)) hF (by kernel_rfl) (fun hb => ?_) (fun hb => ?_)
    · replace hm := if_t hm hb
      refine reg [] [] [4] [pl 4 (.int .i64 1)] hF hS Fol (by kernel_rfl) (by kernel_rfl) (by kernel_rfl) ?_ (fun a w hF hS => ?_)
      · exact obs_nil
      refine wpIn_ret ?_
      refine then_r ?_
      have hS := hS.pickN 1 [] (by decide)
      have hm : some 1 = some r := hm
      obtain rfl := Option.some.inj hm
      exact retV (rs := [.tmp 4]) (vs := [.int .i64 1]) hF rfl (rv_t (by kernel_rfl) <| rv_nil) rfl ⟨rfl, hS⟩
    · replace hm := if_f hm hb
      refine wpIn_skip ?_
      refine then_n ?_
      exact ⟨hF.weak [1, 2] (by kernel_rfl), hS, hm⟩

theorem gameroomref_CountRows_w {A1 : Option Addr} {c1 : Nat} {n1 : Nat} {p1 : List Int} {p2 : Int} {p3 : Int} {p4 : Int} {p5 : Int} {p6 : Int} {plies1 : Int} {r : Int} {w0 w : World} {B : Nat} {fs : List HP} (hm : gameroomref_CountRows_m p1 p2 p3 p4 p5 p6 plies1 = some r) (hS : Sep w0 B w (fs)) (hr_p1 : RdF w0 B fs A1 (vI p1)) (_hc_p1 : p1.length ≤ c1) (_hn_p1 : n1 = p1.length) :
    Calls Try.prog 49 #[.agg #[.slice A1 n1 c1, .int .i64 p2, .int .i64 p3, .int .i64 p4, .int .i64 p5, .int .i64 p6], .int .i64 plies1] w fun e w' => e = .returned (.int .i64 r) ∧ Sep w0 B w' (fs) := by
  have key : ∀ (n : Nat) {A1 : Option Addr} {c1 : Nat} {n1 : Nat} {p1 : List Int} {p2 : Int} {p3 : Int} {p4 : Int} {p5 : Int} {p6 : Int} {plies1 : Int} {r : Int} {w0 w : World} {B : Nat} {fs : List HP} (_ : gameroomref_CountRows_mF n p1 p2 p3 p4 p5 p6 plies1 = some r) (_ : Sep w0 B w (fs)) (hr_p1 : RdF w0 B fs A1 (vI p1)) (_hc_p1 : p1.length ≤ c1) (_hn_p1 : n1 = p1.length), Calls Try.prog 49 #[.agg #[.slice A1 n1 c1, .int .i64 p2, .int .i64 p3, .int .i64 p4, .int .i64 p5, .int .i64 p6], .int .i64 plies1] w fun e w' => e = .returned (.int .i64 r) ∧ Sep w0 B w' (fs) := by
    intro n
    induction n with
    | zero => intros; rename_i hm0 _ _ _ _; cases hm0
    | succ n ih => intros; rename_i hm0 hS0 h0 h1 h2; exact gameroomref_CountRows_wB (rec_gameroomref_CountRows := gameroomref_CountRows_mF n) (fun hm hS h0 h1 h2 => ih hm hS h0 h1 h2) hm0 hS0 h0 h1 h2
  obtain ⟨n, hn⟩ := recM_some hm
  exact key n hn hS hr_p1 _hc_p1 _hn_p1

set_option maxRecDepth 100000 in
theorem gameroomref_CountRows_J4_le_gameroomref_CountRows {rec_gameroomref_CountRows1 rec_gameroomref_CountRows2 : List Int → Int → Int → Int → Int → Int → Int → Option Int} (h_rec_gameroomref_CountRows : ∀ a0 a1 a2 a3 a4 a5 a6, Le (rec_gameroomref_CountRows1 a0 a1 a2 a3 a4 a5 a6) (rec_gameroomref_CountRows2 a0 a1 a2 a3 a4 a5 a6)) (p1 : List Int) (p2 : Int) (p3 : Int) (p4 : Int) (p5 : Int) (p6 : Int) (plies1 : Int) (r1 : (List (Int × Int × Int))) (n2 : Int) (i1 : Int) : Le (gameroomref_CountRows_J4 rec_gameroomref_CountRows1 p1 p2 p3 p4 p5 p6 plies1 r1 n2 i1) (gameroomref_CountRows_J4 rec_gameroomref_CountRows2 p1 p2 p3 p4 p5 p6 plies1 r1 n2 i1) := by
  unfold gameroomref_CountRows_J4
  repeat' (first | with_reducible exact Le.refl _ | with_reducible exact h_rec_gameroomref_CountRows _ _ _ _ _ _ _ | with_reducible refine Le.asrt ?_ | with_reducible refine Le.ite ?_ ?_ | refine Le.bind ?_ (fun _ => ?_) | refine Le.loop2 (fun _ => ?_) | refine Le.elim2 (fun _ => ?_) (fun _ => ?_))

set_option maxRecDepth 100000 in
theorem gameroomref_CountRows_L1_le_gameroomref_CountRows {rec_gameroomref_CountRows1 rec_gameroomref_CountRows2 : List Int → Int → Int → Int → Int → Int → Int → Option Int} (h_rec_gameroomref_CountRows : ∀ a0 a1 a2 a3 a4 a5 a6, Le (rec_gameroomref_CountRows1 a0 a1 a2 a3 a4 a5 a6) (rec_gameroomref_CountRows2 a0 a1 a2 a3 a4 a5 a6)) (p1 : List Int) (p2 : Int) (p3 : Int) (p4 : Int) (p5 : Int) (p6 : Int) (plies1 : Int) (r1 : (List (Int × Int × Int))) (x : (Int × Int)) : Le (gameroomref_CountRows_L1 rec_gameroomref_CountRows1 p1 p2 p3 p4 p5 p6 plies1 r1 x) (gameroomref_CountRows_L1 rec_gameroomref_CountRows2 p1 p2 p3 p4 p5 p6 plies1 r1 x) := by
  rcases x with ⟨n2, i1⟩
  all_goals
    unfold gameroomref_CountRows_L1
    try dsimp only
    repeat' (first | with_reducible exact Le.refl _ | with_reducible exact h_rec_gameroomref_CountRows _ _ _ _ _ _ _ | with_reducible exact gameroomref_CountRows_J4_le_gameroomref_CountRows h_rec_gameroomref_CountRows _ _ _ _ _ _ _ _ _ _ | with_reducible refine Le.asrt ?_ | with_reducible refine Le.ite ?_ ?_ | refine Le.bind ?_ (fun _ => ?_) | refine Le.loop2 (fun _ => ?_) | refine Le.elim2 (fun _ => ?_) (fun _ => ?_))

set_option maxRecDepth 100000 in
theorem gameroomref_CountRows_J2_le_gameroomref_CountRows {rec_gameroomref_CountRows1 rec_gameroomref_CountRows2 : List Int → Int → Int → Int → Int → Int → Int → Option Int} (h_rec_gameroomref_CountRows : ∀ a0 a1 a2 a3 a4 a5 a6, Le (rec_gameroomref_CountRows1 a0 a1 a2 a3 a4 a5 a6) (rec_gameroomref_CountRows2 a0 a1 a2 a3 a4 a5 a6)) (p1 : List Int) (p2 : Int) (p3 : Int) (p4 : Int) (p5 : Int) (p6 : Int) (plies1 : Int) (r1 : (List (Int × Int × Int))) : Le (gameroomref_CountRows_J2 rec_gameroomref_CountRows1 p1 p2 p3 p4 p5 p6 plies1 r1) (gameroomref_CountRows_J2 rec_gameroomref_CountRows2 p1 p2 p3 p4 p5 p6 plies1 r1) := by
  unfold gameroomref_CountRows_J2
  repeat' (first | with_reducible exact Le.refl _ | with_reducible exact h_rec_gameroomref_CountRows _ _ _ _ _ _ _ | with_reducible exact gameroomref_CountRows_L1_le_gameroomref_CountRows h_rec_gameroomref_CountRows _ _ _ _ _ _ _ _ _ | with_reducible refine Le.asrt ?_ | with_reducible refine Le.ite ?_ ?_ | refine Le.bind ?_ (fun _ => ?_) | refine Le.loop2 (fun _ => ?_) | refine Le.elim2 (fun _ => ?_) (fun _ => ?_))

set_option maxRecDepth 100000 in
theorem gameroomref_CountRows_J1_le_gameroomref_CountRows {rec_gameroomref_CountRows1 rec_gameroomref_CountRows2 : List Int → Int → Int → Int → Int → Int → Int → Option Int} (h_rec_gameroomref_CountRows : ∀ a0 a1 a2 a3 a4 a5 a6, Le (rec_gameroomref_CountRows1 a0 a1 a2 a3 a4 a5 a6) (rec_gameroomref_CountRows2 a0 a1 a2 a3 a4 a5 a6)) (p1 : List Int) (p2 : Int) (p3 : Int) (p4 : Int) (p5 : Int) (p6 : Int) (plies1 : Int) : Le (gameroomref_CountRows_J1 rec_gameroomref_CountRows1 p1 p2 p3 p4 p5 p6 plies1) (gameroomref_CountRows_J1 rec_gameroomref_CountRows2 p1 p2 p3 p4 p5 p6 plies1) := by
  unfold gameroomref_CountRows_J1
  repeat' (first | with_reducible exact Le.refl _ | with_reducible exact h_rec_gameroomref_CountRows _ _ _ _ _ _ _ | with_reducible exact gameroomref_CountRows_J2_le_gameroomref_CountRows h_rec_gameroomref_CountRows _ _ _ _ _ _ _ _ | with_reducible refine Le.asrt ?_ | with_reducible refine Le.ite ?_ ?_ | refine Le.bind ?_ (fun _ => ?_) | refine Le.loop2 (fun _ => ?_) | refine Le.elim2 (fun _ => ?_) (fun _ => ?_))

set_option maxRecDepth 100000 in
theorem gameroomref_CountRows_B_le {rec_gameroomref_CountRows1 rec_gameroomref_CountRows2 : List Int → Int → Int → Int → Int → Int → Int → Option Int} (h_rec_gameroomref_CountRows : ∀ a0 a1 a2 a3 a4 a5 a6, Le (rec_gameroomref_CountRows1 a0 a1 a2 a3 a4 a5 a6) (rec_gameroomref_CountRows2 a0 a1 a2 a3 a4 a5 a6)) (p1 : List Int) (p2 : Int) (p3 : Int) (p4 : Int) (p5 : Int) (p6 : Int) (plies1 : Int) : Le (gameroomref_CountRows_B rec_gameroomref_CountRows1 p1 p2 p3 p4 p5 p6 plies1) (gameroomref_CountRows_B rec_gameroomref_CountRows2 p1 p2 p3 p4 p5 p6 plies1) := by
  unfold gameroomref_CountRows_B
  repeat' (first | with_reducible exact Le.refl _ | with_reducible exact h_rec_gameroomref_CountRows _ _ _ _ _ _ _ | with_reducible exact gameroomref_CountRows_J1_le_gameroomref_CountRows h_rec_gameroomref_CountRows _ _ _ _ _ _ _ | with_reducible refine Le.asrt ?_ | with_reducible refine Le.ite ?_ ?_ | refine Le.bind ?_ (fun _ => ?_) | refine Le.loop2 (fun _ => ?_) | refine Le.elim2 (fun _ => ?_) (fun _ => ?_))

set_option maxRecDepth 100000 in
theorem gameroomref_CountRows_mF_le : ∀ (n : Nat) (p1 : List Int) (p2 : Int) (p3 : Int) (p4 : Int) (p5 : Int) (p6 : Int) (plies1 : Int), Le (gameroomref_CountRows_mF n p1 p2 p3 p4 p5 p6 plies1) (gameroomref_CountRows_mF (n + 1) p1 p2 p3 p4 p5 p6 plies1)
  | 0, _, _, _, _, _, _, _ => fun _ h => by cases h
  | n + 1, _, _, _, _, _, _, _ => gameroomref_CountRows_B_le (fun a0 a1 a2 a3 a4 a5 a6 => gameroomref_CountRows_mF_le n a0 a1 a2 a3 a4 a5 a6) _ _ _ _ _ _ _

set_option maxRecDepth 100000 in
theorem gameroomref_CountRows_m_of (N : Nat) (p1 : List Int) (p2 : Int) (p3 : Int) (p4 : Int) (p5 : Int) (p6 : Int) (plies1 : Int) {r : Int} (h : gameroomref_CountRows_mF N p1 p2 p3 p4 p5 p6 plies1 = some r) : gameroomref_CountRows_m p1 p2 p3 p4 p5 p6 plies1 = some r :=
  recM_mono (fun n => gameroomref_CountRows_mF_le n _ _ _ _ _ _ _) h

noncomputable def gameroomlaw_MovesCounts_J2  (p1 : List Int) (p2 : Int) (p3 : Int) (p4 : Int) (p5 : Int) (p6 : Int) (plies1 : Int) (r2 : (Int × Int)) : Option Bool :=
  ((if (r2.2 == 0) then gameroomref_CountRows_m p1 p2 p3 p4 p5 p6 plies1 else some 0)).bind fun r4 => some ((r2.2 == 0) && (r2.1 == r4))

noncomputable def gameroomlaw_MovesCounts_J1  (p1 : List Int) (p2 : Int) (p3 : Int) (p4 : Int) (p5 : Int) (p6 : Int) (plies1 : Int) (r2 : (Int × Int)) (no1 : Int) : Option Bool :=
  if (no1 != 0) then (some ((r2.2 == no1) && (r2.1 == 0))) else ((gameroomlaw_MovesCounts_J2 p1 p2 p3 p4 p5 p6 plies1 r2))

noncomputable def gameroomlaw_MovesCounts_m  (p1 : List Int) (p2 : Int) (p3 : Int) (p4 : Int) (p5 : Int) (p6 : Int) (plies1 : Int) : Option Bool :=
  (gameroomref_ChessOf_m p1 p2 p3 p4 p5 p6).bind fun r1 => (moves_Count_m r1.1 r1.2.1 r1.2.2.1 r1.2.2.2.1 r1.2.2.2.2.1 r1.2.2.2.2.2 plies1).bind fun r2 => (gameroomref_ChessMay_m p1 p2 p3 p4 p5 p6).bind fun r3 => if (!r3) then ((gameroomlaw_MovesCounts_J1 p1 p2 p3 p4 p5 p6 plies1 r2) 12) else (if ((decide (plies1 < 0)) || (decide ((3 : Int) < plies1))) then ((gameroomlaw_MovesCounts_J1 p1 p2 p3 p4 p5 p6 plies1 r2) 3) else ((gameroomlaw_MovesCounts_J1 p1 p2 p3 p4 p5 p6 plies1 r2) 0))

set_option maxRecDepth 100000 in
set_option maxHeartbeats 4000000 in
theorem gameroomlaw_MovesCounts_w {A1 : Option Addr} {c1 : Nat} {n1 : Nat} {p1 : List Int} {p2 : Int} {p3 : Int} {p4 : Int} {p5 : Int} {p6 : Int} {plies1 : Int} {r : Bool} {w0 w : World} {B : Nat} {fs : List HP} (hm : gameroomlaw_MovesCounts_m p1 p2 p3 p4 p5 p6 plies1 = some r) (hS : Sep w0 B w (fs)) (hr_p1 : RdF w0 B fs A1 (vI p1)) (_hc_p1 : p1.length ≤ c1) (_hn_p1 : n1 = p1.length) :
    Calls Try.prog 8 #[.agg #[.slice A1 n1 c1, .int .i64 p2, .int .i64 p3, .int .i64 p4, .int .i64 p5, .int .i64 p6], .int .i64 plies1] w fun e w' => e = .returned (.bool r) ∧ Sep w0 B w' (fs) := by
  obtain ⟨i3, hi3, hz3, hs3, hb3⟩ := info_parts Info3
  obtain rfl := _hn_p1
  unfold gameroomlaw_MovesCounts_m at hm
  replace hm := start_b hm
  refine enter (l := [.agg #[.slice A1 p1.length c1, .int .i64 p2, .int .i64 p3, .int .i64 p4, .int .i64 p5, .int .i64 p6], .int .i64 plies1]) (n := 42) Try.func8 rfl rfl (by simp) (fun a hF => ?_)
  refine seqR ?_
  refine at_do (d := 2) (s := vS (Instr.box 75 (.agg #[.slice A1 p1.length c1, .int .i64 p2, .int .i64 p3, .int .i64 p4, .int .i64 p5, .int .i64 p6]))) (v := .pointer (some ⟨w.heap.size, 0, none⟩)) (w' := w.alloc (.cells #[.slice A1 p1.length c1, .int .i64 p2, .int .i64 p3, .int .i64 p4, .int .i64 p5, .int .i64 p6] 75)) hF (by kernel_rfl) (by kernel_rfl) (by kernel_rfl) (fun a hF => ?_)
  have hS : Sep w0 B (w.alloc (.cells #[.slice A1 p1.length c1, .int .i64 p2, .int .i64 p3, .int .i64 p4, .int .i64 p5, .int .i64 p6] 75)) (blk w.heap.size 75 #[.slice A1 p1.length c1, .int .i64 p2, .int .i64 p3, .int .i64 p4, .int .i64 p5, .int .i64 p6] :: (fs)) := hS.box 75 #[.slice A1 p1.length c1, .int .i64 p2, .int .i64 p3, .int .i64 p4, .int .i64 p5, .int .i64 p6]
  generalize w.heap.size = g1 at hF hS
  generalize w.alloc (.cells #[.slice A1 p1.length c1, .int .i64 p2, .int .i64 p3, .int .i64 p4, .int .i64 p5, .int .i64 p6] 75) = w at hS ⊢
  refine at_run 1 [] [] [1, 2] [pl 1 (.int .i64 plies1), pl 2 (.pointer (some ⟨g1, 0, none⟩))] hF hS (by kernel_rfl) (by kernel_rfl) ?_ (fun a w hF hS => ?_)
  · exact obs_nil
  refine at_end [1, 2] [pl 1 (.int .i64 plies1), pl 2 (.pointer (some ⟨g1, 0, none⟩))] hF rfl (by kernel_rfl) (fun hF => ?_)
  refine then_n ?_
  refine seqR ?_
  obtain ⟨r1, hr1, hm⟩ := call_b hm
  obtain ⟨r2, hr2, hm⟩ := call_b hm
  refine at_run 1 [⟨false, [], vS (Instr.loadAt 75 (.pointer (some ⟨g1, 0, none⟩))), .agg #[.slice A1 p1.length c1, .int .i64 p2, .int .i64 p3, .int .i64 p4, .int .i64 p5, .int .i64 p6]⟩] [some (.agg #[.slice A1 p1.length c1, .int .i64 p2, .int .i64 p3, .int .i64 p4, .int .i64 p5, .int .i64 p6])] [1, 2, 9] [pl 1 (.int .i64 plies1), pl 2 (.pointer (some ⟨g1, 0, none⟩)), pl 9 (.agg #[.slice A1 p1.length c1, .int .i64 p2, .int .i64 p3, .int .i64 p4, .int .i64 p5, .int .i64 p6])] hF hS (by kernel_rfl) (by kernel_rfl) ?_ (fun a w hF hS => ?_)
  · exact obs_cons (ob_loadA (cs := #[.slice A1 p1.length c1, .int .i64 p2, .int .i64 p3, .int .i64 p4, .int .i64 p5, .int .i64 p6]) (by kernel_rfl) (by kernel_rfl) (fun _ _ hS => (hS.at_ 0 rfl).cellsAt 0 (by rfl))) <| obs_nil
  refine at_call (f := 47) (args := #[.agg #[.slice A1 p1.length c1, .int .i64 p2, .int .i64 p3, .int .i64 p4, .int .i64 p5, .int .i64 p6]]) (d := 10) hF (by kernel_rfl) (by kernel_rfl) Try.func47 (by kernel_rfl) rfl (gameroomref_ChessOf_w hr1 hS (fun _ hS => (hr_p1 _ (hS.dropN 1))) _hc_p1 rfl) (fun v a w hR hF => ?_)
  clear hS
  obtain ⟨A2, c2, rfl, hS⟩ := hR
  have hS : Sep w0 B w (own 3 (.slice A2 r1.1.length c2) (vI r1.1) :: blk g1 75 #[.slice A1 p1.length c1, .int .i64 p2, .int .i64 p3, .int .i64 p4, .int .i64 p5, .int .i64 p6] :: fs) := hS
  refine at_run 7 [⟨false, [], callFunc 46 #[.agg #[.slice A2 r1.1.length c2, .int .i64 r1.2.1, .int .i64 r1.2.2.1, .int .i64 r1.2.2.2.1, .int .i64 r1.2.2.2.2.1, .int .i64 r1.2.2.2.2.2], .int .i64 plies1], .tuple #[.int .i64 r2.1, .int .i64 r2.2]⟩] [none, some (.tuple #[.int .i64 r2.1, .int .i64 r2.2]), none, none, none, none, none] [1, 2, 5, 6] [pl 1 (.int .i64 plies1), pl 2 (.pointer (some ⟨g1, 0, none⟩)), pl 5 (.int .i64 r2.1), pl 6 (.int .i64 r2.2)] hF hS (by kernel_rfl) (by kernel_rfl) ?_ (fun a w hF hS => ?_)
  · exact obs_cons (ob_call Try.func46 (by kernel_rfl) rfl (fun _ _ hS => moves_Count_w hr2 hS (fun _ hS => (hS.at_ 0 rfl).rd) ((hS.at_ 0 rfl).cap1) rfl)) <| obs_nil
  refine at_end [1, 2, 5, 6] [pl 1 (.int .i64 plies1), pl 2 (.pointer (some ⟨g1, 0, none⟩)), pl 5 (.int .i64 r2.1), pl 6 (.int .i64 r2.2)] hF rfl (by kernel_rfl) (fun hF => ?_)
  refine then_n ?_
  refine reg [] [] [1, 2, 5, 6, 7] [pl 1 (.int .i64 plies1), pl 2 (.pointer (some ⟨g1, 0, none⟩)), pl 5 (.int .i64 r2.1), pl 6 (.int .i64 r2.2), pl 7 (.int .i64 0)] hF hS Fol (by kernel_rfl) (by kernel_rfl) (by kernel_rfl) ?_ (fun a w hF hS => ?_)
  · exact obs_nil
  refine seq_cut (fun a w => ∃ (no1 : Int), Fr 42 [pl 1 (.int .i64 plies1), pl 2 (.pointer (some ⟨g1, 0, none⟩)), pl 5 (.int .i64 r2.1), pl 6 (.int .i64 r2.2), pl 7 (.int .i64 no1)] a ∧ Sep w0 B w (blk g1 75 #[.slice A1 p1.length c1, .int .i64 p2, .int .i64 p3, .int .i64 p4, .int .i64 p5, .int .i64 p6] :: fs) ∧ ((gameroomlaw_MovesCounts_J1 p1 p2 p3 p4 p5 p6 plies1 r2) no1).bind some = some r) ?_ ?_
  · rintro a w ⟨no1, hF, hS, hm⟩
    unfold gameroomlaw_MovesCounts_J1 at hm
    refine seq_cut (fun a w => Fr 42 [pl 1 (.int .i64 plies1), pl 2 (.pointer (some ⟨g1, 0, none⟩)), pl 5 (.int .i64 r2.1), pl 6 (.int .i64 r2.2)] a ∧ Sep w0 B w (blk g1 75 #[.slice A1 p1.length c1, .int .i64 p2, .int .i64 p3, .int .i64 p4, .int .i64 p5, .int .i64 p6] :: fs) ∧ ((gameroomlaw_MovesCounts_J2 p1 p2 p3 p4 p5 p6 plies1 r2)).bind some = some r) ?_ ?_
    · rintro a w ⟨hF, hS, hm⟩
      unfold gameroomlaw_MovesCounts_J2 at hm
      obtain ⟨r4, hr4, hm⟩ := call_b hm
      refine reg [⟨false, [((r2.2 == 0), true)], vS (Instr.loadAt 75 (.pointer (some ⟨g1, 0, none⟩))), .agg #[.slice A1 p1.length c1, .int .i64 p2, .int .i64 p3, .int .i64 p4, .int .i64 p5, .int .i64 p6]⟩, ⟨false, [((r2.2 == 0), true)], callFunc 49 #[.agg #[.slice A1 p1.length c1, .int .i64 p2, .int .i64 p3, .int .i64 p4, .int .i64 p5, .int .i64 p6], .int .i64 plies1], .int .i64 r4⟩] [none, none, none, none, some (.agg #[.slice A1 p1.length c1, .int .i64 p2, .int .i64 p3, .int .i64 p4, .int .i64 p5, .int .i64 p6]), none, some (.int .i64 r4), none, none, none] [4] [pl 4 (.bool ((r2.2 == 0) && (r2.1 == r4)))] hF hS Fol (by kernel_rfl) (by kernel_rfl) (by kernel_rfl) ?_ (fun a w hF hS => ?_)
      · exact obs_cons (ob_loadA (cs := #[.slice A1 p1.length c1, .int .i64 p2, .int .i64 p3, .int .i64 p4, .int .i64 p5, .int .i64 p6]) (by kernel_rfl) (by kernel_rfl) (fun _ _ hS => (hS.at_ 0 rfl).cellsAt 0 (by rfl))) <| obs_cons (ob_call Try.func49 (by kernel_rfl) rfl (fun hy _ hS => gameroomref_CountRows_w (ite_some hr4 (by rw [show (r2.2 == 0) = true from hy ((r2.2 == 0), true) (by simp)]; try rfl)) hS (fun _ hS => (hr_p1 _ (hS.dropN 1))) _hc_p1 rfl)) <| obs_nil
      refine wpIn_ret ?_
      have hS := hS.pickN 1 [] (by decide)
      have hm : some ((r2.2 == 0) && (r2.1 == r4)) = some r := hm
      obtain rfl := Option.some.inj hm
      exact retV (rs := [.tmp 4]) (vs := [.bool ((r2.2 == 0) && (r2.1 == r4))]) hF rfl (rv_t (by kernel_rfl) <| rv_nil) rfl ⟨rfl, hS⟩
    · refine reg [] [] [1, 2, 5, 6, 7, 25] [pl 1 (.int .i64 plies1), pl 2 (.pointer (some ⟨g1, 0, none⟩)), pl 5 (.int .i64 r2.1), pl 6 (.int .i64 r2.2), pl 7 (.int .i64 no1), pl 25 (.bool (no1 != 0))] hF hS Fol (by kernel_rfl) (by kernel_rfl) (by kernel_rfl) ?_ (fun a w hF hS => ?_)
      · exact obs_nil
      refine cond_ev (t := 25) (b := (no1 != 0)) hF (by kernel_rfl) (fun hb => ?_) (fun hb => ?_)
      · replace hm := if_t hm hb
        refine reg [] [] [4] [pl 4 (.bool ((r2.2 == no1) && (r2.1 == 0)))] hF hS Fol (by kernel_rfl) (by kernel_rfl) (by kernel_rfl) ?_ (fun a w hF hS => ?_)
        · exact obs_nil
        refine wpIn_ret ?_
        refine then_r ?_
        have hS := hS.pickN 1 [] (by decide)
        have hm : some ((r2.2 == no1) && (r2.1 == 0)) = some r := hm
        obtain rfl := Option.some.inj hm
        exact retV (rs := [.tmp 4]) (vs := [.bool ((r2.2 == no1) && (r2.1 == 0))]) hF rfl (rv_t (by kernel_rfl) <| rv_nil) rfl ⟨rfl, hS⟩
      · replace hm := if_f hm hb
        refine wpIn_skip ?_
        refine then_n ?_
        exact ⟨hF.weak [1, 2, 5, 6] (by kernel_rfl), hS, hm⟩
  · obtain ⟨r3, hr3, hm⟩ := call_b hm
    refine reg [⟨false, [], vS (Instr.loadAt 75 (.pointer (some ⟨g1, 0, none⟩))), .agg #[.slice A1 p1.length c1, .int .i64 p2, .int .i64 p3, .int .i64 p4, .int .i64 p5, .int .i64 p6]⟩, ⟨false, [], callFunc 48 #[.agg #[.slice A1 p1.length c1, .int .i64 p2, .int .i64 p3, .int .i64 p4, .int .i64 p5, .int .i64 p6]], .bool r3⟩] [some (.agg #[.slice A1 p1.length c1, .int .i64 p2, .int .i64 p3, .int .i64 p4, .int .i64 p5, .int .i64 p6]), some (.bool r3), none] [1, 2, 5, 6, 7, 17] [pl 1 (.int .i64 plies1), pl 2 (.pointer (some ⟨g1, 0, none⟩)), pl 5 (.int .i64 r2.1), pl 6 (.int .i64 r2.2), pl 7 (.int .i64 0), pl 17 (.bool (!r3))] hF hS Fol (by kernel_rfl) (by kernel_rfl) (by kernel_rfl) ?_ (fun a w hF hS => ?_)
    · exact obs_cons (ob_loadA (cs := #[.slice A1 p1.length c1, .int .i64 p2, .int .i64 p3, .int .i64 p4, .int .i64 p5, .int .i64 p6]) (by kernel_rfl) (by kernel_rfl) (fun _ _ hS => (hS.at_ 1 rfl).cellsAt 0 (by rfl))) <| obs_cons (ob_call Try.func48 (by kernel_rfl) rfl (fun _ _ hS => gameroomref_ChessMay_w hr3 hS (fun _ hS => (hr_p1 _ (hS.dropN 2))) _hc_p1 rfl)) <| obs_nil
    refine cond_ev (t := 17) (b := !r3) hF (by kernel_rfl) (fun hb => ?_) (fun hb => ?_)
    · replace hm := if_t hm hb
      refine reg1 [] [] [1, 2, 5, 6, 7] [pl 1 (.int .i64 plies1), pl 2 (.pointer (some ⟨g1, 0, none⟩)), pl 5 (.int .i64 r2.1), pl 6 (.int .i64 r2.2), pl 7 (.int .i64 12)] hF hS Fol (by kernel_rfl) (by kernel_rfl) (by kernel_rfl) ?_ (fun a w hF hS => ?_)
      · exact obs_nil
      refine then_n ?_
      have hS := hS.pickN 2 [1] (by decide)
      exact ⟨12, hF.weak [1, 2, 5, 6, 7] (by kernel_rfl), hS, hm⟩
    · replace hm := if_f hm hb
      refine reg [] [] [1, 2, 5, 6, 7, 23] [pl 1 (.int .i64 plies1), pl 2 (.pointer (some ⟨g1, 0, none⟩)), pl 5 (.int .i64 r2.1), pl 6 (.int .i64 r2.2), pl 7 (.int .i64 0), pl 23 (.bool ((decide (plies1 < 0)) || (decide ((3 : Int) < plies1))))] hF hS Fol (by kernel_rfl) (by kernel_rfl) (by kernel_rfl) ?_ (fun a w hF hS => ?_)
      · exact obs_nil
      refine cond_ev (t := 23) (b := (decide (plies1 < 0)) || (decide ((3 : Int) < plies1))) hF (by kernel_rfl) (fun hb => ?_) (fun hb => ?_)
      · replace hm := if_t hm hb
        refine reg1 [] [] [1, 2, 5, 6, 7] [pl 1 (.int .i64 plies1), pl 2 (.pointer (some ⟨g1, 0, none⟩)), pl 5 (.int .i64 r2.1), pl 6 (.int .i64 r2.2), pl 7 (.int .i64 3)] hF hS Fol (by kernel_rfl) (by kernel_rfl) (by kernel_rfl) ?_ (fun a w hF hS => ?_)
        · exact obs_nil
        refine then_n ?_
        have hS := hS.pickN 2 [1] (by decide)
        exact ⟨3, hF.weak [1, 2, 5, 6, 7] (by kernel_rfl), hS, hm⟩
      · replace hm := if_f hm hb
        refine wpIn_skip ?_
        refine then_n ?_
        have hS := hS.pickN 2 [1] (by decide)
        exact ⟨0, hF.weak [1, 2, 5, 6, 7] (by kernel_rfl), hS, hm⟩

end Go.Proofs.Ytfmmlmiakkjaiaa
