/-
  Models and walks, printed by our own program (wip/gen).
-/
import Derived.Test.YtkpkkdpfcbnfdaaFB
import Derived.Test.YtkpkkdpfcbnfdaaLibJ
import Derived.Test.YtkpkkdpfcbnfdaaLibD
import Derived.Test.YtkpkkdpfcbnfdaaFE
import Derived.Test.YtkpkkdpfcbnfdaaLibPl
import Derived.Test.YtkpkkdpfcbnfdaaFM
import Derived.Test.YtkpkkdpfcbnfdaaLibG
import Derived.Test.YtkpkkdpfcbnfdaaSI
import Derived.Test.YtkpkkdpfcbnfdaaHmb
namespace Go.Proofs.Ytkpkkdpfcbnfdaa
open Go Go.GL Go.RowKit

noncomputable def gameroomref_SlideFar_m  (w1 : Int) (h1 : Int) : Option (List (Int × Int × List Int) × List Int) :=
  (gameroomref_SlideHome_m w1 h1).bind fun r1 => (gameroomref_factorial_m (w64 (w1 * h1))).bind fun r2 => asrt ((0 : Int) ≤ r2 ∧ r2 ≤ bigN) <| asrt (0 ≤ (0 : Int) ∧ (0 : Int) < 1) <| (gameroomref_NumberOf_m ((getd zP32 ([r1] : List (Int × Int × List Int)) 0).2.2)).bind fun r3 => asrt (0 ≤ r3 ∧ r3 < (((Int.toNat r2) : Nat) : Int)) <| (loop (gameroomref_SlideFar_L1 r2) (([r1] : List (Int × Int × List Int)), ([0] : List Int), ((List.replicate (Int.toNat r2) false).set (Int.toNat r3) true), 0)).bind gameroomref_SlideFar_K1

set_option maxRecDepth 100000 in
set_option maxHeartbeats 4000000 in
theorem gameroomref_SlideFar_w  {w1 : Int} {h1 : Int} {r : (List (Int × Int × List Int) × List Int)} {w0 w : World} {B : Nat} {fs : List HP} (hm : gameroomref_SlideFar_m w1 h1 = some r) (hS : Sep w0 B w (fs)) :
    Calls Try.prog 15 #[.int .i64 w1, .int .i64 h1] w fun e w' => ∃ v, e = .returned v ∧ ∃ (pg6 : HP) (A16 : Option Addr) (c16 : Nat) (raw6 : List (Int × Int × Hd3)) (A17 : Option Addr) (c17 : Nat), v = .tuple #[.slice A16 r.1.length c16, .slice A17 r.2.length c17] ∧ (PoolE encP32 Rel32 pg6 A16 raw6 r.1) ∧ (r.1.length ≤ c16) ∧ Sep w0 B w' (pg6 :: own 3 (.slice A17 r.2.length c17) (vI r.2) :: fs) := by
  obtain ⟨i3, hi3, hz3, hs3, hb3⟩ := info_parts Info3
  obtain ⟨i4, hi4, hz4, hs4, hb4⟩ := info_parts Info4
  obtain ⟨i32, hi32, hz32, hs32, hb32⟩ := info_parts Info32
  unfold gameroomref_SlideFar_m at hm
  replace hm := start_b hm
  refine enter (l := [.int .i64 w1, .int .i64 h1]) (n := 78) Try.func15 rfl rfl (by simp) (fun a hF => ?_)
  refine reg [] [] [0, 1] [pl 0 (.int .i64 w1), pl 1 (.int .i64 h1)] hF hS Fol (by kernel_rfl) (by kernel_rfl) (by kernel_rfl) ?_ (fun a w hF hS => ?_)
  · exact obs_nil
  refine seqR ?_
  obtain ⟨r1, hr1, hm⟩ := call_b hm
  refine at_run 2 [] [] [0, 1, 13, 14] [pl 0 (.int .i64 w1), pl 1 (.int .i64 h1), pl 13 (.int .i64 w1), pl 14 (.int .i64 h1)] hF hS (by kernel_rfl) (by kernel_rfl) ?_ (fun a w hF hS => ?_)
  · exact obs_nil
  refine at_call (f := 19) (args := #[.int .i64 w1, .int .i64 h1]) (d := 15) hF (by kernel_rfl) (by kernel_rfl) Try.func19 (by kernel_rfl) rfl (gameroomref_SlideHome_w hr1 hS ) (fun v a w hR hF => ?_)
  clear hS
  obtain ⟨A1, c1, rfl, hS⟩ := hR
  have hS : Sep w0 B w (own 3 (.slice A1 r1.2.2.length c1) (vI r1.2.2) :: fs) := hS
  have hS : Sep w0 B w (noB :: own 3 (.slice A1 r1.2.2.length c1) (vI r1.2.2) :: fs) := hS.noB
  have hc1 := (hS.at_ 1 rfl).cap1
  have hS := hS.pickN 2 [1, 0] (by decide)
  have hS : Sep w0 B w ((twoB (own 3 (.slice A1 r1.2.2.length c1) (vI r1.2.2)) noB) :: fs) := hS.two
  refine at_do (d := 16) (s := vS (Instr.buildSlice 38 1 #[(0, .agg #[.int .i64 r1.1, .int .i64 r1.2.1, .slice A1 r1.2.2.length c1])])) (v := .slice (some ⟨w.heap.size, 0, none⟩) 1 1) (w' := w.alloc (.cells #[.int .i64 r1.1, .int .i64 r1.2.1, .slice A1 r1.2.2.length c1] 32)) hF (by kernel_rfl) (by kernel_rfl) (by kernel_rfl) (fun a hF => ?_)
  have hS : Sep w0 B (w.alloc (.cells #[.int .i64 r1.1, .int .i64 r1.2.1, .slice A1 r1.2.2.length c1] 32)) (els encP32 Rel32 (twoB (own 3 (.slice A1 r1.2.2.length c1) (vI r1.2.2)) noB) 32 3 (some (⟨w.heap.size, 0, none⟩ : Addr)) 1 1 ([(r1.1, r1.2.1, (A1, r1.2.2.length, c1))] : List (Int × Int × Hd3)) ([r1] : List (Int × Int × List Int)) :: ((twoB (own 3 (.slice A1 r1.2.2.length c1) (vI r1.2.2)) noB) :: fs)) := Sep.ownEls' (l := []) (hS.litK 32 3 #[.int .i64 r1.1, .int .i64 r1.2.1, .slice A1 r1.2.2.length c1] 1 rfl (by omega)) rfl (PAll.cons ⟨rfl, rfl, SlR.of (PoolW.own : PoolW (twoB (own 3 (.slice A1 r1.2.2.length c1) (vI r1.2.2)) noB) A1 r1.2.2) hc1⟩ (PAll.nil : PAll Rel32 (twoB (own 3 (.slice A1 r1.2.2.length c1) (vI r1.2.2)) noB) ([] : List (Int × Int × Hd3)) ([] : List (Int × Int × List Int))))
  generalize (some (⟨w.heap.size, 0, none⟩ : Addr)) = g1 at hF hS
  generalize w.alloc (.cells #[.int .i64 r1.1, .int .i64 r1.2.1, .slice A1 r1.2.2.length c1] 32) = w at hS ⊢
  refine at_run 1 [] [] [0, 1, 6] [pl 0 (.int .i64 w1), pl 1 (.int .i64 h1), pl 6 (.slice g1 1 1)] hF hS (by kernel_rfl) (by kernel_rfl) ?_ (fun a w hF hS => ?_)
  · exact obs_nil
  refine at_end [0, 1, 6] [pl 0 (.int .i64 w1), pl 1 (.int .i64 h1), pl 6 (.slice g1 1 1)] hF rfl (by kernel_rfl) (fun hF => ?_)
  refine then_n ?_
  refine seqR ?_
  refine at_do (d := 17) (s := vS (Instr.buildSlice 22 1 #[(0, .int .i64 0)])) (v := .slice (some ⟨w.heap.size, 0, none⟩) 1 1) (w' := w.alloc (.cells #[.int .i64 0] 3)) hF (by kernel_rfl) (by kernel_rfl) (by kernel_rfl) (fun a hF => ?_)
  have hS : Sep w0 B (w.alloc (.cells #[.int .i64 0] 3)) (own 3 (.slice (some (⟨w.heap.size, 0, none⟩ : Addr)) 1 1) (vI ([0] : List Int)) :: (els encP32 Rel32 (twoB (own 3 (.slice A1 r1.2.2.length c1) (vI r1.2.2)) noB) 32 3 g1 1 1 ([(r1.1, r1.2.1, (A1, r1.2.2.length, c1))] : List (Int × Int × Hd3)) ([r1] : List (Int × Int × List Int)) :: (twoB (own 3 (.slice A1 r1.2.2.length c1) (vI r1.2.2)) noB) :: fs)) := hS.lit 3 #[.int .i64 0] 1 rfl (by omega)
  generalize (some (⟨w.heap.size, 0, none⟩ : Addr)) = g2 at hF hS
  generalize w.alloc (.cells #[.int .i64 0] 3) = w at hS ⊢
  refine at_run 1 [] [] [0, 1, 6, 7] [pl 0 (.int .i64 w1), pl 1 (.int .i64 h1), pl 6 (.slice g1 1 1), pl 7 (.slice g2 1 1)] hF hS (by kernel_rfl) (by kernel_rfl) ?_ (fun a w hF hS => ?_)
  · exact obs_nil
  refine at_end [0, 1, 6, 7] [pl 0 (.int .i64 w1), pl 1 (.int .i64 h1), pl 6 (.slice g1 1 1), pl 7 (.slice g2 1 1)] hF rfl (by kernel_rfl) (fun hF => ?_)
  refine then_n ?_
  refine seqR ?_
  obtain ⟨r2, hr2, hm⟩ := call_b hm
  obtain ⟨hp1, hm⟩ := asrt_b hm
  refine at_run 4 [⟨false, [], callFunc 60 #[.int .i64 (w64 (w1 * h1))], .int .i64 r2⟩] [none, none, none, some (.int .i64 r2)] [6, 7, 21] [pl 6 (.slice g1 1 1), pl 7 (.slice g2 1 1), pl 21 (.int .i64 r2)] hF hS (by kernel_rfl) (by kernel_rfl) ?_ (fun a w hF hS => ?_)
  · exact obs_cons (ob_call Try.func60 (by kernel_rfl) rfl (fun _ _ hS => gameroomref_factorial_w hr2 hS )) <| obs_nil
  obtain ⟨A2, c2, w, hrun, hS⟩ := run_mk1 (P := Try.prog) (t := 105) Value.bool false hS .i64 .i64 Und105 hi4 hz4 hs4 (by omega) rfl hp1
  have hS : Sep w0 B w (own 4 (.slice A2 (Int.toNat r2) c2) (vB (List.replicate (Int.toNat r2) false)) :: own 3 (.slice g2 1 1) (vI ([0] : List Int)) :: els encP32 Rel32 (twoB (own 3 (.slice A1 r1.2.2.length c1) (vI r1.2.2)) noB) 32 3 g1 1 1 ([(r1.1, r1.2.1, (A1, r1.2.2.length, c1))] : List (Int × Int × Hd3)) ([r1] : List (Int × Int × List Int)) :: (twoB (own 3 (.slice A1 r1.2.2.length c1) (vI r1.2.2)) noB) :: fs) := hS
  refine at_do (d := 22) hF (by kernel_rfl) (by kernel_rfl) hrun (fun a hF => ?_)
  refine at_run 1 [] [] [6, 7, 8] [pl 6 (.slice g1 1 1), pl 7 (.slice g2 1 1), pl 8 (.slice A2 (Int.toNat r2) c2)] hF hS (by kernel_rfl) (by kernel_rfl) ?_ (fun a w hF hS => ?_)
  · exact obs_nil
  refine at_end [6, 7, 8] [pl 6 (.slice g1 1 1), pl 7 (.slice g2 1 1), pl 8 (.slice A2 (Int.toNat r2) c2)] hF rfl (by kernel_rfl) (fun hF => ?_)
  refine then_n ?_
  refine seqR ?_
  obtain ⟨hp2, hm⟩ := asrt_b hm
  obtain ⟨r3, hr3, hm⟩ := call_b hm
  obtain ⟨hp3, hm⟩ := asrt_b hm
  have hg1 := (hS.at_ 2 rfl).elsAll
  refine at_run 7 [⟨true, [], vS (Instr.indexAt 38 (.slice g1 1 1) (.int .i64 0)), .pointer (some (sAddrK g1 3 0))⟩, ⟨false, [], vS (Instr.loadAt 22 (.pointer (some (Addr.add (sAddrK g1 3 0) 2)))), .slice ((getd rzP32 ([(r1.1, r1.2.1, (A1, r1.2.2.length, c1))] : List (Int × Int × Hd3)) 0).2.2.1) (((getd zP32 ([r1] : List (Int × Int × List Int)) 0).2.2).length) ((getd rzP32 ([(r1.1, r1.2.1, (A1, r1.2.2.length, c1))] : List (Int × Int × Hd3)) 0).2.2.2.2)⟩, ⟨false, [], callFunc 61 #[.slice ((getd rzP32 ([(r1.1, r1.2.1, (A1, r1.2.2.length, c1))] : List (Int × Int × Hd3)) 0).2.2.1) (((getd zP32 ([r1] : List (Int × Int × List Int)) 0).2.2).length) ((getd rzP32 ([(r1.1, r1.2.1, (A1, r1.2.2.length, c1))] : List (Int × Int × Hd3)) 0).2.2.2.2)], .int .i64 r3⟩, ⟨true, [], vS (Instr.indexAt 105 (.slice A2 (Int.toNat r2) c2) (.int .i64 r3)), .pointer (some (sAddr A2 r3))⟩] [none, none, some (.pointer (some (sAddrK g1 3 0))), none, some (.slice ((getd rzP32 ([(r1.1, r1.2.1, (A1, r1.2.2.length, c1))] : List (Int × Int × Hd3)) 0).2.2.1) (((getd zP32 ([r1] : List (Int × Int × List Int)) 0).2.2).length) ((getd rzP32 ([(r1.1, r1.2.1, (A1, r1.2.2.length, c1))] : List (Int × Int × Hd3)) 0).2.2.2.2)), some (.int .i64 r3), some (.pointer (some (sAddr A2 r3)))] [6, 7, 8, 29] [pl 6 (.slice g1 1 1), pl 7 (.slice g2 1 1), pl 8 (.slice A2 (Int.toNat r2) c2), pl 29 (.pointer (some (sAddr A2 r3)))] hF hS (by kernel_rfl) (by kernel_rfl) ?_ (fun a w hF hS => ?_)
  · exact obs_cons (ob_ixK (m := ([(r1.1, r1.2.1, (A1, r1.2.2.length, c1))] : List (Int × Int × Hd3))) encPK32 Und38 hi32 hs32 (hS.at_ 2 rfl).rdE ((hS.at_ 2 rfl).lenEr encPK32) (fun _ => hp2)) <| obs_cons (ob_getPF (n := 1) (raw := ([(r1.1, r1.2.1, (A1, r1.2.2.length, c1))] : List (Int × Int × Hd3))) (j := 2) encPK32 rzP32 Agg22 (fun _ hS => ⟨_, (hS.at_ 2 rfl).rdE⟩) (fun _ hS => (hS.at_ 2 rfl).lenEr encPK32) (fun _ => hp2) (by decide) (val32 (PAll.any RelP32 hg1 0)) rfl) <| obs_cons (ob_call Try.func61 (by kernel_rfl) rfl (fun _ _ hS => gameroomref_NumberOf_w hr3 hS (fun _ hS => ((PAll.any RelP32 hg1 0).2.2.2.2.at_ hS 3 rfl)) (PAll.any RelP32 hg1 0).2.2.2.1 rfl)) <| obs_cons (ob_ix1 (f := Value.bool) (m := (List.replicate (Int.toNat r2) false)) Und105 hi4 hs4 (hS.at_ 0 rfl).rd ((hS.at_ 0 rfl).len1) (fun _ => hp3)) <| obs_nil
  obtain ⟨w, hrun, hS⟩ := run_set1 (P := Try.prog) (t := 4) (x := true) Value.bool (hS.at_ 0 rfl) hi4 hs4 rfl rfl hp3
  refine at_skip hF (by kernel_rfl) hrun ?_
  have hS : Sep w0 B w (own 4 (.slice A2 (Int.toNat r2) c2) (vB ((List.replicate (Int.toNat r2) false).set (Int.toNat r3) true)) :: own 3 (.slice g2 1 1) (vI ([0] : List Int)) :: els encP32 Rel32 (twoB (own 3 (.slice A1 r1.2.2.length c1) (vI r1.2.2)) noB) 32 3 g1 1 1 ([(r1.1, r1.2.1, (A1, r1.2.2.length, c1))] : List (Int × Int × Hd3)) ([r1] : List (Int × Int × List Int)) :: (twoB (own 3 (.slice A1 r1.2.2.length c1) (vI r1.2.2)) noB) :: fs) := hS
  refine at_end [6, 7, 8] [pl 6 (.slice g1 1 1), pl 7 (.slice g2 1 1), pl 8 (.slice A2 (Int.toNat r2) c2)] hF rfl (by kernel_rfl) (fun hF => ?_)
  refine then_n ?_
  refine seq_cut (fun a w => ∃ (all2 : List (Int × Int × List Int)) (far2 : List Int) (pg2 : HP) (raw2 : List (Int × Int × Hd3)) (A5 : Option Addr) (c5 : Nat) (A6 : Option Addr) (c6 : Nat), Fr 78 [pl 6 (.slice A5 all2.length c5), pl 7 (.slice A6 far2.length c6)] a ∧ Sep w0 B w (pg2 :: els encP32 Rel32 pg2 32 3 A5 all2.length c5 raw2 all2 :: own 3 (.slice A6 far2.length c6) (vI far2) :: fs) ∧ (gameroomref_SlideFar_J1 all2 far2).bind some = some r) ?_ ?_
  · rintro a w ⟨all2, far2, pg2, raw2, A5, c5, A6, c6, hF, hS, hm⟩
    unfold gameroomref_SlideFar_J1 at hm
    refine reg [] [] [4, 5] [pl 4 (.slice A5 all2.length c5), pl 5 (.slice A6 far2.length c6)] hF hS Fol (by kernel_rfl) (by kernel_rfl) (by kernel_rfl) ?_ (fun a w hF hS => ?_)
    · exact obs_nil
    refine wpIn_ret ?_
    have hc3 := (hS.at_ 1 rfl).capE encPK32
    have hg3 := (hS.at_ 1 rfl).elsAll
    have hS := hS.pickN 3 [1, 0, 2] (by decide)
    have hS : Sep w0 B w ((twoB (els encP32 Rel32 pg2 32 3 A5 all2.length c5 raw2 all2) pg2) :: own 3 (.slice A6 far2.length c6) (vI far2) :: fs) := hS.two
    have hm : some (all2, far2) = some r := hm
    obtain rfl := Option.some.inj hm
    exact retV (rs := [.tmp 4, .tmp 5]) (vs := [.slice A5 all2.length c5, .slice A6 far2.length c6]) hF rfl (rv_t (by kernel_rfl) <| rv_t (by kernel_rfl) <| rv_nil) rfl ⟨_, rfl, (twoB (els encP32 Rel32 pg2 32 3 A5 all2.length c5 raw2 all2) pg2), A5, c5, raw2, A6, c6, rfl, (PoolE.own RelP32 hg3 : PoolE encP32 Rel32 (twoB (els encP32 Rel32 pg2 32 3 A5 all2.length c5 raw2 all2) pg2) A5 raw2 all2), hc3, hS⟩
  · refine reg [] [] [6, 7, 8, 9] [pl 6 (.slice g1 1 1), pl 7 (.slice g2 1 1), pl 8 (.slice A2 (Int.toNat r2) c2), pl 9 (.int .i64 0)] hF hS Fol (by kernel_rfl) (by kernel_rfl) (by kernel_rfl) ?_ (fun a w hF hS => ?_)
    · exact obs_nil
    refine wpIn_block ?_
    have hl1 := (hS.at_ 2 rfl).lenE encPK32
    have hS := (hS.at_ 2 rfl).reNE hl1
    have hS : Sep w0 B w (own 4 (.slice A2 (Int.toNat r2) c2) (vB ((List.replicate (Int.toNat r2) false).set (Int.toNat r3) true)) :: own 3 (.slice g2 1 1) (vI ([0] : List Int)) :: els encP32 Rel32 (twoB (own 3 (.slice A1 r1.2.2.length c1) (vI r1.2.2)) noB) 32 3 g1 (([r1] : List (Int × Int × List Int)).length) 1 ([(r1.1, r1.2.1, (A1, r1.2.2.length, c1))] : List (Int × Int × Hd3)) ([r1] : List (Int × Int × List Int)) :: (twoB (own 3 (.slice A1 r1.2.2.length c1) (vI r1.2.2)) noB) :: fs) := hS
    have hF := hF.cast (t := 6) (v := .slice g1 1 1) (v' := .slice g1 (([r1] : List (Int × Int × List Int)).length) 1) rfl rfl (congrArg (fun k => Value.slice g1 k 1) hl1)
    have hl2 := (hS.at_ 1 rfl).len1
    have hS := (hS.at_ 1 rfl).reN hl2
    have hS : Sep w0 B w (own 4 (.slice A2 (Int.toNat r2) c2) (vB ((List.replicate (Int.toNat r2) false).set (Int.toNat r3) true)) :: own 3 (.slice g2 (([0] : List Int).length) 1) (vI ([0] : List Int)) :: els encP32 Rel32 (twoB (own 3 (.slice A1 r1.2.2.length c1) (vI r1.2.2)) noB) 32 3 g1 (([r1] : List (Int × Int × List Int)).length) 1 ([(r1.1, r1.2.1, (A1, r1.2.2.length, c1))] : List (Int × Int × Hd3)) ([r1] : List (Int × Int × List Int)) :: (twoB (own 3 (.slice A1 r1.2.2.length c1) (vI r1.2.2)) noB) :: fs) := hS
    have hF := hF.cast (t := 7) (v := .slice g2 1 1) (v' := .slice g2 (([0] : List Int).length) 1) rfl rfl (congrArg (fun k => Value.slice g2 k 1) hl2)
    have hS := hS.pickN 4 [3, 2, 1, 0] (by decide)
    refine wp_loop_model (S := (List (Int × Int × List Int) × List Int × List Bool × Int)) (R := (List (Int × Int × List Int) × List Int)) (gameroomref_SlideFar_L1 r2) (fun x => (gameroomref_SlideFar_K1 x).bind some) r (fun (x : (List (Int × Int × List Int) × List Int × List Bool × Int)) a w => ∃ (pg1 : HP) (raw1 : List (Int × Int × Hd3)) (A3 : Option Addr) (c3 : Nat) (A4 : Option Addr) (c4 : Nat), Fr 78 [pl 6 (.slice A3 x.1.length c3), pl 7 (.slice A4 x.2.1.length c4), pl 8 (.slice A2 (Int.toNat r2) c2), pl 9 (.int .i64 x.2.2.2)] a ∧ Sep w0 B w (pg1 :: els encP32 Rel32 pg1 32 3 A3 x.1.length c3 raw1 x.1 :: own 3 (.slice A4 x.2.1.length c4) (vI x.2.1) :: own 4 (.slice A2 (Int.toNat r2) c2) (vB x.2.2.1) :: fs)) (assoc_b hm) ⟨(twoB (own 3 (.slice A1 r1.2.2.length c1) (vI r1.2.2)) noB), ([(r1.1, r1.2.1, (A1, r1.2.2.length, c1))] : List (Int × Int × Hd3)), g1, 1, g2, 1, hF.weak [6, 7, 8, 9] (by kernel_rfl), hS⟩ ?_
    clear hF hS hm
    rintro nn1 ⟨all1, far1, seen1, i1⟩ a w ⟨pg1, raw1, A3, c3, A4, c4, hF, hS⟩ hm
    generalize hφ1 : stK (gameroomref_SlideFar_L1 r2) nn1 (fun x => (gameroomref_SlideFar_K1 x).bind some) = φ1 at hm
    unfold gameroomref_SlideFar_L1 at hm
    dsimp only at hF hS hm
    refine seq_cut (fun a w => Fr 78 [pl 6 (.slice A3 all1.length c3), pl 7 (.slice A4 far1.length c4), pl 8 (.slice A2 (Int.toNat r2) c2), pl 9 (.int .i64 i1)] a ∧ Sep w0 B w (pg1 :: els encP32 Rel32 pg1 32 3 A3 all1.length c3 raw1 all1 :: own 3 (.slice A4 far1.length c4) (vI far1) :: own 4 (.slice A2 (Int.toNat r2) c2) (vB seen1) :: fs) ∧ ((gameroomref_SlideFar_J2 r2 all1 far1 seen1 i1)).bind φ1 = some r) ?_ ?_
    · rintro a w ⟨hF, hS, hm⟩
      unfold gameroomref_SlideFar_J2 at hm
      refine seq_cut (fun a w => ∃ (all4 : List (Int × Int × List Int)) (far4 : List Int) (seen3 : List Bool) (pg4 : HP) (raw4 : List (Int × Int × Hd3)) (A9 : Option Addr) (c9 : Nat) (A10 : Option Addr) (c10 : Nat), Fr 78 [pl 6 (.slice A9 all4.length c9), pl 7 (.slice A10 far4.length c10), pl 8 (.slice A2 (Int.toNat r2) c2), pl 9 (.int .i64 i1)] a ∧ Sep w0 B w (pg4 :: els encP32 Rel32 pg4 32 3 A9 all4.length c9 raw4 all4 :: own 3 (.slice A10 far4.length c10) (vI far4) :: own 4 (.slice A2 (Int.toNat r2) c2) (vB seen3) :: fs) ∧ ((gameroomref_SlideFar_J3 i1) all4 far4 seen3).bind φ1 = some r) ?_ ?_
      · rintro a w ⟨all4, far4, seen3, pg4, raw4, A9, c9, A10, c10, hF, hS, hm⟩
        unfold gameroomref_SlideFar_J3 at hm
        refine reg1 [] [] [6, 7, 8, 9] [pl 6 (.slice A9 all4.length c9), pl 7 (.slice A10 far4.length c10), pl 8 (.slice A2 (Int.toNat r2) c2), pl 9 (.int .i64 (w64 (i1 + 1)))] hF hS Fol (by kernel_rfl) (by kernel_rfl) (by kernel_rfl) ?_ (fun a w hF hS => ?_)
        · exact obs_nil
        refine then_n ?_
        rw [← hφ1] at hm
        exact ⟨(all4, far4, seen3, (w64 (i1 + 1))), ⟨pg4, raw4, A9, c9, A10, c10, hF.weak [6, 7, 8, 9] (by kernel_rfl), hS⟩, hm⟩
      · refine wpIn_block ?_
        refine reg [] [] [6, 7, 8, 9, 10] [pl 6 (.slice A3 all1.length c3), pl 7 (.slice A4 far1.length c4), pl 8 (.slice A2 (Int.toNat r2) c2), pl 9 (.int .i64 i1), pl 10 (.int .i64 0)] hF hS Fol (by kernel_rfl) (by kernel_rfl) (by kernel_rfl) ?_ (fun a w hF hS => ?_)
        · exact obs_nil
        refine wpIn_block ?_
        refine wp_loop_model (S := (List (Int × Int × List Int) × List Int × List Bool × Int)) (R := (List (Int × Int × List Int) × List Int × List Bool)) (gameroomref_SlideFar_L2 r2 i1) (fun x => ((gameroomref_SlideFar_K2 i1) x).bind φ1) r (fun (x : (List (Int × Int × List Int) × List Int × List Bool × Int)) a w => ∃ (pg3 : HP) (raw3 : List (Int × Int × Hd3)) (A7 : Option Addr) (c7 : Nat) (A8 : Option Addr) (c8 : Nat), Fr 78 [pl 6 (.slice A7 x.1.length c7), pl 7 (.slice A8 x.2.1.length c8), pl 8 (.slice A2 (Int.toNat r2) c2), pl 9 (.int .i64 i1), pl 10 (.int .i64 x.2.2.2)] a ∧ Sep w0 B w (pg3 :: els encP32 Rel32 pg3 32 3 A7 x.1.length c7 raw3 x.1 :: own 3 (.slice A8 x.2.1.length c8) (vI x.2.1) :: own 4 (.slice A2 (Int.toNat r2) c2) (vB x.2.2.1) :: fs)) (assoc_b hm) ⟨pg1, raw1, A3, c3, A4, c4, hF.weak [6, 7, 8, 9, 10] (by kernel_rfl), hS⟩ ?_
        clear hF hS hm
        rintro nn2 ⟨all3, far3, seen2, dir1⟩ a w ⟨pg3, raw3, A7, c7, A8, c8, hF, hS⟩ hm
        generalize hφ2 : stK (gameroomref_SlideFar_L2 r2 i1) nn2 (fun x => ((gameroomref_SlideFar_K2 i1) x).bind φ1) = φ2 at hm
        unfold gameroomref_SlideFar_L2 at hm
        dsimp only at hF hS hm
        refine seq_cut (fun a w => Fr 78 [pl 6 (.slice A7 all3.length c7), pl 7 (.slice A8 far3.length c8), pl 8 (.slice A2 (Int.toNat r2) c2), pl 9 (.int .i64 i1), pl 10 (.int .i64 dir1)] a ∧ Sep w0 B w (pg3 :: els encP32 Rel32 pg3 32 3 A7 all3.length c7 raw3 all3 :: own 3 (.slice A8 far3.length c8) (vI far3) :: own 4 (.slice A2 (Int.toNat r2) c2) (vB seen2) :: fs) ∧ ((gameroomref_SlideFar_J4 r2 i1 all3 far3 seen2 dir1)).bind φ2 = some r) ?_ ?_
        · rintro a w ⟨hF, hS, hm⟩
          unfold gameroomref_SlideFar_J4 at hm
          refine seq_cut (fun a w => ∃ (all5 : List (Int × Int × List Int)) (far5 : List Int) (seen4 : List Bool) (pg5 : HP) (raw5 : List (Int × Int × Hd3)) (A12 : Option Addr) (c12 : Nat) (A13 : Option Addr) (c13 : Nat), Fr 78 [pl 6 (.slice A12 all5.length c12), pl 7 (.slice A13 far5.length c13), pl 8 (.slice A2 (Int.toNat r2) c2), pl 9 (.int .i64 i1), pl 10 (.int .i64 dir1)] a ∧ Sep w0 B w (pg5 :: els encP32 Rel32 pg5 32 3 A12 all5.length c12 raw5 all5 :: own 3 (.slice A13 far5.length c13) (vI far5) :: own 4 (.slice A2 (Int.toNat r2) c2) (vB seen4) :: fs) ∧ ((gameroomref_SlideFar_J5 dir1) all5 far5 seen4).bind φ2 = some r) ?_ ?_
          · rintro a w ⟨all5, far5, seen4, pg5, raw5, A12, c12, A13, c13, hF, hS, hm⟩
            unfold gameroomref_SlideFar_J5 at hm
            refine reg1 [] [] [6, 7, 8, 9, 10] [pl 6 (.slice A12 all5.length c12), pl 7 (.slice A13 far5.length c13), pl 8 (.slice A2 (Int.toNat r2) c2), pl 9 (.int .i64 i1), pl 10 (.int .i64 (w64 (dir1 + 1)))] hF hS Fol (by kernel_rfl) (by kernel_rfl) (by kernel_rfl) ?_ (fun a w hF hS => ?_)
            · exact obs_nil
            refine then_n ?_
            rw [← hφ2] at hm
            exact ⟨(all5, far5, seen4, (w64 (dir1 + 1))), ⟨pg5, raw5, A12, c12, A13, c13, hF.weak [6, 7, 8, 9, 10] (by kernel_rfl), hS⟩, hm⟩
          · refine wpIn_block ?_
            refine seqR ?_
            obtain ⟨hp4, hm⟩ := asrt_b hm
            obtain ⟨r4, hr4, hm⟩ := call_b hm
            have hg2 := (hS.at_ 1 rfl).elsAll
            refine at_run 5 [⟨true, [], vS (Instr.indexAt 38 (.slice A7 all3.length c7) (.int .i64 i1)), .pointer (some (sAddrK A7 3 i1))⟩, ⟨false, [], vS (Instr.loadAt 32 (.pointer (some (sAddrK A7 3 i1)))), .agg #[.int .i64 ((getd zP32 all3 i1).1), .int .i64 ((getd zP32 all3 i1).2.1), .slice ((getd rzP32 raw3 i1).2.2.1) (((getd zP32 all3 i1).2.2).length) ((getd rzP32 raw3 i1).2.2.2.2)]⟩] [none, none, some (.pointer (some (sAddrK A7 3 i1))), some (.agg #[.int .i64 ((getd zP32 all3 i1).1), .int .i64 ((getd zP32 all3 i1).2.1), .slice ((getd rzP32 raw3 i1).2.2.1) (((getd zP32 all3 i1).2.2).length) ((getd rzP32 raw3 i1).2.2.2.2)]), none] [6, 7, 8, 9, 10, 44, 45] [pl 6 (.slice A7 all3.length c7), pl 7 (.slice A8 far3.length c8), pl 8 (.slice A2 (Int.toNat r2) c2), pl 9 (.int .i64 i1), pl 10 (.int .i64 dir1), pl 44 (.agg #[.int .i64 ((getd zP32 all3 i1).1), .int .i64 ((getd zP32 all3 i1).2.1), .slice ((getd rzP32 raw3 i1).2.2.1) (((getd zP32 all3 i1).2.2).length) ((getd rzP32 raw3 i1).2.2.2.2)]), pl 45 (.int .i64 dir1)] hF hS (by kernel_rfl) (by kernel_rfl) ?_ (fun a w hF hS => ?_)
            · exact obs_cons (ob_ixK (m := raw3) encPK32 Und38 hi32 hs32 (hS.at_ 1 rfl).rdE ((hS.at_ 1 rfl).lenEr encPK32) (fun _ => hp4)) <| obs_cons (ob_getP (n := all3.length) (raw := raw3) encPK32 rzP32 (by kernel_rfl) (by kernel_rfl) (fun _ hS => ⟨_, (hS.at_ 1 rfl).rdE⟩) (fun _ hS => (hS.at_ 1 rfl).lenEr encPK32) (fun _ => hp4) (val32 (PAll.any RelP32 hg2 i1))) <| obs_nil
            refine at_call (f := 18) (args := #[.agg #[.int .i64 ((getd zP32 all3 i1).1), .int .i64 ((getd zP32 all3 i1).2.1), .slice ((getd rzP32 raw3 i1).2.2.1) (((getd zP32 all3 i1).2.2).length) ((getd rzP32 raw3 i1).2.2.2.2)], .int .i64 dir1]) (d := 46) hF (by kernel_rfl) (by kernel_rfl) Try.func18 (by kernel_rfl) rfl (gameroomref_SlideMove_w hr4 hS (fun _ hS => ((PAll.any RelP32 hg2 i1).2.2.2.2.at_ hS 0 rfl)) (PAll.any RelP32 hg2 i1).2.2.2.1 rfl) (fun v a w hR hF => ?_)
            clear hS
            obtain ⟨A11, c11, rfl, hS⟩ := hR
            have hS : Sep w0 B w (own 3 (.slice A11 r4.2.2.1.length c11) (vI r4.2.2.1) :: pg3 :: els encP32 Rel32 pg3 32 3 A7 all3.length c7 raw3 all3 :: own 3 (.slice A8 far3.length c8) (vI far3) :: own 4 (.slice A2 (Int.toNat r2) c2) (vB seen2) :: fs) := hS
            refine at_run 3 [] [] [6, 7, 8, 9, 10, 47, 48] [pl 6 (.slice A7 all3.length c7), pl 7 (.slice A8 far3.length c8), pl 8 (.slice A2 (Int.toNat r2) c2), pl 9 (.int .i64 i1), pl 10 (.int .i64 dir1), pl 47 (.agg #[.int .i64 r4.1, .int .i64 r4.2.1, .slice A11 r4.2.2.1.length c11]), pl 48 (.bool r4.2.2.2)] hF hS (by kernel_rfl) (by kernel_rfl) ?_ (fun a w hF hS => ?_)
            · exact obs_nil
            refine at_do (d := 11) (s := vS (Instr.alloc 32 true (.tuple #[]))) (v := .pointer (some ⟨w.heap.size, 0, none⟩)) (w' := w.alloc (.cells #[.int .i64 0, .int .i64 0, .slice none 0 0] 32)) hF (by kernel_rfl) (by kernel_rfl) (by kernel_rfl) (fun a hF => ?_)
            have hS : Sep w0 B (w.alloc (.cells #[.int .i64 0, .int .i64 0, .slice none 0 0] 32)) (blk w.heap.size 32 #[.int .i64 0, .int .i64 0, .slice none 0 0] :: (own 3 (.slice A11 r4.2.2.1.length c11) (vI r4.2.2.1) :: pg3 :: els encP32 Rel32 pg3 32 3 A7 all3.length c7 raw3 all3 :: own 3 (.slice A8 far3.length c8) (vI far3) :: own 4 (.slice A2 (Int.toNat r2) c2) (vB seen2) :: fs)) := hS.box 32 #[.int .i64 0, .int .i64 0, .slice none 0 0]
            generalize w.heap.size = g3 at hF hS
            generalize w.alloc (.cells #[.int .i64 0, .int .i64 0, .slice none 0 0] 32) = w at hS ⊢
            obtain ⟨w, hrun, hS⟩ := run_putA (P := Try.prog) (t := 32) (us := #[.int .i64 r4.1, .int .i64 r4.2.1, .slice A11 r4.2.2.1.length c11]) (o := 0) (hS.at_ 0 rfl) (by kernel_rfl) (all_one (by kernel_rfl)) (Nat.le_of_ble_eq_true (by kernel_rfl))
            refine at_skip hF (by kernel_rfl) hrun ?_
            have hS : Sep w0 B w (blk g3 32 #[.int .i64 r4.1, .int .i64 r4.2.1, .slice A11 r4.2.2.1.length c11] :: own 3 (.slice A11 r4.2.2.1.length c11) (vI r4.2.2.1) :: pg3 :: els encP32 Rel32 pg3 32 3 A7 all3.length c7 raw3 all3 :: own 3 (.slice A8 far3.length c8) (vI far3) :: own 4 (.slice A2 (Int.toNat r2) c2) (vB seen2) :: fs) := hS
            refine at_run 1 [] [] [6, 7, 8, 9, 10, 11, 12] [pl 6 (.slice A7 all3.length c7), pl 7 (.slice A8 far3.length c8), pl 8 (.slice A2 (Int.toNat r2) c2), pl 9 (.int .i64 i1), pl 10 (.int .i64 dir1), pl 11 (.pointer (some ⟨g3, 0, none⟩)), pl 12 (.bool r4.2.2.2)] hF hS (by kernel_rfl) (by kernel_rfl) ?_ (fun a w hF hS => ?_)
            · exact obs_nil
            refine at_end [6, 7, 8, 9, 10, 11, 12] [pl 6 (.slice A7 all3.length c7), pl 7 (.slice A8 far3.length c8), pl 8 (.slice A2 (Int.toNat r2) c2), pl 9 (.int .i64 i1), pl 10 (.int .i64 dir1), pl 11 (.pointer (some ⟨g3, 0, none⟩)), pl 12 (.bool r4.2.2.2)] hF rfl (by kernel_rfl) (fun hF => ?_)
            refine then_n ?_
            refine seq_cut (fun a w => Fr 78 [pl 6 (.slice A7 all3.length c7), pl 7 (.slice A8 far3.length c8), pl 8 (.slice A2 (Int.toNat r2) c2), pl 9 (.int .i64 i1), pl 10 (.int .i64 dir1), pl 11 (.pointer (some ⟨g3, 0, none⟩))] a ∧ Sep w0 B w (pg3 :: els encP32 Rel32 pg3 32 3 A7 all3.length c7 raw3 all3 :: own 3 (.slice A8 far3.length c8) (vI far3) :: own 4 (.slice A2 (Int.toNat r2) c2) (vB seen2) :: blk g3 32 #[.int .i64 r4.1, .int .i64 r4.2.1, .slice A11 r4.2.2.1.length c11] :: own 3 (.slice A11 r4.2.2.1.length c11) (vI r4.2.2.1) :: fs) ∧ ((gameroomref_SlideFar_J6 r2 i1 all3 far3 seen2 dir1 r4)).bind φ2 = some r) ?_ ?_
            · rintro a w ⟨hF, hS, hm⟩
              unfold gameroomref_SlideFar_J6 at hm
              refine seqR ?_
              obtain ⟨r6, hr6, hm⟩ := call_b hm
              obtain ⟨hp6, hm⟩ := asrt_b hm
              refine at_run 5 [⟨false, [], vS (Instr.loadAt 22 (.pointer (some ⟨g3, 2, none⟩))), .slice A11 r4.2.2.1.length c11⟩, ⟨false, [], callFunc 61 #[.slice A11 r4.2.2.1.length c11], .int .i64 r6⟩, ⟨true, [], vS (Instr.indexAt 105 (.slice A2 (Int.toNat r2) c2) (.int .i64 r6)), .pointer (some (sAddr A2 r6))⟩] [none, none, some (.slice A11 r4.2.2.1.length c11), some (.int .i64 r6), some (.pointer (some (sAddr A2 r6)))] [6, 7, 8, 9, 10, 11, 63] [pl 6 (.slice A7 all3.length c7), pl 7 (.slice A8 far3.length c8), pl 8 (.slice A2 (Int.toNat r2) c2), pl 9 (.int .i64 i1), pl 10 (.int .i64 dir1), pl 11 (.pointer (some ⟨g3, 0, none⟩)), pl 63 (.pointer (some (sAddr A2 r6)))] hF hS (by kernel_rfl) (by kernel_rfl) ?_ (fun a w hF hS => ?_)
              · exact obs_cons (ob_load Agg22 (fun _ _ hS => (hS.at_ 4 rfl).cell rfl)) <| obs_cons (ob_call Try.func61 (by kernel_rfl) rfl (fun _ _ hS => gameroomref_NumberOf_w hr6 hS (fun _ hS => (hS.at_ 5 rfl).rd) ((hS.at_ 5 rfl).cap1) rfl)) <| obs_cons (ob_ix1 (f := Value.bool) (m := seen2) Und105 hi4 hs4 (hS.at_ 3 rfl).rd ((hS.at_ 3 rfl).len1) (fun _ => hp6)) <| obs_nil
              obtain ⟨w, hrun, hS⟩ := run_set1 (P := Try.prog) (t := 4) (x := true) Value.bool (hS.at_ 3 rfl) hi4 hs4 rfl rfl hp6
              refine at_skip hF (by kernel_rfl) hrun ?_
              have hS : Sep w0 B w (pg3 :: els encP32 Rel32 pg3 32 3 A7 all3.length c7 raw3 all3 :: own 3 (.slice A8 far3.length c8) (vI far3) :: own 4 (.slice A2 (Int.toNat r2) c2) (vB (seen2.set (Int.toNat r6) true)) :: blk g3 32 #[.int .i64 r4.1, .int .i64 r4.2.1, .slice A11 r4.2.2.1.length c11] :: own 3 (.slice A11 r4.2.2.1.length c11) (vI r4.2.2.1) :: fs) := hS
              refine at_end [6, 7, 8, 9, 10, 11] [pl 6 (.slice A7 all3.length c7), pl 7 (.slice A8 far3.length c8), pl 8 (.slice A2 (Int.toNat r2) c2), pl 9 (.int .i64 i1), pl 10 (.int .i64 dir1), pl 11 (.pointer (some ⟨g3, 0, none⟩))] hF rfl (by kernel_rfl) (fun hF => ?_)
              refine then_n ?_
              refine seqR ?_
              obtain ⟨hp7, hm⟩ := asrt_b hm
              refine at_run 2 [⟨false, [], vS (Instr.loadAt 32 (.pointer (some ⟨g3, 0, none⟩))), .agg #[.int .i64 r4.1, .int .i64 r4.2.1, .slice A11 r4.2.2.1.length c11]⟩] [none, some (.agg #[.int .i64 r4.1, .int .i64 r4.2.1, .slice A11 r4.2.2.1.length c11])] [7, 8, 9, 10, 64, 65] [pl 7 (.slice A8 far3.length c8), pl 8 (.slice A2 (Int.toNat r2) c2), pl 9 (.int .i64 i1), pl 10 (.int .i64 dir1), pl 64 (.slice A7 all3.length c7), pl 65 (.agg #[.int .i64 r4.1, .int .i64 r4.2.1, .slice A11 r4.2.2.1.length c11])] hF hS (by kernel_rfl) (by kernel_rfl) ?_ (fun a w hF hS => ?_)
              · exact obs_cons (ob_loadA (cs := #[.int .i64 r4.1, .int .i64 r4.2.1, .slice A11 r4.2.2.1.length c11]) (by kernel_rfl) (by kernel_rfl) (fun _ _ hS => (hS.at_ 4 rfl).cellsAt 0 (by rfl))) <| obs_nil
              have hc2 := (hS.at_ 5 rfl).cap1
              have hS := hS.pickN 6 [5, 0, 1, 2, 3, 4] (by decide)
              have hS : Sep w0 B w ((twoB (own 3 (.slice A11 r4.2.2.1.length c11) (vI r4.2.2.1)) pg3) :: els encP32 Rel32 pg3 32 3 A7 all3.length c7 raw3 all3 :: own 3 (.slice A8 far3.length c8) (vI far3) :: own 4 (.slice A2 (Int.toNat r2) c2) (vB (seen2.set (Int.toNat r6) true)) :: blk g3 32 #[.int .i64 r4.1, .int .i64 r4.2.1, .slice A11 r4.2.2.1.length c11] :: fs) := hS.two
              have hS : Sep w0 B w ((twoB (own 3 (.slice A11 r4.2.2.1.length c11) (vI r4.2.2.1)) pg3) :: els encP32 Rel32 (twoB (own 3 (.slice A11 r4.2.2.1.length c11) (vI r4.2.2.1)) pg3) 32 3 A7 all3.length c7 raw3 all3 :: own 3 (.slice A8 far3.length c8) (vI far3) :: own 4 (.slice A2 (Int.toNat r2) c2) (vB (seen2.set (Int.toNat r6) true)) :: blk g3 32 #[.int .i64 r4.1, .int .i64 r4.2.1, .slice A11 r4.2.2.1.length c11] :: fs) := (hS.at_ 1 rfl).elsMono RelP32 PoolLe.right
              refine at_do (d := 66) (s := vS (Instr.buildSlice 38 1 #[(0, .agg #[.int .i64 r4.1, .int .i64 r4.2.1, .slice A11 r4.2.2.1.length c11])])) (v := .slice (some ⟨w.heap.size, 0, none⟩) 1 1) (w' := w.alloc (.cells #[.int .i64 r4.1, .int .i64 r4.2.1, .slice A11 r4.2.2.1.length c11] 32)) hF (by kernel_rfl) (by kernel_rfl) (by kernel_rfl) (fun a hF => ?_)
              have hS : Sep w0 B (w.alloc (.cells #[.int .i64 r4.1, .int .i64 r4.2.1, .slice A11 r4.2.2.1.length c11] 32)) (els encP32 Rel32 (twoB (own 3 (.slice A11 r4.2.2.1.length c11) (vI r4.2.2.1)) pg3) 32 3 (some (⟨w.heap.size, 0, none⟩ : Addr)) 1 1 ([(r4.1, r4.2.1, (A11, r4.2.2.1.length, c11))] : List (Int × Int × Hd3)) ([(r4.1, r4.2.1, r4.2.2.1)] : List (Int × Int × List Int)) :: ((twoB (own 3 (.slice A11 r4.2.2.1.length c11) (vI r4.2.2.1)) pg3) :: els encP32 Rel32 (twoB (own 3 (.slice A11 r4.2.2.1.length c11) (vI r4.2.2.1)) pg3) 32 3 A7 all3.length c7 raw3 all3 :: own 3 (.slice A8 far3.length c8) (vI far3) :: own 4 (.slice A2 (Int.toNat r2) c2) (vB (seen2.set (Int.toNat r6) true)) :: blk g3 32 #[.int .i64 r4.1, .int .i64 r4.2.1, .slice A11 r4.2.2.1.length c11] :: fs)) := Sep.ownEls' (l := []) (hS.litK 32 3 #[.int .i64 r4.1, .int .i64 r4.2.1, .slice A11 r4.2.2.1.length c11] 1 rfl (by omega)) rfl (PAll.cons ⟨rfl, rfl, SlR.of (PoolW.own : PoolW (twoB (own 3 (.slice A11 r4.2.2.1.length c11) (vI r4.2.2.1)) pg3) A11 r4.2.2.1) hc2⟩ (PAll.nil : PAll Rel32 (twoB (own 3 (.slice A11 r4.2.2.1.length c11) (vI r4.2.2.1)) pg3) ([] : List (Int × Int × Hd3)) ([] : List (Int × Int × List Int))))
              generalize (some (⟨w.heap.size, 0, none⟩ : Addr)) = g4 at hF hS
              generalize w.alloc (.cells #[.int .i64 r4.1, .int .i64 r4.2.1, .slice A11 r4.2.2.1.length c11] 32) = w at hS ⊢
              obtain ⟨A14, c14, w, hrun, hS⟩ := run_appE (P := Try.prog) (t := 38) (ys := ([(r4.1, r4.2.1, (A11, r4.2.2.1.length, c11))] : List (Int × Int × Hd3))) (my := ([(r4.1, r4.2.1, r4.2.2.1)] : List (Int × Int × List Int))) (A2 := g4) (m2 := 1) (c2 := 1) encPK32 (hS.at_ 2 rfl) (hS.at_ 0 rfl).rdE (hS.at_ 0 rfl).elsAll ((hS.at_ 0 rfl).lenEr encPK32) 38 Und38 hi32 hz32 hs32 rfl (by omega) hp7
              have hS : Sep w0 B w (els encP32 Rel32 (twoB (own 3 (.slice A11 r4.2.2.1.length c11) (vI r4.2.2.1)) pg3) 32 3 g4 1 1 ([(r4.1, r4.2.1, (A11, r4.2.2.1.length, c11))] : List (Int × Int × Hd3)) ([(r4.1, r4.2.1, r4.2.2.1)] : List (Int × Int × List Int)) :: (twoB (own 3 (.slice A11 r4.2.2.1.length c11) (vI r4.2.2.1)) pg3) :: els encP32 Rel32 (twoB (own 3 (.slice A11 r4.2.2.1.length c11) (vI r4.2.2.1)) pg3) 32 3 A14 ((all3 ++ ([(r4.1, r4.2.1, r4.2.2.1)] : List (Int × Int × List Int))).length) c14 (raw3 ++ ([(r4.1, r4.2.1, (A11, r4.2.2.1.length, c11))] : List (Int × Int × Hd3))) (all3 ++ ([(r4.1, r4.2.1, r4.2.2.1)] : List (Int × Int × List Int))) :: own 3 (.slice A8 far3.length c8) (vI far3) :: own 4 (.slice A2 (Int.toNat r2) c2) (vB (seen2.set (Int.toNat r6) true)) :: blk g3 32 #[.int .i64 r4.1, .int .i64 r4.2.1, .slice A11 r4.2.2.1.length c11] :: fs) := hS
              refine at_do (d := 67) hF (by kernel_rfl) (by kernel_rfl) hrun (fun a hF => ?_)
              refine at_run 1 [] [] [6, 7, 8, 9, 10] [pl 6 (.slice A14 ((all3 ++ ([(r4.1, r4.2.1, r4.2.2.1)] : List (Int × Int × List Int))).length) c14), pl 7 (.slice A8 far3.length c8), pl 8 (.slice A2 (Int.toNat r2) c2), pl 9 (.int .i64 i1), pl 10 (.int .i64 dir1)] hF hS (by kernel_rfl) (by kernel_rfl) ?_ (fun a w hF hS => ?_)
              · exact obs_nil
              refine at_end [6, 7, 8, 9, 10] [pl 6 (.slice A14 ((all3 ++ ([(r4.1, r4.2.1, r4.2.2.1)] : List (Int × Int × List Int))).length) c14), pl 7 (.slice A8 far3.length c8), pl 8 (.slice A2 (Int.toNat r2) c2), pl 9 (.int .i64 i1), pl 10 (.int .i64 dir1)] hF rfl (by kernel_rfl) (fun hF => ?_)
              refine then_n ?_
              refine oneR ?_
              obtain ⟨hp8, hm⟩ := asrt_b hm
              obtain ⟨hp9, hm⟩ := asrt_b hm
              refine at_run 6 [⟨true, [], vS (Instr.indexAt 22 (.slice A8 far3.length c8) (.int .i64 i1)), .pointer (some (sAddr A8 i1))⟩, ⟨false, [], vS (Instr.loadAt 3 (.pointer (some (sAddr A8 i1)))), .int .i64 (geti far3 i1)⟩] [none, none, none, some (.pointer (some (sAddr A8 i1))), some (.int .i64 (geti far3 i1)), none] [6, 8, 9, 10, 68, 73] [pl 6 (.slice A14 ((all3 ++ ([(r4.1, r4.2.1, r4.2.2.1)] : List (Int × Int × List Int))).length) c14), pl 8 (.slice A2 (Int.toNat r2) c2), pl 9 (.int .i64 i1), pl 10 (.int .i64 dir1), pl 68 (.slice A8 far3.length c8), pl 73 (.int .i64 (w64 ((geti far3 i1) + 1)))] hF hS (by kernel_rfl) (by kernel_rfl) ?_ (fun a w hF hS => ?_)
              · exact obs_cons (ob_ix1 (f := (Value.int .i64)) (m := far3) Und22 hi3 hs3 (hS.at_ 3 rfl).rd rfl (fun _ => hp8)) <| obs_cons (ob_get1 (n := far3.length) (m := far3) (Value.int .i64) (0 : Int) Agg3 (fun _ hS => ⟨_, (hS.at_ 3 rfl).rd⟩) (fun _ hS => rfl) (fun _ => hp8)) <| obs_nil
              refine at_do (d := 74) (s := vS (Instr.buildSlice 22 1 #[(0, .int .i64 (w64 ((geti far3 i1) + 1)))])) (v := .slice (some ⟨w.heap.size, 0, none⟩) 1 1) (w' := w.alloc (.cells #[.int .i64 (w64 ((geti far3 i1) + 1))] 3)) hF (by kernel_rfl) (by kernel_rfl) (by kernel_rfl) (fun a hF => ?_)
              have hS : Sep w0 B (w.alloc (.cells #[.int .i64 (w64 ((geti far3 i1) + 1))] 3)) (own 3 (.slice (some (⟨w.heap.size, 0, none⟩ : Addr)) 1 1) (vI ([w64 ((geti far3 i1) + 1)] : List Int)) :: (els encP32 Rel32 (twoB (own 3 (.slice A11 r4.2.2.1.length c11) (vI r4.2.2.1)) pg3) 32 3 g4 1 1 ([(r4.1, r4.2.1, (A11, r4.2.2.1.length, c11))] : List (Int × Int × Hd3)) ([(r4.1, r4.2.1, r4.2.2.1)] : List (Int × Int × List Int)) :: (twoB (own 3 (.slice A11 r4.2.2.1.length c11) (vI r4.2.2.1)) pg3) :: els encP32 Rel32 (twoB (own 3 (.slice A11 r4.2.2.1.length c11) (vI r4.2.2.1)) pg3) 32 3 A14 ((all3 ++ ([(r4.1, r4.2.1, r4.2.2.1)] : List (Int × Int × List Int))).length) c14 (raw3 ++ ([(r4.1, r4.2.1, (A11, r4.2.2.1.length, c11))] : List (Int × Int × Hd3))) (all3 ++ ([(r4.1, r4.2.1, r4.2.2.1)] : List (Int × Int × List Int))) :: own 3 (.slice A8 far3.length c8) (vI far3) :: own 4 (.slice A2 (Int.toNat r2) c2) (vB (seen2.set (Int.toNat r6) true)) :: blk g3 32 #[.int .i64 r4.1, .int .i64 r4.2.1, .slice A11 r4.2.2.1.length c11] :: fs)) := hS.lit 3 #[.int .i64 (w64 ((geti far3 i1) + 1))] 1 rfl (by omega)
              generalize (some (⟨w.heap.size, 0, none⟩ : Addr)) = g5 at hF hS
              generalize w.alloc (.cells #[.int .i64 (w64 ((geti far3 i1) + 1))] 3) = w at hS ⊢
              obtain ⟨A15, c15, w, hrun, hS⟩ := run_app1 (P := Try.prog) (t := 22) (m := far3) (ys := ([w64 ((geti far3 i1) + 1)] : List Int)) (A2 := g5) (m2 := 1) (c2 := 1) (Value.int .i64) (0 : Int) (hS.at_ 4 rfl) (hS.at_ 0 rfl).rd ((hS.at_ 0 rfl).len1) 22 Und22 hi3 hz3 hs3 (by omega) rfl (fun _ => rfl) hp9
              have hS : Sep w0 B w (own 3 (.slice g5 1 1) (vI ([w64 ((geti far3 i1) + 1)] : List Int)) :: els encP32 Rel32 (twoB (own 3 (.slice A11 r4.2.2.1.length c11) (vI r4.2.2.1)) pg3) 32 3 g4 1 1 ([(r4.1, r4.2.1, (A11, r4.2.2.1.length, c11))] : List (Int × Int × Hd3)) ([(r4.1, r4.2.1, r4.2.2.1)] : List (Int × Int × List Int)) :: (twoB (own 3 (.slice A11 r4.2.2.1.length c11) (vI r4.2.2.1)) pg3) :: els encP32 Rel32 (twoB (own 3 (.slice A11 r4.2.2.1.length c11) (vI r4.2.2.1)) pg3) 32 3 A14 ((all3 ++ ([(r4.1, r4.2.1, r4.2.2.1)] : List (Int × Int × List Int))).length) c14 (raw3 ++ ([(r4.1, r4.2.1, (A11, r4.2.2.1.length, c11))] : List (Int × Int × Hd3))) (all3 ++ ([(r4.1, r4.2.1, r4.2.2.1)] : List (Int × Int × List Int))) :: own 3 (.slice A15 ((far3 ++ ([w64 ((geti far3 i1) + 1)] : List Int)).length) c15) (vI (far3 ++ ([w64 ((geti far3 i1) + 1)] : List Int))) :: own 4 (.slice A2 (Int.toNat r2) c2) (vB (seen2.set (Int.toNat r6) true)) :: blk g3 32 #[.int .i64 r4.1, .int .i64 r4.2.1, .slice A11 r4.2.2.1.length c11] :: fs) := hS
              refine at_do (d := 75) hF (by kernel_rfl) (by kernel_rfl) hrun (fun a hF => ?_)
              refine at_run 1 [] [] [6, 7, 8, 9, 10] [pl 6 (.slice A14 ((all3 ++ ([(r4.1, r4.2.1, r4.2.2.1)] : List (Int × Int × List Int))).length) c14), pl 7 (.slice A15 ((far3 ++ ([w64 ((geti far3 i1) + 1)] : List Int)).length) c15), pl 8 (.slice A2 (Int.toNat r2) c2), pl 9 (.int .i64 i1), pl 10 (.int .i64 dir1)] hF hS (by kernel_rfl) (by kernel_rfl) ?_ (fun a w hF hS => ?_)
              · exact obs_nil
              refine at_end [6, 7, 8, 9, 10] [pl 6 (.slice A14 ((all3 ++ ([(r4.1, r4.2.1, r4.2.2.1)] : List (Int × Int × List Int))).length) c14), pl 7 (.slice A15 ((far3 ++ ([w64 ((geti far3 i1) + 1)] : List Int)).length) c15), pl 8 (.slice A2 (Int.toNat r2) c2), pl 9 (.int .i64 i1), pl 10 (.int .i64 dir1)] hF rfl (by kernel_rfl) (fun hF => ?_)
              refine block_n ?_
              refine then_n ?_
              have hS := hS.pickN 7 [2, 3, 4, 5] (by decide)
              exact ⟨(all3 ++ ([(r4.1, r4.2.1, r4.2.2.1)] : List (Int × Int × List Int))), (far3 ++ ([w64 ((geti far3 i1) + 1)] : List Int)), (seen2.set (Int.toNat r6) true), (twoB (own 3 (.slice A11 r4.2.2.1.length c11) (vI r4.2.2.1)) pg3), (raw3 ++ ([(r4.1, r4.2.1, (A11, r4.2.2.1.length, c11))] : List (Int × Int × Hd3))), A14, c14, A15, c15, hF.weak [6, 7, 8, 9, 10] (by kernel_rfl), hS, hm⟩
            · obtain ⟨r5, hr5, hm⟩ := call_b hm
              obtain ⟨hp5, hm⟩ := asrt_b hm
              refine reg [⟨false, [(!r4.2.2.2, false)], vS (Instr.loadAt 22 (.pointer (some ⟨g3, 2, none⟩))), .slice A11 r4.2.2.1.length c11⟩, ⟨false, [(!r4.2.2.2, false)], callFunc 61 #[.slice A11 r4.2.2.1.length c11], .int .i64 r5⟩, ⟨true, [(!r4.2.2.2, false)], vS (Instr.indexAt 105 (.slice A2 (Int.toNat r2) c2) (.int .i64 r5)), .pointer (some (sAddr A2 r5))⟩, ⟨false, [(!r4.2.2.2, false)], vS (Instr.loadAt 4 (.pointer (some (sAddr A2 r5)))), .bool (getb seen2 r5)⟩] [none, none, none, none, none, some (.slice A11 r4.2.2.1.length c11), some (.int .i64 r5), some (.pointer (some (sAddr A2 r5))), some (.bool (getb seen2 r5)), none] [6, 7, 8, 9, 10, 11, 58] [pl 6 (.slice A7 all3.length c7), pl 7 (.slice A8 far3.length c8), pl 8 (.slice A2 (Int.toNat r2) c2), pl 9 (.int .i64 i1), pl 10 (.int .i64 dir1), pl 11 (.pointer (some ⟨g3, 0, none⟩)), pl 58 (.bool ((!r4.2.2.2) || (getb seen2 r5)))] hF hS Fol (by kernel_rfl) (by kernel_rfl) (by kernel_rfl) ?_ (fun a w hF hS => ?_)
              · exact obs_cons (ob_load Agg22 (fun _ _ hS => (hS.at_ 0 rfl).cell rfl)) <| obs_cons (ob_call Try.func61 (by kernel_rfl) rfl (fun hy _ hS => gameroomref_NumberOf_w (ite_some hr5 (by rw [show (!r4.2.2.2) = false from hy (!r4.2.2.2, false) (by simp)]; try rfl)) hS (fun _ hS => (hS.at_ 1 rfl).rd) ((hS.at_ 1 rfl).cap1) rfl)) <| obs_cons (ob_ix1 (f := Value.bool) (m := seen2) Und105 hi4 hs4 (hS.at_ 5 rfl).rd ((hS.at_ 5 rfl).len1) (fun hy => hp5 (hy (!r4.2.2.2, false) (by simp)))) <| obs_cons (ob_get1 (n := (Int.toNat r2)) (m := seen2) Value.bool false Agg4 (fun _ hS => ⟨_, (hS.at_ 5 rfl).rd⟩) (fun _ hS => ((hS.at_ 5 rfl).len1)) (fun hy => hp5 (hy (!r4.2.2.2, false) (by simp)))) <| obs_nil
              refine cond_ev (t := 58) (b := (!r4.2.2.2) || (getb seen2 r5)) hF (by kernel_rfl) (fun hb => ?_) (fun hb => ?_)
              · replace hm := if_t hm hb
                refine wpIn_exit ?_
                refine then_e (block_e (then_n ?_))
                have hS := hS.pickN 6 [2, 3, 4, 5] (by decide)
                exact ⟨all3, far3, seen2, pg3, raw3, A7, c7, A8, c8, hF.weak [6, 7, 8, 9, 10] (by kernel_rfl), hS, hm⟩
              · replace hm := if_f hm hb
                refine wpIn_skip ?_
                refine then_n ?_
                have hS := hS.pickN 6 [2, 3, 4, 5, 0, 1] (by decide)
                exact ⟨hF.weak [6, 7, 8, 9, 10, 11] (by kernel_rfl), hS, hm⟩
        · refine reg [] [] [6, 7, 8, 9, 10, 37] [pl 6 (.slice A7 all3.length c7), pl 7 (.slice A8 far3.length c8), pl 8 (.slice A2 (Int.toNat r2) c2), pl 9 (.int .i64 i1), pl 10 (.int .i64 dir1), pl 37 (.bool (decide (dir1 < 4)))] hF hS Fol (by kernel_rfl) (by kernel_rfl) (by kernel_rfl) ?_ (fun a w hF hS => ?_)
          · exact obs_nil
          refine cond_ev (t := 37) (b := decide (dir1 < 4)) hF (by kernel_rfl) (fun hb => ?_) (fun hb => ?_)
          · replace hm := if_t hm hb
            refine wpIn_skip ?_
            refine then_n ?_
            exact ⟨hF.weak [6, 7, 8, 9, 10] (by kernel_rfl), hS, hm⟩
          · replace hm := if_f hm hb
            refine wpIn_exit ?_
            refine then_e (then_e (block_e (block_n (then_n ?_))))
            rw [← hφ2] at hm
            replace hm := done_b hm
            unfold gameroomref_SlideFar_K2 at hm
            try dsimp only at hm
            have hm : ((gameroomref_SlideFar_J3 i1) all3 far3 seen2).bind φ1 = some r := hm
            exact ⟨all3, far3, seen2, pg3, raw3, A7, c7, A8, c8, hF.weak [6, 7, 8, 9] (by kernel_rfl), hS, hm⟩
    · refine reg [] [] [6, 7, 8, 9, 33] [pl 6 (.slice A3 all1.length c3), pl 7 (.slice A4 far1.length c4), pl 8 (.slice A2 (Int.toNat r2) c2), pl 9 (.int .i64 i1), pl 33 (.bool (decide (i1 < (all1.length : Int))))] hF hS Fol (by kernel_rfl) (by kernel_rfl) (by kernel_rfl) ?_ (fun a w hF hS => ?_)
      · exact obs_nil
      refine cond_ev (t := 33) (b := decide (i1 < (all1.length : Int))) hF (by kernel_rfl) (fun hb => ?_) (fun hb => ?_)
      · replace hm := if_t hm hb
        refine wpIn_skip ?_
        refine then_n ?_
        exact ⟨hF.weak [6, 7, 8, 9] (by kernel_rfl), hS, hm⟩
      · replace hm := if_f hm hb
        refine wpIn_exit ?_
        refine then_e (then_e (block_e (then_n ?_)))
        have hS := hS.pickN 4 [0, 1, 2] (by decide)
        rw [← hφ1] at hm
        replace hm := done_b hm
        unfold gameroomref_SlideFar_K1 at hm
        try dsimp only at hm
        have hm : (gameroomref_SlideFar_J1 all1 far1).bind some = some r := hm
        exact ⟨all1, far1, pg1, raw1, A3, c3, A4, c4, hF.weak [6, 7] (by kernel_rfl), hS, hm⟩

noncomputable def gameroomref_sameInts_J4  (i1 : Int) : Option (St Int (Fl Unit Bool)) :=
  some (.next (w64 (i1 + 1)))

noncomputable def gameroomref_sameInts_J3  (a1 : List Int) (b1 : List Int) (i1 : Int) : Option (St Int (Fl Unit Bool)) :=
  asrt (0 ≤ i1 ∧ i1 < (a1.length : Int)) <| asrt (0 ≤ i1 ∧ i1 < (b1.length : Int)) <| if ((geti a1 i1) != (geti b1 i1)) then (some (.done (.ret false))) else ((gameroomref_sameInts_J4 i1))

noncomputable def gameroomref_sameInts_J2  : Option Bool :=
  some true

noncomputable def gameroomref_sameInts_K1  : (Fl Unit Bool) → Option Bool :=
  fun (x : (Fl Unit Bool)) => match x with | .go _ => gameroomref_sameInts_J2 | .ret x => some x

noncomputable def gameroomref_sameInts_L1  (a1 : List Int) (b1 : List Int) : Int → Option (St Int (Fl Unit Bool)) :=
  fun (x : Int) => match x with | i1 => if (decide (i1 < (a1.length : Int))) then ((gameroomref_sameInts_J3 a1 b1 i1)) else (some (.done (.go ())))

noncomputable def gameroomref_sameInts_J1  (a1 : List Int) (b1 : List Int) : Option Bool :=
  (loop (gameroomref_sameInts_L1 a1 b1) 0).bind gameroomref_sameInts_K1

noncomputable def gameroomref_sameInts_m  (a1 : List Int) (b1 : List Int) : Option Bool :=
  if ((a1.length : Int) != (b1.length : Int)) then (some false) else ((gameroomref_sameInts_J1 a1 b1))

set_option maxRecDepth 100000 in
set_option maxHeartbeats 4000000 in
theorem gameroomref_sameInts_w  {A1 : Option Addr} {c1 : Nat} {n1 : Nat} {a1 : List Int} {A2 : Option Addr} {c2 : Nat} {n2 : Nat} {b1 : List Int} {r : Bool} {w0 w : World} {B : Nat} {fs : List HP} (hm : gameroomref_sameInts_m a1 b1 = some r) (hS : Sep w0 B w (fs)) (hr_a1 : RdF w0 B fs A1 (vI a1)) (_hc_a1 : a1.length ≤ c1) (_hn_a1 : n1 = a1.length) (hr_b1 : RdF w0 B fs A2 (vI b1)) (_hc_b1 : b1.length ≤ c2) (_hn_b1 : n2 = b1.length) :
    Calls Try.prog 64 #[.slice A1 n1 c1, .slice A2 n2 c2] w fun e w' => e = .returned (.bool r) ∧ Sep w0 B w' (fs) := by
  obtain ⟨i3, hi3, hz3, hs3, hb3⟩ := info_parts Info3
  obtain rfl := _hn_a1
  obtain rfl := _hn_b1
  unfold gameroomref_sameInts_m at hm
  replace hm := start_b hm
  refine enter (l := [.slice A1 a1.length c1, .slice A2 b1.length c2]) (n := 26) Try.func64 rfl rfl (by simp) (fun a hF => ?_)
  refine reg [] [] [0, 1] [pl 0 (.slice A1 a1.length c1), pl 1 (.slice A2 b1.length c2)] hF hS Fol (by kernel_rfl) (by kernel_rfl) (by kernel_rfl) ?_ (fun a w hF hS => ?_)
  · exact obs_nil
  refine seq_cut (fun a w => Fr 26 [pl 0 (.slice A1 a1.length c1), pl 1 (.slice A2 b1.length c2)] a ∧ Sep w0 B w (fs) ∧ ((gameroomref_sameInts_J1 a1 b1)).bind some = some r) ?_ ?_
  · rintro a w ⟨hF, hS, hm⟩
    unfold gameroomref_sameInts_J1 at hm
    refine seq_cut (fun a w => Fr 26 [] a ∧ Sep w0 B w (fs) ∧ (gameroomref_sameInts_J2).bind some = some r) ?_ ?_
    · rintro a w ⟨hF, hS, hm⟩
      unfold gameroomref_sameInts_J2 at hm
      refine reg [] [] [4] [pl 4 (.bool true)] hF hS Fol (by kernel_rfl) (by kernel_rfl) (by kernel_rfl) ?_ (fun a w hF hS => ?_)
      · exact obs_nil
      refine wpIn_ret ?_
      have hm : some true = some r := hm
      obtain rfl := Option.some.inj hm
      exact retV (rs := [.tmp 4]) (vs := [.bool true]) hF rfl (rv_t (by kernel_rfl) <| rv_nil) rfl ⟨rfl, hS⟩
    · refine reg [] [] [0, 1, 5] [pl 0 (.slice A1 a1.length c1), pl 1 (.slice A2 b1.length c2), pl 5 (.int .i64 0)] hF hS Fol (by kernel_rfl) (by kernel_rfl) (by kernel_rfl) ?_ (fun a w hF hS => ?_)
      · exact obs_nil
      refine wpIn_block ?_
      refine wp_loop_model (S := Int) (R := (Fl Unit Bool)) (gameroomref_sameInts_L1 a1 b1) (fun x => (gameroomref_sameInts_K1 x).bind some) r (fun (x : Int) a w => Fr 26 [pl 0 (.slice A1 a1.length c1), pl 1 (.slice A2 b1.length c2), pl 5 (.int .i64 x)] a ∧ Sep w0 B w (fs)) (assoc_b hm) ⟨hF.weak [0, 1, 5] (by kernel_rfl), hS⟩ ?_
      clear hF hS hm
      rintro nn1 i1 a w ⟨hF, hS⟩ hm
      generalize hφ1 : stK (gameroomref_sameInts_L1 a1 b1) nn1 (fun x => (gameroomref_sameInts_K1 x).bind some) = φ1 at hm
      unfold gameroomref_sameInts_L1 at hm
      dsimp only at hm
      refine seq_cut (fun a w => Fr 26 [pl 0 (.slice A1 a1.length c1), pl 1 (.slice A2 b1.length c2), pl 5 (.int .i64 i1)] a ∧ Sep w0 B w (fs) ∧ ((gameroomref_sameInts_J3 a1 b1 i1)).bind φ1 = some r) ?_ ?_
      · rintro a w ⟨hF, hS, hm⟩
        unfold gameroomref_sameInts_J3 at hm
        refine seq_cut (fun a w => Fr 26 [pl 0 (.slice A1 a1.length c1), pl 1 (.slice A2 b1.length c2), pl 5 (.int .i64 i1)] a ∧ Sep w0 B w (fs) ∧ ((gameroomref_sameInts_J4 i1)).bind φ1 = some r) ?_ ?_
        · rintro a w ⟨hF, hS, hm⟩
          unfold gameroomref_sameInts_J4 at hm
          refine reg1 [] [] [0, 1, 5] [pl 0 (.slice A1 a1.length c1), pl 1 (.slice A2 b1.length c2), pl 5 (.int .i64 (w64 (i1 + 1)))] hF hS Fol (by kernel_rfl) (by kernel_rfl) (by kernel_rfl) ?_ (fun a w hF hS => ?_)
          · exact obs_nil
          refine then_n ?_
          rw [← hφ1] at hm
          exact ⟨(w64 (i1 + 1)), ⟨hF.weak [0, 1, 5] (by kernel_rfl), hS⟩, hm⟩
        · refine wpIn_block ?_
          obtain ⟨hp1, hm⟩ := asrt_b hm
          obtain ⟨hp2, hm⟩ := asrt_b hm
          refine reg [⟨true, [], vS (Instr.indexAt 22 (.slice A1 a1.length c1) (.int .i64 i1)), .pointer (some (sAddr A1 i1))⟩, ⟨false, [], vS (Instr.loadAt 3 (.pointer (some (sAddr A1 i1)))), .int .i64 (geti a1 i1)⟩, ⟨true, [], vS (Instr.indexAt 22 (.slice A2 b1.length c2) (.int .i64 i1)), .pointer (some (sAddr A2 i1))⟩, ⟨false, [], vS (Instr.loadAt 3 (.pointer (some (sAddr A2 i1)))), .int .i64 (geti b1 i1)⟩] [none, none, some (.pointer (some (sAddr A1 i1))), some (.int .i64 (geti a1 i1)), none, none, some (.pointer (some (sAddr A2 i1))), some (.int .i64 (geti b1 i1)), none] [0, 1, 5, 25] [pl 0 (.slice A1 a1.length c1), pl 1 (.slice A2 b1.length c2), pl 5 (.int .i64 i1), pl 25 (.bool ((geti a1 i1) != (geti b1 i1)))] hF hS Fol (by kernel_rfl) (by kernel_rfl) (by kernel_rfl) ?_ (fun a w hF hS => ?_)
          · exact obs_cons (ob_ix1 (f := (Value.int .i64)) (m := a1) Und22 hi3 hs3 (hr_a1 _ (hS.dropN 0)) rfl (fun _ => hp1)) <| obs_cons (ob_get1 (n := a1.length) (m := a1) (Value.int .i64) (0 : Int) Agg3 (fun _ hS => ⟨_, (hr_a1 _ (hS.dropN 0))⟩) (fun _ hS => rfl) (fun _ => hp1)) <| obs_cons (ob_ix1 (f := (Value.int .i64)) (m := b1) Und22 hi3 hs3 (hr_b1 _ (hS.dropN 0)) rfl (fun _ => hp2)) <| obs_cons (ob_get1 (n := b1.length) (m := b1) (Value.int .i64) (0 : Int) Agg3 (fun _ hS => ⟨_, (hr_b1 _ (hS.dropN 0))⟩) (fun _ hS => rfl) (fun _ => hp2)) <| obs_nil
          refine cond_ev (t := 25) (b := ((geti a1 i1) != (geti b1 i1))) hF (by kernel_rfl) (fun hb => ?_) (fun hb => ?_)
          · replace hm := if_t hm hb
            refine reg [] [] [4] [pl 4 (.bool false)] hF hS Fol (by kernel_rfl) (by kernel_rfl) (by kernel_rfl) ?_ (fun a w hF hS => ?_)
            · exact obs_nil
            refine wpIn_ret ?_
            refine block_r (then_r (then_r (block_r (then_r ?_))))
            rw [← hφ1] at hm
            replace hm := done_b hm
            unfold gameroomref_sameInts_K1 at hm
            try dsimp only at hm
            have hm : some false = some r := hm
            obtain rfl := Option.some.inj hm
            exact retV (rs := [.tmp 4]) (vs := [.bool false]) hF rfl (rv_t (by kernel_rfl) <| rv_nil) rfl ⟨rfl, hS⟩
          · replace hm := if_f hm hb
            refine wpIn_skip ?_
            refine block_n ?_
            refine then_n ?_
            exact ⟨hF.weak [0, 1, 5] (by kernel_rfl), hS, hm⟩
      · refine reg [] [] [0, 1, 5, 14] [pl 0 (.slice A1 a1.length c1), pl 1 (.slice A2 b1.length c2), pl 5 (.int .i64 i1), pl 14 (.bool (decide (i1 < (a1.length : Int))))] hF hS Fol (by kernel_rfl) (by kernel_rfl) (by kernel_rfl) ?_ (fun a w hF hS => ?_)
        · exact obs_nil
        refine cond_ev (t := 14) (b := decide (i1 < (a1.length : Int))) hF (by kernel_rfl) (fun hb => ?_) (fun hb => ?_)
        · replace hm := if_t hm hb
          refine wpIn_skip ?_
          refine then_n ?_
          exact ⟨hF.weak [0, 1, 5] (by kernel_rfl), hS, hm⟩
        · replace hm := if_f hm hb
          refine wpIn_exit ?_
          refine then_e (then_e (block_e (then_n ?_)))
          rw [← hφ1] at hm
          replace hm := done_b hm
          unfold gameroomref_sameInts_K1 at hm
          try dsimp only at hm
          have hm : (gameroomref_sameInts_J2).bind some = some r := hm
          exact ⟨hF.weak [] (by kernel_rfl), hS, hm⟩
  · refine reg [] [] [0, 1, 10] [pl 0 (.slice A1 a1.length c1), pl 1 (.slice A2 b1.length c2), pl 10 (.bool ((a1.length : Int) != (b1.length : Int)))] hF hS Fol (by kernel_rfl) (by kernel_rfl) (by kernel_rfl) ?_ (fun a w hF hS => ?_)
    · exact obs_nil
    refine cond_ev (t := 10) (b := ((a1.length : Int) != (b1.length : Int))) hF (by kernel_rfl) (fun hb => ?_) (fun hb => ?_)
    · replace hm := if_t hm hb
      refine reg [] [] [4] [pl 4 (.bool false)] hF hS Fol (by kernel_rfl) (by kernel_rfl) (by kernel_rfl) ?_ (fun a w hF hS => ?_)
      · exact obs_nil
      refine wpIn_ret ?_
      refine then_r ?_
      have hm : some false = some r := hm
      obtain rfl := Option.some.inj hm
      exact retV (rs := [.tmp 4]) (vs := [.bool false]) hF rfl (rv_t (by kernel_rfl) <| rv_nil) rfl ⟨rfl, hS⟩
    · replace hm := if_f hm hb
      refine wpIn_skip ?_
      refine then_n ?_
      exact ⟨hF.weak [0, 1] (by kernel_rfl), hS, hm⟩

noncomputable def gameroomref_SameGrid_m  (a1 : Int) (a2 : Int) (a3 : List Int) (b1 : Int) (b2 : Int) (b3 : List Int) : Option Bool :=
  ((if ((a1 == b1) && (a2 == b2)) then gameroomref_sameInts_m a3 b3 else some false)).bind fun r1 => some (((a1 == b1) && (a2 == b2)) && r1)

set_option maxRecDepth 100000 in
set_option maxHeartbeats 4000000 in
theorem gameroomref_SameGrid_w  {a1 : Int} {a2 : Int} {A1 : Option Addr} {c1 : Nat} {n1 : Nat} {a3 : List Int} {b1 : Int} {b2 : Int} {A2 : Option Addr} {c2 : Nat} {n2 : Nat} {b3 : List Int} {r : Bool} {w0 w : World} {B : Nat} {fs : List HP} (hm : gameroomref_SameGrid_m a1 a2 a3 b1 b2 b3 = some r) (hS : Sep w0 B w (fs)) (hr_a3 : RdF w0 B fs A1 (vI a3)) (_hc_a3 : a3.length ≤ c1) (_hn_a3 : n1 = a3.length) (hr_b3 : RdF w0 B fs A2 (vI b3)) (_hc_b3 : b3.length ≤ c2) (_hn_b3 : n2 = b3.length) :
    Calls Try.prog 17 #[.agg #[.int .i64 a1, .int .i64 a2, .slice A1 n1 c1], .agg #[.int .i64 b1, .int .i64 b2, .slice A2 n2 c2]] w fun e w' => e = .returned (.bool r) ∧ Sep w0 B w' (fs) := by
  obtain ⟨i3, hi3, hz3, hs3, hb3⟩ := info_parts Info3
  obtain rfl := _hn_a3
  obtain rfl := _hn_b3
  unfold gameroomref_SameGrid_m at hm
  replace hm := start_b hm
  refine enter (l := [.agg #[.int .i64 a1, .int .i64 a2, .slice A1 a3.length c1], .agg #[.int .i64 b1, .int .i64 b2, .slice A2 b3.length c2]]) (n := 24) Try.func17 rfl rfl (by simp) (fun a hF => ?_)
  refine seqR ?_
  refine at_do (d := 2) (s := vS (Instr.box 32 (.agg #[.int .i64 a1, .int .i64 a2, .slice A1 a3.length c1]))) (v := .pointer (some ⟨w.heap.size, 0, none⟩)) (w' := w.alloc (.cells #[.int .i64 a1, .int .i64 a2, .slice A1 a3.length c1] 32)) hF (by kernel_rfl) (by kernel_rfl) (by kernel_rfl) (fun a hF => ?_)
  have hS : Sep w0 B (w.alloc (.cells #[.int .i64 a1, .int .i64 a2, .slice A1 a3.length c1] 32)) (blk w.heap.size 32 #[.int .i64 a1, .int .i64 a2, .slice A1 a3.length c1] :: (fs)) := hS.box 32 #[.int .i64 a1, .int .i64 a2, .slice A1 a3.length c1]
  generalize w.heap.size = g1 at hF hS
  generalize w.alloc (.cells #[.int .i64 a1, .int .i64 a2, .slice A1 a3.length c1] 32) = w at hS ⊢
  refine at_do (d := 3) (s := vS (Instr.box 32 (.agg #[.int .i64 b1, .int .i64 b2, .slice A2 b3.length c2]))) (v := .pointer (some ⟨w.heap.size, 0, none⟩)) (w' := w.alloc (.cells #[.int .i64 b1, .int .i64 b2, .slice A2 b3.length c2] 32)) hF (by kernel_rfl) (by kernel_rfl) (by kernel_rfl) (fun a hF => ?_)
  have hS : Sep w0 B (w.alloc (.cells #[.int .i64 b1, .int .i64 b2, .slice A2 b3.length c2] 32)) (blk w.heap.size 32 #[.int .i64 b1, .int .i64 b2, .slice A2 b3.length c2] :: (blk g1 32 #[.int .i64 a1, .int .i64 a2, .slice A1 a3.length c1] :: fs)) := hS.box 32 #[.int .i64 b1, .int .i64 b2, .slice A2 b3.length c2]
  generalize w.heap.size = g2 at hF hS
  generalize w.alloc (.cells #[.int .i64 b1, .int .i64 b2, .slice A2 b3.length c2] 32) = w at hS ⊢
  refine at_run 1 [] [] [2, 3] [pl 2 (.pointer (some ⟨g1, 0, none⟩)), pl 3 (.pointer (some ⟨g2, 0, none⟩))] hF hS (by kernel_rfl) (by kernel_rfl) ?_ (fun a w hF hS => ?_)
  · exact obs_nil
  refine at_end [2, 3] [pl 2 (.pointer (some ⟨g1, 0, none⟩)), pl 3 (.pointer (some ⟨g2, 0, none⟩))] hF rfl (by kernel_rfl) (fun hF => ?_)
  refine then_n ?_
  obtain ⟨r1, hr1, hm⟩ := call_b hm
  refine reg [⟨false, [], vS (Instr.loadAt 3 (.pointer (some ⟨g1, 0, none⟩))), .int .i64 a1⟩, ⟨false, [], vS (Instr.loadAt 3 (.pointer (some ⟨g2, 0, none⟩))), .int .i64 b1⟩, ⟨false, [((a1 == b1), true)], vS (Instr.loadAt 3 (.pointer (some ⟨g1, 1, none⟩))), .int .i64 a2⟩, ⟨false, [((a1 == b1), true)], vS (Instr.loadAt 3 (.pointer (some ⟨g2, 1, none⟩))), .int .i64 b2⟩, ⟨false, [((a1 == b1) && (a2 == b2), true)], vS (Instr.loadAt 22 (.pointer (some ⟨g1, 2, none⟩))), .slice A1 a3.length c1⟩, ⟨false, [((a1 == b1) && (a2 == b2), true)], vS (Instr.loadAt 22 (.pointer (some ⟨g2, 2, none⟩))), .slice A2 b3.length c2⟩, ⟨false, [((a1 == b1) && (a2 == b2), true)], callFunc 64 #[.slice A1 a3.length c1, .slice A2 b3.length c2], .bool r1⟩] [none, some (.int .i64 a1), none, some (.int .i64 b1), none, none, none, some (.int .i64 a2), none, some (.int .i64 b2), none, none, none, none, some (.slice A1 a3.length c1), none, some (.slice A2 b3.length c2), some (.bool r1), none, none] [4] [pl 4 (.bool (((a1 == b1) && (a2 == b2)) && r1))] hF hS Fol (by kernel_rfl) (by kernel_rfl) (by kernel_rfl) ?_ (fun a w hF hS => ?_)
  · exact obs_cons (ob_load Agg3 (fun _ _ hS => (hS.at_ 1 rfl).cell rfl)) <| obs_cons (ob_load Agg3 (fun _ _ hS => (hS.at_ 0 rfl).cell rfl)) <| obs_cons (ob_load Agg3 (fun _ _ hS => (hS.at_ 1 rfl).cell rfl)) <| obs_cons (ob_load Agg3 (fun _ _ hS => (hS.at_ 0 rfl).cell rfl)) <| obs_cons (ob_load Agg22 (fun _ _ hS => (hS.at_ 1 rfl).cell rfl)) <| obs_cons (ob_load Agg22 (fun _ _ hS => (hS.at_ 0 rfl).cell rfl)) <| obs_cons (ob_call Try.func64 (by kernel_rfl) rfl (fun hy _ hS => gameroomref_sameInts_w (ite_some hr1 (by rw [show ((a1 == b1) && (a2 == b2)) = true from hy ((a1 == b1) && (a2 == b2), true) (by simp)]; try rfl)) hS (fun _ hS => (hr_a3 _ (hS.dropN 2))) _hc_a3 rfl (fun _ hS => (hr_b3 _ (hS.dropN 2))) _hc_b3 rfl)) <| obs_nil
  refine wpIn_ret ?_
  have hS := hS.pickN 2 [] (by decide)
  have hm : some (((a1 == b1) && (a2 == b2)) && r1) = some r := hm
  obtain rfl := Option.some.inj hm
  exact retV (rs := [.tmp 4]) (vs := [.bool (((a1 == b1) && (a2 == b2)) && r1)]) hF rfl (rv_t (by kernel_rfl) <| rv_nil) rfl ⟨rfl, hS⟩

noncomputable def gameroomlaw_SlideHomes_J5  (i1 : Int) (many3 : Int) : Option (St (Int × Int) Int) :=
  some (.next (many3, (w64 (i1 + 1))))

noncomputable def gameroomlaw_SlideHomes_J4  (steps1 : Int) (r4 : (List (Int × Int × List Int) × List Int)) (many1 : Int) (i1 : Int) : Option (St (Int × Int) Int) :=
  asrt (0 ≤ i1 ∧ i1 < (r4.2.length : Int)) <| if ((geti r4.2 i1) == steps1) then ((gameroomlaw_SlideHomes_J5 i1) (w64 (many1 + 1))) else ((gameroomlaw_SlideHomes_J5 i1) many1)

noncomputable def gameroomlaw_SlideHomes_J10  (i2 : Int) : Option (St Int (Fl Unit Bool)) :=
  some (.next (w64 (i2 + 1)))

noncomputable def gameroomlaw_SlideHomes_J14  (k1 : Int) (now7 : Int) (now8 : Int) (now9 : List Int) : Option (St (Int × Int × List Int × Int) (Fl (Int × Int × List Int) Bool)) :=
  some (.next (now7, now8, now9, (w64 (k1 + 1))))

noncomputable def gameroomlaw_SlideHomes_J16  (k1 : Int) (next1 : Int) (next2 : Int) (next3 : List Int) : Option (St (Int × Int × List Int × Int) (Fl (Int × Int × List Int) Bool)) :=
  (gameroomlaw_SlideHomes_J14 k1) next1 next2 next3

noncomputable def gameroomlaw_SlideHomes_J15  (k1 : Int) (next1 : Int) (next2 : Int) (next3 : List Int) (ok1 : Bool) : Option (St (Int × Int × List Int × Int) (Fl (Int × Int × List Int) Bool)) :=
  if (!ok1) then (some (.done (.ret false))) else ((gameroomlaw_SlideHomes_J16 k1 next1 next2 next3))

noncomputable def gameroomlaw_SlideHomes_J13  (r2 : (List Int × Int)) (now1 : Int) (now2 : Int) (now3 : List Int) (k1 : Int) : Option (St (Int × Int × List Int × Int) (Fl (Int × Int × List Int) Bool)) :=
  asrt (0 ≤ k1 ∧ k1 < (r2.1.length : Int)) <| (gameroomref_SlideMove_m now1 now2 now3 (geti r2.1 k1)).bind fun r9 => (gameroomlaw_SlideHomes_J15 k1) r9.1 r9.2.1 r9.2.2.1 r9.2.2.2

noncomputable def gameroomlaw_SlideHomes_L3  (r2 : (List Int × Int)) : (Int × Int × List Int × Int) → Option (St (Int × Int × List Int × Int) (Fl (Int × Int × List Int) Bool)) :=
  fun (x : (Int × Int × List Int × Int)) => match x with | (now1, now2, now3, k1) => if (decide (k1 < (r2.1.length : Int))) then ((gameroomlaw_SlideHomes_J13 r2 now1 now2 now3 k1)) else (some (.done (.go (now1, now2, now3))))

noncomputable def gameroomlaw_SlideHomes_J17  (z1 : Bool) : Option (St Int (Fl Unit Bool)) :=
  some (.done (.ret z1))

noncomputable def gameroomlaw_SlideHomes_J12  (g1 : Int) (g2 : Int) (r2 : (List Int × Int)) (r6 : (List (Int × Int × List Int) × List Int)) (i2 : Int) (now4 : Int) (now5 : Int) (now6 : List Int) : Option (St Int (Fl Unit Bool)) :=
  asrt ((r2.2 == 0) = true → 0 ≤ i2 ∧ i2 < (r6.2.length : Int)) <| if ((r2.2 == 0) && ((r2.1.length : Int) == (geti r6.2 i2))) then ((gameroomref_SlideHome_m g1 g2).bind fun r10 => ((if ((r2.2 == 0) && ((r2.1.length : Int) == (geti r6.2 i2))) then gameroomref_SameGrid_m now4 now5 now6 r10.1 r10.2.1 r10.2.2 else some false)).bind fun r11 => gameroomlaw_SlideHomes_J17 (((r2.2 == 0) && ((r2.1.length : Int) == (geti r6.2 i2))) && r11)) else (gameroomlaw_SlideHomes_J17 (((r2.2 == 0) && ((r2.1.length : Int) == (geti r6.2 i2))) && false))

noncomputable def gameroomlaw_SlideHomes_K3  (g1 : Int) (g2 : Int) (r2 : (List Int × Int)) (r6 : (List (Int × Int × List Int) × List Int)) (i2 : Int) : (Fl (Int × Int × List Int) Bool) → Option (St Int (Fl Unit Bool)) :=
  fun (x : (Fl (Int × Int × List Int) Bool)) => match x with | .go (now4, now5, now6) => (gameroomlaw_SlideHomes_J12 g1 g2 r2 r6 i2) now4 now5 now6 | .ret x => some (.done (.ret x))

noncomputable def gameroomlaw_SlideHomes_J11  (g1 : Int) (g2 : Int) (g3 : List Int) (r2 : (List Int × Int)) (r6 : (List (Int × Int × List Int) × List Int)) (i2 : Int) : Option (St Int (Fl Unit Bool)) :=
  (gameroomref_GridOf_m g1 g2 g3).bind fun r8 => (loop (gameroomlaw_SlideHomes_L3 r2) (r8.1, r8.2.1, r8.2.2, 0)).bind (gameroomlaw_SlideHomes_K3 g1 g2 r2 r6 i2)

noncomputable def gameroomlaw_SlideHomes_J9  (g1 : Int) (g2 : Int) (g3 : List Int) (r2 : (List Int × Int)) (r6 : (List (Int × Int × List Int) × List Int)) (i2 : Int) : Option (St Int (Fl Unit Bool)) :=
  asrt (0 ≤ i2 ∧ i2 < (r6.1.length : Int)) <| (gameroomref_SameGrid_m ((getd zP32 r6.1 i2).1) ((getd zP32 r6.1 i2).2.1) ((getd zP32 r6.1 i2).2.2) g1 g2 g3).bind fun r7 => if (!r7) then ((gameroomlaw_SlideHomes_J10 i2)) else ((gameroomlaw_SlideHomes_J11 g1 g2 g3 r2 r6 i2))

noncomputable def gameroomlaw_SlideHomes_L2  (g1 : Int) (g2 : Int) (g3 : List Int) (r2 : (List Int × Int)) (r6 : (List (Int × Int × List Int) × List Int)) : Int → Option (St Int (Fl Unit Bool)) :=
  fun (x : Int) => match x with | i2 => if (decide (i2 < (r6.1.length : Int))) then ((gameroomlaw_SlideHomes_J9 g1 g2 g3 r2 r6 i2)) else (some (.done (.go ())))

noncomputable def gameroomlaw_SlideHomes_J8  (r2 : (List Int × Int)) : Option Bool :=
  some ((r2.2 == 10) && ((r2.1.length : Int) == 0))

noncomputable def gameroomlaw_SlideHomes_K2  (r2 : (List Int × Int)) : (Fl Unit Bool) → Option Bool :=
  fun (x : (Fl Unit Bool)) => match x with | .go _ => (gameroomlaw_SlideHomes_J8 r2) | .ret x => some x

noncomputable def gameroomlaw_SlideHomes_J7  (g1 : Int) (g2 : Int) (g3 : List Int) (r2 : (List Int × Int)) : Option Bool :=
  (gameroomref_SlideFar_m g1 g2).bind fun r6 => (loop (gameroomlaw_SlideHomes_L2 g1 g2 g3 r2 r6) 0).bind (gameroomlaw_SlideHomes_K2 r2)

noncomputable def gameroomlaw_SlideHomes_J6  (g1 : Int) (g2 : Int) (g3 : List Int) (r2 : (List Int × Int)) : Option Bool :=
  if (decide ((6 : Int) < (g3.length : Int))) then (some ((r2.2 == 2) && ((r2.1.length : Int) == 0))) else ((gameroomlaw_SlideHomes_J7 g1 g2 g3 r2))

noncomputable def gameroomlaw_SlideHomes_J2  (g1 : Int) (g2 : Int) (g3 : List Int) (r2 : (List Int × Int)) : Option Bool :=
  (gameroomref_SlideMay_m g1 g2 g3).bind fun r5 => if (!r5) then (some ((r2.2 == 12) && ((r2.1.length : Int) == 0))) else ((gameroomlaw_SlideHomes_J6 g1 g2 g3 r2))

noncomputable def gameroomlaw_SlideHomes_J3  (g1 : Int) (g2 : Int) (g3 : List Int) (r2 : (List Int × Int)) (r3 : (Int × Int)) (many2 : Int) : Option Bool :=
  if ((r3.2 != 0) || (r3.1 != many2)) then (some false) else ((gameroomlaw_SlideHomes_J2 g1 g2 g3 r2))

noncomputable def gameroomlaw_SlideHomes_K1  (g1 : Int) (g2 : Int) (g3 : List Int) (r2 : (List Int × Int)) (r3 : (Int × Int)) : Int → Option Bool :=
  fun (x : Int) => match x with | many2 => (gameroomlaw_SlideHomes_J3 g1 g2 g3 r2 r3) many2

noncomputable def gameroomlaw_SlideHomes_L1  (steps1 : Int) (r4 : (List (Int × Int × List Int) × List Int)) : (Int × Int) → Option (St (Int × Int) Int) :=
  fun (x : (Int × Int)) => match x with | (many1, i1) => if (decide (i1 < (r4.2.length : Int))) then ((gameroomlaw_SlideHomes_J4 steps1 r4 many1 i1)) else (some (.done many1))

noncomputable def gameroomlaw_SlideHomes_J1  (g1 : Int) (g2 : Int) (g3 : List Int) (w1 : Int) (h1 : Int) (steps1 : Int) (r2 : (List Int × Int)) (r3 : (Int × Int)) (no1 : Int) : Option Bool :=
  if (no1 != 0) then (if ((r3.2 != no1) || (r3.1 != 0)) then (some false) else ((gameroomlaw_SlideHomes_J2 g1 g2 g3 r2))) else ((gameroomref_SlideFar_m w1 h1).bind fun r4 => (loop (gameroomlaw_SlideHomes_L1 steps1 r4) (0, 0)).bind (gameroomlaw_SlideHomes_K1 g1 g2 g3 r2 r3))

noncomputable def gameroomlaw_SlideHomes_m  (g1 : Int) (g2 : Int) (g3 : List Int) (w1 : Int) (h1 : Int) (steps1 : Int) : Option Bool :=
  (gameroomref_GridOf_m g1 g2 g3).bind fun r1 => (slide_Home_m r1.1 r1.2.1 r1.2.2).bind fun r2 => (slide_Count_m w1 h1 steps1).bind fun r3 => if (((((decide (w1 < 2)) || (decide ((5 : Int) < w1))) || (decide (h1 < 2))) || (decide ((5 : Int) < h1))) || (decide ((6 : Int) < (w64 (w1 * h1))))) then ((gameroomlaw_SlideHomes_J1 g1 g2 g3 w1 h1 steps1 r2 r3) 2) else (if ((decide (steps1 < 0)) || (decide ((40 : Int) < steps1))) then ((gameroomlaw_SlideHomes_J1 g1 g2 g3 w1 h1 steps1 r2 r3) 3) else ((gameroomlaw_SlideHomes_J1 g1 g2 g3 w1 h1 steps1 r2 r3) 0))

set_option maxRecDepth 100000 in
set_option maxHeartbeats 4000000 in
theorem gameroomlaw_SlideHomes_w  {g1 : Int} {g2 : Int} {A1 : Option Addr} {c1 : Nat} {n1 : Nat} {g3 : List Int} {w1 : Int} {h1 : Int} {steps1 : Int} {r : Bool} {w0 w : World} {B : Nat} {fs : List HP} (hm : gameroomlaw_SlideHomes_m g1 g2 g3 w1 h1 steps1 = some r) (hS : Sep w0 B w (fs)) (hr_g3 : RdF w0 B fs A1 (vI g3)) (_hc_g3 : g3.length ≤ c1) (_hn_g3 : n1 = g3.length) :
    Calls Try.prog 4 #[.agg #[.int .i64 g1, .int .i64 g2, .slice A1 n1 c1], .int .i64 w1, .int .i64 h1, .int .i64 steps1] w fun e w' => e = .returned (.bool r) ∧ Sep w0 B w' (fs) := by
  obtain ⟨i3, hi3, hz3, hs3, hb3⟩ := info_parts Info3
  obtain ⟨i32, hi32, hz32, hs32, hb32⟩ := info_parts Info32
  obtain rfl := _hn_g3
  unfold gameroomlaw_SlideHomes_m at hm
  replace hm := start_b hm
  refine enter (l := [.agg #[.int .i64 g1, .int .i64 g2, .slice A1 g3.length c1], .int .i64 w1, .int .i64 h1, .int .i64 steps1]) (n := 189) Try.func4 rfl rfl (by simp) (fun a hF => ?_)
  refine seqR ?_
  refine at_do (d := 4) (s := vS (Instr.box 32 (.agg #[.int .i64 g1, .int .i64 g2, .slice A1 g3.length c1]))) (v := .pointer (some ⟨w.heap.size, 0, none⟩)) (w' := w.alloc (.cells #[.int .i64 g1, .int .i64 g2, .slice A1 g3.length c1] 32)) hF (by kernel_rfl) (by kernel_rfl) (by kernel_rfl) (fun a hF => ?_)
  have hS : Sep w0 B (w.alloc (.cells #[.int .i64 g1, .int .i64 g2, .slice A1 g3.length c1] 32)) (blk w.heap.size 32 #[.int .i64 g1, .int .i64 g2, .slice A1 g3.length c1] :: (fs)) := hS.box 32 #[.int .i64 g1, .int .i64 g2, .slice A1 g3.length c1]
  generalize w.heap.size = g4 at hF hS
  generalize w.alloc (.cells #[.int .i64 g1, .int .i64 g2, .slice A1 g3.length c1] 32) = w at hS ⊢
  refine at_run 1 [] [] [1, 2, 3, 4] [pl 1 (.int .i64 w1), pl 2 (.int .i64 h1), pl 3 (.int .i64 steps1), pl 4 (.pointer (some ⟨g4, 0, none⟩))] hF hS (by kernel_rfl) (by kernel_rfl) ?_ (fun a w hF hS => ?_)
  · exact obs_nil
  refine at_end [1, 2, 3, 4] [pl 1 (.int .i64 w1), pl 2 (.int .i64 h1), pl 3 (.int .i64 steps1), pl 4 (.pointer (some ⟨g4, 0, none⟩))] hF rfl (by kernel_rfl) (fun hF => ?_)
  refine then_n ?_
  refine seqR ?_
  obtain ⟨r1, hr1, hm⟩ := call_b hm
  obtain ⟨r2, hr2, hm⟩ := call_b hm
  refine at_run 1 [⟨false, [], vS (Instr.loadAt 32 (.pointer (some ⟨g4, 0, none⟩))), .agg #[.int .i64 g1, .int .i64 g2, .slice A1 g3.length c1]⟩] [some (.agg #[.int .i64 g1, .int .i64 g2, .slice A1 g3.length c1])] [1, 2, 3, 4, 26] [pl 1 (.int .i64 w1), pl 2 (.int .i64 h1), pl 3 (.int .i64 steps1), pl 4 (.pointer (some ⟨g4, 0, none⟩)), pl 26 (.agg #[.int .i64 g1, .int .i64 g2, .slice A1 g3.length c1])] hF hS (by kernel_rfl) (by kernel_rfl) ?_ (fun a w hF hS => ?_)
  · exact obs_cons (ob_loadA (cs := #[.int .i64 g1, .int .i64 g2, .slice A1 g3.length c1]) (by kernel_rfl) (by kernel_rfl) (fun _ _ hS => (hS.at_ 0 rfl).cellsAt 0 (by rfl))) <| obs_nil
  refine at_call (f := 13) (args := #[.agg #[.int .i64 g1, .int .i64 g2, .slice A1 g3.length c1]]) (d := 27) hF (by kernel_rfl) (by kernel_rfl) Try.func13 (by kernel_rfl) rfl (gameroomref_GridOf_w hr1 hS (fun _ hS => (hr_g3 _ (hS.dropN 1))) _hc_g3 rfl) (fun v a w hR hF => ?_)
  clear hS
  obtain ⟨A2, c2, rfl, hS⟩ := hR
  have hS : Sep w0 B w (own 3 (.slice A2 r1.2.2.length c2) (vI r1.2.2) :: blk g4 32 #[.int .i64 g1, .int .i64 g2, .slice A1 g3.length c1] :: fs) := hS
  refine at_call (f := 12) (args := #[.agg #[.int .i64 r1.1, .int .i64 r1.2.1, .slice A2 r1.2.2.length c2]]) (d := 28) hF (by kernel_rfl) (by kernel_rfl) Try.func12 (by kernel_rfl) rfl (slide_Home_w hr2 hS (fun _ hS => (hS.at_ 0 rfl).rd) ((hS.at_ 0 rfl).cap1) rfl) (fun v a w hR hF => ?_)
  clear hS
  obtain ⟨A3, c3, rfl, hS⟩ := hR
  have hS : Sep w0 B w (own 3 (.slice A3 r2.1.length c3) (vI r2.1) :: own 3 (.slice A2 r1.2.2.length c2) (vI r1.2.2) :: blk g4 32 #[.int .i64 g1, .int .i64 g2, .slice A1 g3.length c1] :: fs) := hS
  refine at_run 5 [] [] [1, 2, 3, 4, 9, 10] [pl 1 (.int .i64 w1), pl 2 (.int .i64 h1), pl 3 (.int .i64 steps1), pl 4 (.pointer (some ⟨g4, 0, none⟩)), pl 9 (.slice A3 r2.1.length c3), pl 10 (.int .i64 r2.2)] hF hS (by kernel_rfl) (by kernel_rfl) ?_ (fun a w hF hS => ?_)
  · exact obs_nil
  refine at_end [1, 2, 3, 4, 9, 10] [pl 1 (.int .i64 w1), pl 2 (.int .i64 h1), pl 3 (.int .i64 steps1), pl 4 (.pointer (some ⟨g4, 0, none⟩)), pl 9 (.slice A3 r2.1.length c3), pl 10 (.int .i64 r2.2)] hF rfl (by kernel_rfl) (fun hF => ?_)
  refine then_n ?_
  obtain ⟨r3, hr3, hm⟩ := call_b hm
  refine reg [⟨false, [], callFunc 14 #[.int .i64 w1, .int .i64 h1, .int .i64 steps1], .tuple #[.int .i64 r3.1, .int .i64 r3.2]⟩] [none, none, none, some (.tuple #[.int .i64 r3.1, .int .i64 r3.2]), none, none, none, none, none] [1, 2, 3, 4, 9, 10, 11, 12] [pl 1 (.int .i64 w1), pl 2 (.int .i64 h1), pl 3 (.int .i64 steps1), pl 4 (.pointer (some ⟨g4, 0, none⟩)), pl 9 (.slice A3 r2.1.length c3), pl 10 (.int .i64 r2.2), pl 11 (.int .i64 r3.1), pl 12 (.int .i64 r3.2)] hF hS Fol (by kernel_rfl) (by kernel_rfl) (by kernel_rfl) ?_ (fun a w hF hS => ?_)
  · exact obs_cons (ob_call Try.func14 (by kernel_rfl) rfl (fun _ _ hS => slide_Count_w hr3 hS )) <| obs_nil
  refine reg [] [] [1, 2, 3, 4, 9, 10, 11, 12, 13] [pl 1 (.int .i64 w1), pl 2 (.int .i64 h1), pl 3 (.int .i64 steps1), pl 4 (.pointer (some ⟨g4, 0, none⟩)), pl 9 (.slice A3 r2.1.length c3), pl 10 (.int .i64 r2.2), pl 11 (.int .i64 r3.1), pl 12 (.int .i64 r3.2), pl 13 (.int .i64 0)] hF hS Fol (by kernel_rfl) (by kernel_rfl) (by kernel_rfl) ?_ (fun a w hF hS => ?_)
  · exact obs_nil
  refine seq_cut (fun a w => ∃ (no1 : Int), Fr 189 [pl 1 (.int .i64 w1), pl 2 (.int .i64 h1), pl 3 (.int .i64 steps1), pl 4 (.pointer (some ⟨g4, 0, none⟩)), pl 9 (.slice A3 r2.1.length c3), pl 10 (.int .i64 r2.2), pl 11 (.int .i64 r3.1), pl 12 (.int .i64 r3.2), pl 13 (.int .i64 no1)] a ∧ Sep w0 B w (blk g4 32 #[.int .i64 g1, .int .i64 g2, .slice A1 g3.length c1] :: own 3 (.slice A3 r2.1.length c3) (vI r2.1) :: fs) ∧ ((gameroomlaw_SlideHomes_J1 g1 g2 g3 w1 h1 steps1 r2 r3) no1).bind some = some r) ?_ ?_
  · rintro a w ⟨no1, hF, hS, hm⟩
    unfold gameroomlaw_SlideHomes_J1 at hm
    refine seq_cut (fun a w => Fr 189 [pl 4 (.pointer (some ⟨g4, 0, none⟩)), pl 9 (.slice A3 r2.1.length c3), pl 10 (.int .i64 r2.2)] a ∧ Sep w0 B w (blk g4 32 #[.int .i64 g1, .int .i64 g2, .slice A1 g3.length c1] :: own 3 (.slice A3 r2.1.length c3) (vI r2.1) :: fs) ∧ ((gameroomlaw_SlideHomes_J2 g1 g2 g3 r2)).bind some = some r) ?_ ?_
    · rintro a w ⟨hF, hS, hm⟩
      unfold gameroomlaw_SlideHomes_J2 at hm
      refine seq_cut (fun a w => Fr 189 [pl 4 (.pointer (some ⟨g4, 0, none⟩)), pl 9 (.slice A3 r2.1.length c3), pl 10 (.int .i64 r2.2)] a ∧ Sep w0 B w (blk g4 32 #[.int .i64 g1, .int .i64 g2, .slice A1 g3.length c1] :: own 3 (.slice A3 r2.1.length c3) (vI r2.1) :: fs) ∧ ((gameroomlaw_SlideHomes_J6 g1 g2 g3 r2)).bind some = some r) ?_ ?_
      · rintro a w ⟨hF, hS, hm⟩
        unfold gameroomlaw_SlideHomes_J6 at hm
        refine seq_cut (fun a w => Fr 189 [pl 4 (.pointer (some ⟨g4, 0, none⟩)), pl 9 (.slice A3 r2.1.length c3), pl 10 (.int .i64 r2.2)] a ∧ Sep w0 B w (blk g4 32 #[.int .i64 g1, .int .i64 g2, .slice A1 g3.length c1] :: own 3 (.slice A3 r2.1.length c3) (vI r2.1) :: fs) ∧ ((gameroomlaw_SlideHomes_J7 g1 g2 g3 r2)).bind some = some r) ?_ ?_
        · rintro a w ⟨hF, hS, hm⟩
          unfold gameroomlaw_SlideHomes_J7 at hm
          refine seqR ?_
          obtain ⟨r6, hr6, hm⟩ := call_b hm
          refine at_run 4 [⟨false, [], vS (Instr.loadAt 3 (.pointer (some ⟨g4, 0, none⟩))), .int .i64 g1⟩, ⟨false, [], vS (Instr.loadAt 3 (.pointer (some ⟨g4, 1, none⟩))), .int .i64 g2⟩] [none, some (.int .i64 g1), none, some (.int .i64 g2)] [4, 9, 10, 123, 125] [pl 4 (.pointer (some ⟨g4, 0, none⟩)), pl 9 (.slice A3 r2.1.length c3), pl 10 (.int .i64 r2.2), pl 123 (.int .i64 g1), pl 125 (.int .i64 g2)] hF hS (by kernel_rfl) (by kernel_rfl) ?_ (fun a w hF hS => ?_)
          · exact obs_cons (ob_load Agg3 (fun _ _ hS => (hS.at_ 0 rfl).cell rfl)) <| obs_cons (ob_load Agg3 (fun _ _ hS => (hS.at_ 0 rfl).cell rfl)) <| obs_nil
          refine at_call (f := 15) (args := #[.int .i64 g1, .int .i64 g2]) (d := 126) hF (by kernel_rfl) (by kernel_rfl) Try.func15 (by kernel_rfl) rfl (gameroomref_SlideFar_w hr6 hS ) (fun v a w hR hF => ?_)
          clear hS
          obtain ⟨pg2, A6, c6, raw2, A7, c7, rfl, hp3, hc2, hS⟩ := hR
          have hS : Sep w0 B w (pg2 :: own 3 (.slice A7 r6.2.length c7) (vI r6.2) :: blk g4 32 #[.int .i64 g1, .int .i64 g2, .slice A1 g3.length c1] :: own 3 (.slice A3 r2.1.length c3) (vI r2.1) :: fs) := hS
          refine at_run 5 [] [] [4, 9, 10, 18, 19] [pl 4 (.pointer (some ⟨g4, 0, none⟩)), pl 9 (.slice A3 r2.1.length c3), pl 10 (.int .i64 r2.2), pl 18 (.slice A6 r6.1.length c6), pl 19 (.slice A7 r6.2.length c7)] hF hS (by kernel_rfl) (by kernel_rfl) ?_ (fun a w hF hS => ?_)
          · exact obs_nil
          refine at_end [4, 9, 10, 18, 19] [pl 4 (.pointer (some ⟨g4, 0, none⟩)), pl 9 (.slice A3 r2.1.length c3), pl 10 (.int .i64 r2.2), pl 18 (.slice A6 r6.1.length c6), pl 19 (.slice A7 r6.2.length c7)] hF rfl (by kernel_rfl) (fun hF => ?_)
          refine then_n ?_
          refine seq_cut (fun a w => Fr 189 [pl 9 (.slice A3 r2.1.length c3), pl 10 (.int .i64 r2.2)] a ∧ Sep w0 B w (own 3 (.slice A3 r2.1.length c3) (vI r2.1) :: fs) ∧ ((gameroomlaw_SlideHomes_J8 r2)).bind some = some r) ?_ ?_
          · rintro a w ⟨hF, hS, hm⟩
            unfold gameroomlaw_SlideHomes_J8 at hm
            refine reg [] [] [8] [pl 8 (.bool ((r2.2 == 10) && ((r2.1.length : Int) == 0)))] hF hS Fol (by kernel_rfl) (by kernel_rfl) (by kernel_rfl) ?_ (fun a w hF hS => ?_)
            · exact obs_nil
            refine wpIn_ret ?_
            have hS := hS.pickN 1 [] (by decide)
            have hm : some ((r2.2 == 10) && ((r2.1.length : Int) == 0)) = some r := hm
            obtain rfl := Option.some.inj hm
            exact retV (rs := [.tmp 8]) (vs := [.bool ((r2.2 == 10) && ((r2.1.length : Int) == 0))]) hF rfl (rv_t (by kernel_rfl) <| rv_nil) rfl ⟨rfl, hS⟩
          · refine reg [] [] [4, 9, 10, 18, 19, 20] [pl 4 (.pointer (some ⟨g4, 0, none⟩)), pl 9 (.slice A3 r2.1.length c3), pl 10 (.int .i64 r2.2), pl 18 (.slice A6 r6.1.length c6), pl 19 (.slice A7 r6.2.length c7), pl 20 (.int .i64 0)] hF hS Fol (by kernel_rfl) (by kernel_rfl) (by kernel_rfl) ?_ (fun a w hF hS => ?_)
            · exact obs_nil
            refine wpIn_block ?_
            have hS := hS.pickN 4 [2, 3, 0, 1] (by decide)
            refine wp_loop_model (S := Int) (R := (Fl Unit Bool)) (gameroomlaw_SlideHomes_L2 g1 g2 g3 r2 r6) (fun x => ((gameroomlaw_SlideHomes_K2 r2) x).bind some) r (fun (x : Int) a w => Fr 189 [pl 4 (.pointer (some ⟨g4, 0, none⟩)), pl 9 (.slice A3 r2.1.length c3), pl 10 (.int .i64 r2.2), pl 18 (.slice A6 r6.1.length c6), pl 19 (.slice A7 r6.2.length c7), pl 20 (.int .i64 x)] a ∧ Sep w0 B w (blk g4 32 #[.int .i64 g1, .int .i64 g2, .slice A1 g3.length c1] :: own 3 (.slice A3 r2.1.length c3) (vI r2.1) :: pg2 :: own 3 (.slice A7 r6.2.length c7) (vI r6.2) :: fs)) (assoc_b hm) ⟨hF.weak [4, 9, 10, 18, 19, 20] (by kernel_rfl), hS⟩ ?_
            clear hF hS hm
            rintro nn2 i2 a w ⟨hF, hS⟩ hm
            generalize hφ2 : stK (gameroomlaw_SlideHomes_L2 g1 g2 g3 r2 r6) nn2 (fun x => ((gameroomlaw_SlideHomes_K2 r2) x).bind some) = φ2 at hm
            unfold gameroomlaw_SlideHomes_L2 at hm
            dsimp only at hm
            refine seq_cut (fun a w => Fr 189 [pl 4 (.pointer (some ⟨g4, 0, none⟩)), pl 9 (.slice A3 r2.1.length c3), pl 10 (.int .i64 r2.2), pl 18 (.slice A6 r6.1.length c6), pl 19 (.slice A7 r6.2.length c7), pl 20 (.int .i64 i2)] a ∧ Sep w0 B w (blk g4 32 #[.int .i64 g1, .int .i64 g2, .slice A1 g3.length c1] :: own 3 (.slice A3 r2.1.length c3) (vI r2.1) :: pg2 :: own 3 (.slice A7 r6.2.length c7) (vI r6.2) :: fs) ∧ ((gameroomlaw_SlideHomes_J9 g1 g2 g3 r2 r6 i2)).bind φ2 = some r) ?_ ?_
            · rintro a w ⟨hF, hS, hm⟩
              unfold gameroomlaw_SlideHomes_J9 at hm
              refine seq_cut (fun a w => Fr 189 [pl 4 (.pointer (some ⟨g4, 0, none⟩)), pl 9 (.slice A3 r2.1.length c3), pl 10 (.int .i64 r2.2), pl 18 (.slice A6 r6.1.length c6), pl 19 (.slice A7 r6.2.length c7), pl 20 (.int .i64 i2)] a ∧ Sep w0 B w (blk g4 32 #[.int .i64 g1, .int .i64 g2, .slice A1 g3.length c1] :: own 3 (.slice A3 r2.1.length c3) (vI r2.1) :: pg2 :: own 3 (.slice A7 r6.2.length c7) (vI r6.2) :: fs) ∧ ((gameroomlaw_SlideHomes_J10 i2)).bind φ2 = some r) ?_ ?_
              · rintro a w ⟨hF, hS, hm⟩
                unfold gameroomlaw_SlideHomes_J10 at hm
                refine reg1 [] [] [4, 9, 10, 18, 19, 20] [pl 4 (.pointer (some ⟨g4, 0, none⟩)), pl 9 (.slice A3 r2.1.length c3), pl 10 (.int .i64 r2.2), pl 18 (.slice A6 r6.1.length c6), pl 19 (.slice A7 r6.2.length c7), pl 20 (.int .i64 (w64 (i2 + 1)))] hF hS Fol (by kernel_rfl) (by kernel_rfl) (by kernel_rfl) ?_ (fun a w hF hS => ?_)
                · exact obs_nil
                refine then_n ?_
                rw [← hφ2] at hm
                exact ⟨(w64 (i2 + 1)), ⟨hF.weak [4, 9, 10, 18, 19, 20] (by kernel_rfl), hS⟩, hm⟩
              · refine wpIn_block ?_
                refine seq_cut (fun a w => Fr 189 [pl 4 (.pointer (some ⟨g4, 0, none⟩)), pl 9 (.slice A3 r2.1.length c3), pl 10 (.int .i64 r2.2), pl 19 (.slice A7 r6.2.length c7), pl 20 (.int .i64 i2)] a ∧ Sep w0 B w (blk g4 32 #[.int .i64 g1, .int .i64 g2, .slice A1 g3.length c1] :: own 3 (.slice A3 r2.1.length c3) (vI r2.1) :: own 3 (.slice A7 r6.2.length c7) (vI r6.2) :: fs) ∧ ((gameroomlaw_SlideHomes_J11 g1 g2 g3 r2 r6 i2)).bind φ2 = some r) ?_ ?_
                · rintro a w ⟨hF, hS, hm⟩
                  unfold gameroomlaw_SlideHomes_J11 at hm
                  refine seqR ?_
                  obtain ⟨r8, hr8, hm⟩ := call_b hm
                  refine at_run 1 [⟨false, [], vS (Instr.loadAt 32 (.pointer (some ⟨g4, 0, none⟩))), .agg #[.int .i64 g1, .int .i64 g2, .slice A1 g3.length c1]⟩] [some (.agg #[.int .i64 g1, .int .i64 g2, .slice A1 g3.length c1])] [4, 9, 10, 19, 20, 142] [pl 4 (.pointer (some ⟨g4, 0, none⟩)), pl 9 (.slice A3 r2.1.length c3), pl 10 (.int .i64 r2.2), pl 19 (.slice A7 r6.2.length c7), pl 20 (.int .i64 i2), pl 142 (.agg #[.int .i64 g1, .int .i64 g2, .slice A1 g3.length c1])] hF hS (by kernel_rfl) (by kernel_rfl) ?_ (fun a w hF hS => ?_)
                  · exact obs_cons (ob_loadA (cs := #[.int .i64 g1, .int .i64 g2, .slice A1 g3.length c1]) (by kernel_rfl) (by kernel_rfl) (fun _ _ hS => (hS.at_ 0 rfl).cellsAt 0 (by rfl))) <| obs_nil
                  refine at_call (f := 13) (args := #[.agg #[.int .i64 g1, .int .i64 g2, .slice A1 g3.length c1]]) (d := 143) hF (by kernel_rfl) (by kernel_rfl) Try.func13 (by kernel_rfl) rfl (gameroomref_GridOf_w hr8 hS (fun _ hS => (hr_g3 _ (hS.dropN 3))) _hc_g3 rfl) (fun v a w hR hF => ?_)
                  clear hS
                  obtain ⟨A8, c8, rfl, hS⟩ := hR
                  have hS : Sep w0 B w (own 3 (.slice A8 r8.2.2.length c8) (vI r8.2.2) :: blk g4 32 #[.int .i64 g1, .int .i64 g2, .slice A1 g3.length c1] :: own 3 (.slice A3 r2.1.length c3) (vI r2.1) :: own 3 (.slice A7 r6.2.length c7) (vI r6.2) :: fs) := hS
                  refine at_do (d := 21) (s := vS (Instr.alloc 32 true (.tuple #[]))) (v := .pointer (some ⟨w.heap.size, 0, none⟩)) (w' := w.alloc (.cells #[.int .i64 0, .int .i64 0, .slice none 0 0] 32)) hF (by kernel_rfl) (by kernel_rfl) (by kernel_rfl) (fun a hF => ?_)
                  have hS : Sep w0 B (w.alloc (.cells #[.int .i64 0, .int .i64 0, .slice none 0 0] 32)) (blk w.heap.size 32 #[.int .i64 0, .int .i64 0, .slice none 0 0] :: (own 3 (.slice A8 r8.2.2.length c8) (vI r8.2.2) :: blk g4 32 #[.int .i64 g1, .int .i64 g2, .slice A1 g3.length c1] :: own 3 (.slice A3 r2.1.length c3) (vI r2.1) :: own 3 (.slice A7 r6.2.length c7) (vI r6.2) :: fs)) := hS.box 32 #[.int .i64 0, .int .i64 0, .slice none 0 0]
                  generalize w.heap.size = g5 at hF hS
                  generalize w.alloc (.cells #[.int .i64 0, .int .i64 0, .slice none 0 0] 32) = w at hS ⊢
                  obtain ⟨w, hrun, hS⟩ := run_putA (P := Try.prog) (t := 32) (us := #[.int .i64 r8.1, .int .i64 r8.2.1, .slice A8 r8.2.2.length c8]) (o := 0) (hS.at_ 0 rfl) (by kernel_rfl) (all_one (by kernel_rfl)) (Nat.le_of_ble_eq_true (by kernel_rfl))
                  refine at_skip hF (by kernel_rfl) hrun ?_
                  have hS : Sep w0 B w (blk g5 32 #[.int .i64 r8.1, .int .i64 r8.2.1, .slice A8 r8.2.2.length c8] :: own 3 (.slice A8 r8.2.2.length c8) (vI r8.2.2) :: blk g4 32 #[.int .i64 g1, .int .i64 g2, .slice A1 g3.length c1] :: own 3 (.slice A3 r2.1.length c3) (vI r2.1) :: own 3 (.slice A7 r6.2.length c7) (vI r6.2) :: fs) := hS
                  refine at_end [4, 9, 10, 19, 20, 21] [pl 4 (.pointer (some ⟨g4, 0, none⟩)), pl 9 (.slice A3 r2.1.length c3), pl 10 (.int .i64 r2.2), pl 19 (.slice A7 r6.2.length c7), pl 20 (.int .i64 i2), pl 21 (.pointer (some ⟨g5, 0, none⟩))] hF rfl (by kernel_rfl) (fun hF => ?_)
                  refine then_n ?_
                  refine seq_cut (fun a w => ∃ (now4 : Int) (now5 : Int) (now6 : List Int) (A10 : Option Addr) (c10 : Nat), Fr 189 [pl 4 (.pointer (some ⟨g4, 0, none⟩)), pl 9 (.slice A3 r2.1.length c3), pl 10 (.int .i64 r2.2), pl 19 (.slice A7 r6.2.length c7), pl 20 (.int .i64 i2), pl 21 (.pointer (some ⟨g5, 0, none⟩))] a ∧ Sep w0 B w (blk g4 32 #[.int .i64 g1, .int .i64 g2, .slice A1 g3.length c1] :: own 3 (.slice A3 r2.1.length c3) (vI r2.1) :: own 3 (.slice A7 r6.2.length c7) (vI r6.2) :: blk g5 32 #[.int .i64 now4, .int .i64 now5, .slice A10 now6.length c10] :: own 3 (.slice A10 now6.length c10) (vI now6) :: fs) ∧ ((gameroomlaw_SlideHomes_J12 g1 g2 r2 r6 i2) now4 now5 now6).bind φ2 = some r) ?_ ?_
                  · rintro a w ⟨now4, now5, now6, A10, c10, hF, hS, hm⟩
                    unfold gameroomlaw_SlideHomes_J12 at hm
                    refine seq_cut (fun a w => ∃ (z1 : Bool), Fr 189 [pl 8 (.bool z1)] a ∧ Sep w0 B w (fs) ∧ (gameroomlaw_SlideHomes_J17 z1).bind φ2 = some r) ?_ ?_
                    · rintro a w ⟨z1, hF, hS, hm⟩
                      unfold gameroomlaw_SlideHomes_J17 at hm
                      refine wpIn_ret ?_
                      refine block_r (then_r (then_r (block_r (then_r ?_))))
                      rw [← hφ2] at hm
                      replace hm := done_b hm
                      unfold gameroomlaw_SlideHomes_K2 at hm
                      try dsimp only at hm
                      have hm : some z1 = some r := hm
                      obtain rfl := Option.some.inj hm
                      exact retV (rs := [.tmp 8]) (vs := [.bool z1]) hF rfl (rv_t (by kernel_rfl) <| rv_nil) rfl ⟨rfl, hS⟩
                    · obtain ⟨hp6, hm⟩ := asrt_b hm
                      refine regMix5 [0, 1, 2, 3, 4, 5, 6, 7, 8, 9, 10, 11, 12, 13, 14, 15, 16] [] 4 #[true, true, true, true, true, true, true, true, true, true, true, true, true, true, true, true, true, false, false, false, false] [⟨true, [((r2.2 == 0), true)], vS (Instr.indexAt 22 (.slice A7 r6.2.length c7) (.int .i64 i2)), .pointer (some (sAddr A7 i2))⟩, ⟨false, [((r2.2 == 0), true)], vS (Instr.loadAt 3 (.pointer (some (sAddr A7 i2)))), .int .i64 (geti r6.2 i2)⟩, ⟨false, [((r2.2 == 0) && ((r2.1.length : Int) == (geti r6.2 i2)), true)], vS (Instr.loadAt 32 (.pointer (some ⟨g5, 0, none⟩))), .agg #[.int .i64 now4, .int .i64 now5, .slice A10 now6.length c10]⟩, ⟨false, [((r2.2 == 0) && ((r2.1.length : Int) == (geti r6.2 i2)), true)], vS (Instr.loadAt 3 (.pointer (some ⟨g4, 0, none⟩))), .int .i64 g1⟩, ⟨false, [((r2.2 == 0) && ((r2.1.length : Int) == (geti r6.2 i2)), true)], vS (Instr.loadAt 3 (.pointer (some ⟨g4, 1, none⟩))), .int .i64 g2⟩] [none, none, none, none, none, none, none, some (.pointer (some (sAddr A7 i2))), some (.int .i64 (geti r6.2 i2)), none, none, none, some (.agg #[.int .i64 now4, .int .i64 now5, .slice A10 now6.length c10]), none, some (.int .i64 g1), none, some (.int .i64 g2)] [173, 174, 176, 178] [pl 173 (.bool ((r2.2 == 0) && ((r2.1.length : Int) == (geti r6.2 i2)))), ⟨174, [(173, true)], .agg #[.int .i64 now4, .int .i64 now5, .slice A10 now6.length c10]⟩, ⟨176, [(173, true)], .int .i64 g1⟩, ⟨178, [(173, true)], .int .i64 g2⟩] hF hS Fol (by kernel_rfl) (by kernel_rfl) (by kernel_rfl) (by kernel_rfl) ?_ (fun a w hF hS => ?_)
                      · exact obs_cons (ob_ix1 (f := (Value.int .i64)) (m := r6.2) Und22 hi3 hs3 (hS.at_ 2 rfl).rd rfl (fun hy => hp6 (hy ((r2.2 == 0), true) (by simp)))) <| obs_cons (ob_get1 (n := r6.2.length) (m := r6.2) (Value.int .i64) (0 : Int) Agg3 (fun _ hS => ⟨_, (hS.at_ 2 rfl).rd⟩) (fun _ hS => rfl) (fun hy => hp6 (hy ((r2.2 == 0), true) (by simp)))) <| obs_cons (ob_loadA (cs := #[.int .i64 now4, .int .i64 now5, .slice A10 now6.length c10]) (by kernel_rfl) (by kernel_rfl) (fun _ _ hS => (hS.at_ 3 rfl).cellsAt 0 (by rfl))) <| obs_cons (ob_load Agg3 (fun _ _ hS => (hS.at_ 0 rfl).cell rfl)) <| obs_cons (ob_load Agg3 (fun _ _ hS => (hS.at_ 0 rfl).cell rfl)) <| obs_nil
                      rcases Bool.eq_false_or_eq_true ((r2.2 == 0) && ((r2.1.length : Int) == (geti r6.2 i2))) with hg1 | hg1
                      · replace hm := if_t hm hg1
                        obtain ⟨r10, hr10, hm⟩ := call_b hm
                        obtain ⟨r11, hr11, hm⟩ := call_b hm
                        refine any_step [17] (by kernel_rfl) rfl ?_
                        refine (all_cons ?_ all_nil)
                        · refine any_op (listed' := #[true, true, true, true, true, true, true, true, true, true, true, true, true, true, true, true, true, true, false, false, false]) (by kernel_rfl) (by kernel_rfl) ?_
                          refine at_gcall (hs := [((r2.2 == 0) && ((r2.1.length : Int) == (geti r6.2 i2)), true)]) (fun y hy => by simp only [List.mem_cons, List.not_mem_nil, or_false] at hy; subst hy; first | exact hg1) (f := 19) (args := #[.int .i64 g1, .int .i64 g2]) (d := 179) hF (by kernel_rfl) (by kernel_rfl) Try.func19 (by kernel_rfl) rfl (gameroomref_SlideHome_w hr10 hS ) (fun v a w hR hF => ?_)
                          clear hS
                          obtain ⟨A17, c17, rfl, hS⟩ := hR
                          have hS : Sep w0 B w (own 3 (.slice A17 r10.2.2.length c17) (vI r10.2.2) :: blk g4 32 #[.int .i64 g1, .int .i64 g2, .slice A1 g3.length c1] :: own 3 (.slice A3 r2.1.length c3) (vI r2.1) :: own 3 (.slice A7 r6.2.length c7) (vI r6.2) :: blk g5 32 #[.int .i64 now4, .int .i64 now5, .slice A10 now6.length c10] :: own 3 (.slice A10 now6.length c10) (vI now6) :: fs) := hS
                          refine any_fin rfl (hS.pickN 6 [1, 2, 3, 4, 5] (by decide)) ?_
                          refine any_step [18] (by kernel_rfl) rfl ?_
                          refine (all_cons ?_ all_nil)
                          · refine any_op (listed' := #[true, true, true, true, true, true, true, true, true, true, true, true, true, true, true, true, true, true, true, false, false]) (by kernel_rfl) (by kernel_rfl) ?_
                            refine at_run 1 [⟨false, [((r2.2 == 0) && ((r2.1.length : Int) == (geti r6.2 i2)), true)], callFunc 17 #[.agg #[.int .i64 now4, .int .i64 now5, .slice A10 now6.length c10], .agg #[.int .i64 r10.1, .int .i64 r10.2.1, .slice A17 r10.2.2.length c17]], .bool r11⟩] [some (.bool r11)] [173, 180] [pl 173 (.bool ((r2.2 == 0) && ((r2.1.length : Int) == (geti r6.2 i2)))), ⟨180, [(173, true)], .bool r11⟩] hF hS (by kernel_rfl) (by kernel_rfl) ?_ (fun a w hF hS => ?_)
                            · exact obs_cons (ob_call Try.func17 (by kernel_rfl) rfl (fun hy _ hS => gameroomref_SameGrid_w (ite_some hr11 (by rw [show ((r2.2 == 0) && ((r2.1.length : Int) == (geti r6.2 i2))) = true from hy ((r2.2 == 0) && ((r2.1.length : Int) == (geti r6.2 i2)), true) (by simp)]; try rfl)) hS (fun _ hS => (hS.at_ 5 rfl).rd) ((hS.at_ 5 rfl).cap1) rfl (fun _ hS => (hS.at_ 0 rfl).rd) ((hS.at_ 0 rfl).cap1) rfl)) <| obs_nil
                            refine any_fin rfl (hS.pickN 6 [1, 2, 3, 4, 5] (by decide)) ?_
                            refine any_step [19] (by kernel_rfl) rfl ?_
                            refine (all_cons ?_ all_nil)
                            · refine any_op (listed' := #[true, true, true, true, true, true, true, true, true, true, true, true, true, true, true, true, true, true, true, true, false]) (by kernel_rfl) (by kernel_rfl) ?_
                              refine at_runW 1 [] [] [181] [pl 181 (.bool (((r2.2 == 0) && ((r2.1.length : Int) == (geti r6.2 i2))) && r11))] hF hS (by kernel_rfl) (by kernel_rfl) ?_ (fun a hF => ?_)
                              · exact obs_nil
                              refine any_finI rfl (fun h => h) ?_
                              refine any_step [20] (by kernel_rfl) rfl ?_
                              refine (all_cons ?_ all_nil)
                              · refine any_op (listed' := #[true, true, true, true, true, true, true, true, true, true, true, true, true, true, true, true, true, true, true, true, true]) (by kernel_rfl) (by kernel_rfl) ?_
                                refine at_runW 1 [] [] [8] [pl 8 (.bool (((r2.2 == 0) && ((r2.1.length : Int) == (geti r6.2 i2))) && r11))] hF hS (by kernel_rfl) (by kernel_rfl) ?_ (fun a hF => ?_)
                                · exact obs_nil
                                refine any_finI rfl (fun h => h) ?_
                                refine any_end (by kernel_rfl) ?_
                                refine np_n ?_
                                refine then_n ?_
                                have hS := hS.pickN 6 [] (by decide)
                                exact ⟨(((r2.2 == 0) && ((r2.1.length : Int) == (geti r6.2 i2))) && r11), hF.weak [8] (by kernel_rfl), hS, hm⟩
                      · replace hm := if_f hm hg1
                        refine any_rest [17, 18, 19, 20] [⟨false, [((r2.2 == 0) && ((r2.1.length : Int) == (geti r6.2 i2)), true)], callFunc 19 #[.int .i64 g1, .int .i64 g2], .agg #[.int .i64 0, .int .i64 0, .slice none 0 0]⟩, ⟨false, [((r2.2 == 0) && ((r2.1.length : Int) == (geti r6.2 i2)), true)], callFunc 17 #[.agg #[.int .i64 now4, .int .i64 now5, .slice A10 now6.length c10], .agg #[.int .i64 0, .int .i64 0, .slice none 0 0]], .bool false⟩] [some (.agg #[.int .i64 0, .int .i64 0, .slice none 0 0]), some (.bool false), none, none] [8] [pl 8 (.bool (((r2.2 == 0) && ((r2.1.length : Int) == (geti r6.2 i2))) && false))] hF hS (by kernel_rfl) (by kernel_rfl) (by kernel_rfl) (by kernel_rfl) ?_ (fun a hF => ?_)
                        · exact obs_cons (Ob.vac (fun h => absurd (h ((r2.2 == 0) && ((r2.1.length : Int) == (geti r6.2 i2)), true) (by simp)) (by simp [hg1]))) <| obs_cons (Ob.vac (fun h => absurd (h ((r2.2 == 0) && ((r2.1.length : Int) == (geti r6.2 i2)), true) (by simp)) (by simp [hg1]))) <| obs_nil
                        refine np_n ?_
                        refine then_n ?_
                        have hS := hS.pickN 5 [] (by decide)
                        exact ⟨(((r2.2 == 0) && ((r2.1.length : Int) == (geti r6.2 i2))) && false), hF.weak [8] (by kernel_rfl), hS, hm⟩
                  · refine reg [] [] [4, 9, 10, 19, 20, 21, 22] [pl 4 (.pointer (some ⟨g4, 0, none⟩)), pl 9 (.slice A3 r2.1.length c3), pl 10 (.int .i64 r2.2), pl 19 (.slice A7 r6.2.length c7), pl 20 (.int .i64 i2), pl 21 (.pointer (some ⟨g5, 0, none⟩)), pl 22 (.int .i64 0)] hF hS Fol (by kernel_rfl) (by kernel_rfl) (by kernel_rfl) ?_ (fun a w hF hS => ?_)
                    · exact obs_nil
                    refine wpIn_block ?_
                    have hS := hS.pickN 5 [2, 3, 4, 0, 1] (by decide)
                    refine wp_loop_model (S := (Int × Int × List Int × Int)) (R := (Fl (Int × Int × List Int) Bool)) (gameroomlaw_SlideHomes_L3 r2) (fun x => ((gameroomlaw_SlideHomes_K3 g1 g2 r2 r6 i2) x).bind φ2) r (fun (x : (Int × Int × List Int × Int)) a w => ∃ (A9 : Option Addr) (c9 : Nat), Fr 189 [pl 4 (.pointer (some ⟨g4, 0, none⟩)), pl 9 (.slice A3 r2.1.length c3), pl 10 (.int .i64 r2.2), pl 19 (.slice A7 r6.2.length c7), pl 20 (.int .i64 i2), pl 21 (.pointer (some ⟨g5, 0, none⟩)), pl 22 (.int .i64 x.2.2.2)] a ∧ Sep w0 B w (blk g4 32 #[.int .i64 g1, .int .i64 g2, .slice A1 g3.length c1] :: own 3 (.slice A3 r2.1.length c3) (vI r2.1) :: own 3 (.slice A7 r6.2.length c7) (vI r6.2) :: blk g5 32 #[.int .i64 x.1, .int .i64 x.2.1, .slice A9 x.2.2.1.length c9] :: own 3 (.slice A9 x.2.2.1.length c9) (vI x.2.2.1) :: fs)) (assoc_b hm) ⟨A8, c8, hF.weak [4, 9, 10, 19, 20, 21, 22] (by kernel_rfl), hS⟩ ?_
                    clear hF hS hm
                    rintro nn3 ⟨now1, now2, now3, k1⟩ a w ⟨A9, c9, hF, hS⟩ hm
                    generalize hφ3 : stK (gameroomlaw_SlideHomes_L3 r2) nn3 (fun x => ((gameroomlaw_SlideHomes_K3 g1 g2 r2 r6 i2) x).bind φ2) = φ3 at hm
                    unfold gameroomlaw_SlideHomes_L3 at hm
                    dsimp only at hF hS hm
                    refine seq_cut (fun a w => Fr 189 [pl 4 (.pointer (some ⟨g4, 0, none⟩)), pl 9 (.slice A3 r2.1.length c3), pl 10 (.int .i64 r2.2), pl 19 (.slice A7 r6.2.length c7), pl 20 (.int .i64 i2), pl 21 (.pointer (some ⟨g5, 0, none⟩)), pl 22 (.int .i64 k1)] a ∧ Sep w0 B w (blk g4 32 #[.int .i64 g1, .int .i64 g2, .slice A1 g3.length c1] :: own 3 (.slice A3 r2.1.length c3) (vI r2.1) :: own 3 (.slice A7 r6.2.length c7) (vI r6.2) :: blk g5 32 #[.int .i64 now1, .int .i64 now2, .slice A9 now3.length c9] :: own 3 (.slice A9 now3.length c9) (vI now3) :: fs) ∧ ((gameroomlaw_SlideHomes_J13 r2 now1 now2 now3 k1)).bind φ3 = some r) ?_ ?_
                    · rintro a w ⟨hF, hS, hm⟩
                      unfold gameroomlaw_SlideHomes_J13 at hm
                      refine seq_cut (fun a w => ∃ (now7 : Int) (now8 : Int) (now9 : List Int) (A15 : Option Addr) (c15 : Nat), Fr 189 [pl 4 (.pointer (some ⟨g4, 0, none⟩)), pl 9 (.slice A3 r2.1.length c3), pl 10 (.int .i64 r2.2), pl 19 (.slice A7 r6.2.length c7), pl 20 (.int .i64 i2), pl 21 (.pointer (some ⟨g5, 0, none⟩)), pl 22 (.int .i64 k1)] a ∧ Sep w0 B w (blk g4 32 #[.int .i64 g1, .int .i64 g2, .slice A1 g3.length c1] :: own 3 (.slice A3 r2.1.length c3) (vI r2.1) :: own 3 (.slice A7 r6.2.length c7) (vI r6.2) :: blk g5 32 #[.int .i64 now7, .int .i64 now8, .slice A15 now9.length c15] :: own 3 (.slice A15 now9.length c15) (vI now9) :: fs) ∧ ((gameroomlaw_SlideHomes_J14 k1) now7 now8 now9).bind φ3 = some r) ?_ ?_
                      · rintro a w ⟨now7, now8, now9, A15, c15, hF, hS, hm⟩
                        unfold gameroomlaw_SlideHomes_J14 at hm
                        refine reg1 [] [] [4, 9, 10, 19, 20, 21, 22] [pl 4 (.pointer (some ⟨g4, 0, none⟩)), pl 9 (.slice A3 r2.1.length c3), pl 10 (.int .i64 r2.2), pl 19 (.slice A7 r6.2.length c7), pl 20 (.int .i64 i2), pl 21 (.pointer (some ⟨g5, 0, none⟩)), pl 22 (.int .i64 (w64 (k1 + 1)))] hF hS Fol (by kernel_rfl) (by kernel_rfl) (by kernel_rfl) ?_ (fun a w hF hS => ?_)
                        · exact obs_nil
                        refine then_n ?_
                        rw [← hφ3] at hm
                        exact ⟨(now7, now8, now9, (w64 (k1 + 1))), ⟨A15, c15, hF.weak [4, 9, 10, 19, 20, 21, 22] (by kernel_rfl), hS⟩, hm⟩
                      · refine wpIn_block ?_
                        refine seq_cut (fun a w => ∃ (next1 : Int) (next2 : Int) (next3 : List Int) (ok1 : Bool) (g7 : Nat) (A13 : Option Addr) (c13 : Nat), Fr 189 [pl 4 (.pointer (some ⟨g4, 0, none⟩)), pl 9 (.slice A3 r2.1.length c3), pl 10 (.int .i64 r2.2), pl 19 (.slice A7 r6.2.length c7), pl 20 (.int .i64 i2), pl 21 (.pointer (some ⟨g5, 0, none⟩)), pl 22 (.int .i64 k1), pl 23 (.pointer (some ⟨g7, 0, none⟩)), pl 24 (.bool ok1)] a ∧ Sep w0 B w (blk g4 32 #[.int .i64 g1, .int .i64 g2, .slice A1 g3.length c1] :: own 3 (.slice A3 r2.1.length c3) (vI r2.1) :: own 3 (.slice A7 r6.2.length c7) (vI r6.2) :: blk g5 32 #[.int .i64 now1, .int .i64 now2, .slice A9 now3.length c9] :: own 3 (.slice A9 now3.length c9) (vI now3) :: blk g7 32 #[.int .i64 next1, .int .i64 next2, .slice A13 next3.length c13] :: own 3 (.slice A13 next3.length c13) (vI next3) :: fs) ∧ ((gameroomlaw_SlideHomes_J15 k1) next1 next2 next3 ok1).bind φ3 = some r) ?_ ?_
                        · rintro a w ⟨next1, next2, next3, ok1, g7, A13, c13, hF, hS, hm⟩
                          unfold gameroomlaw_SlideHomes_J15 at hm
                          refine seq_cut (fun a w => Fr 189 [pl 4 (.pointer (some ⟨g4, 0, none⟩)), pl 9 (.slice A3 r2.1.length c3), pl 10 (.int .i64 r2.2), pl 19 (.slice A7 r6.2.length c7), pl 20 (.int .i64 i2), pl 21 (.pointer (some ⟨g5, 0, none⟩)), pl 22 (.int .i64 k1), pl 23 (.pointer (some ⟨g7, 0, none⟩))] a ∧ Sep w0 B w (blk g4 32 #[.int .i64 g1, .int .i64 g2, .slice A1 g3.length c1] :: own 3 (.slice A3 r2.1.length c3) (vI r2.1) :: own 3 (.slice A7 r6.2.length c7) (vI r6.2) :: blk g5 32 #[.int .i64 now1, .int .i64 now2, .slice A9 now3.length c9] :: own 3 (.slice A9 now3.length c9) (vI now3) :: blk g7 32 #[.int .i64 next1, .int .i64 next2, .slice A13 next3.length c13] :: own 3 (.slice A13 next3.length c13) (vI next3) :: fs) ∧ ((gameroomlaw_SlideHomes_J16 k1 next1 next2 next3)).bind φ3 = some r) ?_ ?_
                          · rintro a w ⟨hF, hS, hm⟩
                            unfold gameroomlaw_SlideHomes_J16 at hm
                            refine oneR ?_
                            refine at_run 1 [⟨false, [], vS (Instr.loadAt 32 (.pointer (some ⟨g7, 0, none⟩))), .agg #[.int .i64 next1, .int .i64 next2, .slice A13 next3.length c13]⟩] [some (.agg #[.int .i64 next1, .int .i64 next2, .slice A13 next3.length c13])] [4, 9, 10, 19, 20, 21, 22, 161] [pl 4 (.pointer (some ⟨g4, 0, none⟩)), pl 9 (.slice A3 r2.1.length c3), pl 10 (.int .i64 r2.2), pl 19 (.slice A7 r6.2.length c7), pl 20 (.int .i64 i2), pl 21 (.pointer (some ⟨g5, 0, none⟩)), pl 22 (.int .i64 k1), pl 161 (.agg #[.int .i64 next1, .int .i64 next2, .slice A13 next3.length c13])] hF hS (by kernel_rfl) (by kernel_rfl) ?_ (fun a w hF hS => ?_)
                            · exact obs_cons (ob_loadA (cs := #[.int .i64 next1, .int .i64 next2, .slice A13 next3.length c13]) (by kernel_rfl) (by kernel_rfl) (fun _ _ hS => (hS.at_ 5 rfl).cellsAt 0 (by rfl))) <| obs_nil
                            obtain ⟨w, hrun, hS⟩ := run_putA (P := Try.prog) (t := 32) (us := #[.int .i64 next1, .int .i64 next2, .slice A13 next3.length c13]) (o := 0) (hS.at_ 3 rfl) (by kernel_rfl) (all_one (by kernel_rfl)) (Nat.le_of_ble_eq_true (by kernel_rfl))
                            refine at_skip hF (by kernel_rfl) hrun ?_
                            have hS : Sep w0 B w (blk g4 32 #[.int .i64 g1, .int .i64 g2, .slice A1 g3.length c1] :: own 3 (.slice A3 r2.1.length c3) (vI r2.1) :: own 3 (.slice A7 r6.2.length c7) (vI r6.2) :: blk g5 32 #[.int .i64 next1, .int .i64 next2, .slice A13 next3.length c13] :: own 3 (.slice A9 now3.length c9) (vI now3) :: blk g7 32 #[.int .i64 next1, .int .i64 next2, .slice A13 next3.length c13] :: own 3 (.slice A13 next3.length c13) (vI next3) :: fs) := hS
                            refine at_end [4, 9, 10, 19, 20, 21, 22] [pl 4 (.pointer (some ⟨g4, 0, none⟩)), pl 9 (.slice A3 r2.1.length c3), pl 10 (.int .i64 r2.2), pl 19 (.slice A7 r6.2.length c7), pl 20 (.int .i64 i2), pl 21 (.pointer (some ⟨g5, 0, none⟩)), pl 22 (.int .i64 k1)] hF rfl (by kernel_rfl) (fun hF => ?_)
                            refine block_n ?_
                            refine then_n ?_
                            have hS := hS.pickN 7 [0, 1, 2, 3, 6] (by decide)
                            exact ⟨next1, next2, next3, A13, c13, hF.weak [4, 9, 10, 19, 20, 21, 22] (by kernel_rfl), hS, hm⟩
                          · refine reg [] [] [4, 9, 10, 19, 20, 21, 22, 23, 160] [pl 4 (.pointer (some ⟨g4, 0, none⟩)), pl 9 (.slice A3 r2.1.length c3), pl 10 (.int .i64 r2.2), pl 19 (.slice A7 r6.2.length c7), pl 20 (.int .i64 i2), pl 21 (.pointer (some ⟨g5, 0, none⟩)), pl 22 (.int .i64 k1), pl 23 (.pointer (some ⟨g7, 0, none⟩)), pl 160 (.bool (!ok1))] hF hS Fol (by kernel_rfl) (by kernel_rfl) (by kernel_rfl) ?_ (fun a w hF hS => ?_)
                            · exact obs_nil
                            refine cond_ev (t := 160) (b := !ok1) hF (by kernel_rfl) (fun hb => ?_) (fun hb => ?_)
                            · replace hm := if_t hm hb
                              refine reg [] [] [8] [pl 8 (.bool false)] hF hS Fol (by kernel_rfl) (by kernel_rfl) (by kernel_rfl) ?_ (fun a w hF hS => ?_)
                              · exact obs_nil
                              refine wpIn_ret ?_
                              refine then_r (block_r (then_r (then_r (block_r (then_r (block_r (then_r (then_r (block_r (then_r ?_))))))))))
                              rw [← hφ3] at hm
                              replace hm := done_b hm
                              unfold gameroomlaw_SlideHomes_K3 at hm
                              try dsimp only at hm
                              rw [← hφ2] at hm
                              replace hm := done_b hm
                              unfold gameroomlaw_SlideHomes_K2 at hm
                              try dsimp only at hm
                              have hS := hS.pickN 7 [] (by decide)
                              have hm : some false = some r := hm
                              obtain rfl := Option.some.inj hm
                              exact retV (rs := [.tmp 8]) (vs := [.bool false]) hF rfl (rv_t (by kernel_rfl) <| rv_nil) rfl ⟨rfl, hS⟩
                            · replace hm := if_f hm hb
                              refine wpIn_skip ?_
                              refine then_n ?_
                              exact ⟨hF.weak [4, 9, 10, 19, 20, 21, 22, 23] (by kernel_rfl), hS, hm⟩
                        · obtain ⟨hp5, hm⟩ := asrt_b hm
                          obtain ⟨r9, hr9, hm⟩ := call_b hm
                          refine regMix5 [0, 1, 2, 3, 4] [] 7 #[true, true, true, true, true, false, false, false, false, false, false, false] [⟨false, [], vS (Instr.loadAt 32 (.pointer (some ⟨g5, 0, none⟩))), .agg #[.int .i64 now1, .int .i64 now2, .slice A9 now3.length c9]⟩, ⟨true, [], vS (Instr.indexAt 22 (.slice A3 r2.1.length c3) (.int .i64 k1)), .pointer (some (sAddr A3 k1))⟩, ⟨false, [], vS (Instr.loadAt 3 (.pointer (some (sAddr A3 k1)))), .int .i64 (geti r2.1 k1)⟩] [some (.agg #[.int .i64 now1, .int .i64 now2, .slice A9 now3.length c9]), none, none, some (.pointer (some (sAddr A3 k1))), some (.int .i64 (geti r2.1 k1))] [4, 9, 10, 19, 20, 21, 22, 151, 155] [pl 4 (.pointer (some ⟨g4, 0, none⟩)), pl 9 (.slice A3 r2.1.length c3), pl 10 (.int .i64 r2.2), pl 19 (.slice A7 r6.2.length c7), pl 20 (.int .i64 i2), pl 21 (.pointer (some ⟨g5, 0, none⟩)), pl 22 (.int .i64 k1), pl 151 (.agg #[.int .i64 now1, .int .i64 now2, .slice A9 now3.length c9]), pl 155 (.int .i64 (geti r2.1 k1))] hF hS Fol (by kernel_rfl) (by kernel_rfl) (by kernel_rfl) (by kernel_rfl) ?_ (fun a w hF hS => ?_)
                          · exact obs_cons (ob_loadA (cs := #[.int .i64 now1, .int .i64 now2, .slice A9 now3.length c9]) (by kernel_rfl) (by kernel_rfl) (fun _ _ hS => (hS.at_ 3 rfl).cellsAt 0 (by rfl))) <| obs_cons (ob_ix1 (f := (Value.int .i64)) (m := r2.1) Und22 hi3 hs3 (hS.at_ 1 rfl).rd rfl (fun _ => hp5)) <| obs_cons (ob_get1 (n := r2.1.length) (m := r2.1) (Value.int .i64) (0 : Int) Agg3 (fun _ hS => ⟨_, (hS.at_ 1 rfl).rd⟩) (fun _ hS => rfl) (fun _ => hp5)) <| obs_nil
                          refine any_share 1 #[true, true, true, true, true, true, true, true, true, true, true, false] (fun a w => ∃ g6 A12 c12, Fr 189 [pl 4 (.pointer (some ⟨g4, 0, none⟩)), pl 9 (.slice A3 r2.1.length c3), pl 10 (.int .i64 r2.2), pl 19 (.slice A7 r6.2.length c7), pl 20 (.int .i64 i2), pl 21 (.pointer (some ⟨g5, 0, none⟩)), pl 22 (.int .i64 k1), pl 23 (.pointer (some ⟨g6, 0, none⟩)), pl 158 (.bool r9.2.2.2)] a ∧ Sep w0 B w (blk g6 32 #[.int .i64 r9.1, .int .i64 r9.2.1, .slice A12 r9.2.2.1.length c12] :: own 3 (.slice A12 r9.2.2.1.length c12) (vI r9.2.2.1) :: blk g4 32 #[.int .i64 g1, .int .i64 g2, .slice A1 g3.length c1] :: own 3 (.slice A3 r2.1.length c3) (vI r2.1) :: own 3 (.slice A7 r6.2.length c7) (vI r6.2) :: blk g5 32 #[.int .i64 now1, .int .i64 now2, .slice A9 now3.length c9] :: own 3 (.slice A9 now3.length c9) (vI now3) :: fs)) (fun a w hI => ?_) (fun sh1 => ?_)
                          · obtain ⟨g6, A12, c12, hF, hS⟩ := hI
                            refine any_step [11] (by kernel_rfl) rfl ?_
                            refine (all_cons ?_ all_nil)
                            · refine any_op (listed' := #[true, true, true, true, true, true, true, true, true, true, true, true]) (by kernel_rfl) (by kernel_rfl) ?_
                              refine at_runW 1 [] [] [4, 9, 10, 19, 20, 21, 22, 23, 24] [pl 4 (.pointer (some ⟨g4, 0, none⟩)), pl 9 (.slice A3 r2.1.length c3), pl 10 (.int .i64 r2.2), pl 19 (.slice A7 r6.2.length c7), pl 20 (.int .i64 i2), pl 21 (.pointer (some ⟨g5, 0, none⟩)), pl 22 (.int .i64 k1), pl 23 (.pointer (some ⟨g6, 0, none⟩)), pl 24 (.bool r9.2.2.2)] hF hS (by kernel_rfl) (by kernel_rfl) ?_ (fun a hF => ?_)
                              · exact obs_nil
                              refine any_finI rfl (fun h => h) ?_
                              refine any_end (by kernel_rfl) ?_
                              refine np_n ?_
                              refine then_n ?_
                              have hS := hS.pickN 7 [2, 3, 4, 5, 6, 0, 1] (by decide)
                              exact ⟨r9.1, r9.2.1, r9.2.2.1, r9.2.2.2, g6, A12, c12, hF.weak [4, 9, 10, 19, 20, 21, 22, 23, 24] (by kernel_rfl), hS, hm⟩
                          refine any_share 2 #[true, true, true, true, true, true, true, true, true, true, false, false] (fun a w => ∃ g6 A12 c12, Fr 189 [pl 4 (.pointer (some ⟨g4, 0, none⟩)), pl 9 (.slice A3 r2.1.length c3), pl 10 (.int .i64 r2.2), pl 19 (.slice A7 r6.2.length c7), pl 20 (.int .i64 i2), pl 21 (.pointer (some ⟨g5, 0, none⟩)), pl 22 (.int .i64 k1), pl 23 (.pointer (some ⟨g6, 0, none⟩)), pl 157 (.agg #[.int .i64 r9.1, .int .i64 r9.2.1, .slice A12 r9.2.2.1.length c12]), pl 158 (.bool r9.2.2.2)] a ∧ Sep w0 B w (blk g6 32 #[.int .i64 0, .int .i64 0, .slice none 0 0] :: own 3 (.slice A12 r9.2.2.1.length c12) (vI r9.2.2.1) :: blk g4 32 #[.int .i64 g1, .int .i64 g2, .slice A1 g3.length c1] :: own 3 (.slice A3 r2.1.length c3) (vI r2.1) :: own 3 (.slice A7 r6.2.length c7) (vI r6.2) :: blk g5 32 #[.int .i64 now1, .int .i64 now2, .slice A9 now3.length c9] :: own 3 (.slice A9 now3.length c9) (vI now3) :: fs)) (fun a w hI => ?_) (fun sh2 => ?_)
                          · obtain ⟨g6, A12, c12, hF, hS⟩ := hI
                            refine any_step [10] (by kernel_rfl) rfl ?_
                            refine (all_cons ?_ all_nil)
                            · refine any_op (listed' := #[true, true, true, true, true, true, true, true, true, true, true, false]) (by kernel_rfl) (by kernel_rfl) ?_
                              obtain ⟨w, hrun, hS⟩ := run_putA (P := Try.prog) (t := 32) (us := #[.int .i64 r9.1, .int .i64 r9.2.1, .slice A12 r9.2.2.1.length c12]) (o := 0) (hS.at_ 0 rfl) (by kernel_rfl) (all_one (by kernel_rfl)) (Nat.le_of_ble_eq_true (by kernel_rfl))
                              refine at_skip hF (by kernel_rfl) hrun ?_
                              have hS : Sep w0 B w (blk g6 32 #[.int .i64 r9.1, .int .i64 r9.2.1, .slice A12 r9.2.2.1.length c12] :: own 3 (.slice A12 r9.2.2.1.length c12) (vI r9.2.2.1) :: blk g4 32 #[.int .i64 g1, .int .i64 g2, .slice A1 g3.length c1] :: own 3 (.slice A3 r2.1.length c3) (vI r2.1) :: own 3 (.slice A7 r6.2.length c7) (vI r6.2) :: blk g5 32 #[.int .i64 now1, .int .i64 now2, .slice A9 now3.length c9] :: own 3 (.slice A9 now3.length c9) (vI now3) :: fs) := hS
                              refine any_fin rfl (hS.pickN 7 [2, 3, 4, 5, 6] (by decide)) ?_
                              exact sh1 _ _ ⟨g6, A12, c12, hF.weak [4, 9, 10, 19, 20, 21, 22, 23, 158] (by kernel_rfl), hS⟩
                          refine any_share 3 #[true, true, true, true, true, true, true, true, true, false, false, false] (fun a w => ∃ A12 c12, Fr 189 [pl 4 (.pointer (some ⟨g4, 0, none⟩)), pl 9 (.slice A3 r2.1.length c3), pl 10 (.int .i64 r2.2), pl 19 (.slice A7 r6.2.length c7), pl 20 (.int .i64 i2), pl 21 (.pointer (some ⟨g5, 0, none⟩)), pl 22 (.int .i64 k1), pl 157 (.agg #[.int .i64 r9.1, .int .i64 r9.2.1, .slice A12 r9.2.2.1.length c12]), pl 158 (.bool r9.2.2.2)] a ∧ Sep w0 B w (own 3 (.slice A12 r9.2.2.1.length c12) (vI r9.2.2.1) :: blk g4 32 #[.int .i64 g1, .int .i64 g2, .slice A1 g3.length c1] :: own 3 (.slice A3 r2.1.length c3) (vI r2.1) :: own 3 (.slice A7 r6.2.length c7) (vI r6.2) :: blk g5 32 #[.int .i64 now1, .int .i64 now2, .slice A9 now3.length c9] :: own 3 (.slice A9 now3.length c9) (vI now3) :: fs)) (fun a w hI => ?_) (fun sh3 => ?_)
                          · obtain ⟨A12, c12, hF, hS⟩ := hI
                            refine any_step [9] (by kernel_rfl) rfl ?_
                            refine (all_cons ?_ all_nil)
                            · refine any_op (listed' := #[true, true, true, true, true, true, true, true, true, true, false, false]) (by kernel_rfl) (by kernel_rfl) ?_
                              refine at_do (d := 23) (s := vS (Instr.alloc 32 true (.tuple #[]))) (v := .pointer (some ⟨w.heap.size, 0, none⟩)) (w' := w.alloc (.cells #[.int .i64 0, .int .i64 0, .slice none 0 0] 32)) hF (by kernel_rfl) (by kernel_rfl) (by kernel_rfl) (fun a hF => ?_)
                              have hS : Sep w0 B (w.alloc (.cells #[.int .i64 0, .int .i64 0, .slice none 0 0] 32)) (blk w.heap.size 32 #[.int .i64 0, .int .i64 0, .slice none 0 0] :: (own 3 (.slice A12 r9.2.2.1.length c12) (vI r9.2.2.1) :: blk g4 32 #[.int .i64 g1, .int .i64 g2, .slice A1 g3.length c1] :: own 3 (.slice A3 r2.1.length c3) (vI r2.1) :: own 3 (.slice A7 r6.2.length c7) (vI r6.2) :: blk g5 32 #[.int .i64 now1, .int .i64 now2, .slice A9 now3.length c9] :: own 3 (.slice A9 now3.length c9) (vI now3) :: fs)) := hS.box 32 #[.int .i64 0, .int .i64 0, .slice none 0 0]
                              generalize w.heap.size = g6 at hF hS
                              generalize w.alloc (.cells #[.int .i64 0, .int .i64 0, .slice none 0 0] 32) = w at hS ⊢
                              refine any_fin rfl (hS.pickN 7 [2, 3, 4, 5, 6] (by decide)) ?_
                              exact sh2 _ _ ⟨g6, A12, c12, hF.weak [4, 9, 10, 19, 20, 21, 22, 23, 157, 158] (by kernel_rfl), hS⟩
                          refine any_share 3 #[true, true, true, true, true, true, true, true, false, true, false, false] (fun a w => ∃ g6 A12 c12, Fr 189 [pl 4 (.pointer (some ⟨g4, 0, none⟩)), pl 9 (.slice A3 r2.1.length c3), pl 10 (.int .i64 r2.2), pl 19 (.slice A7 r6.2.length c7), pl 20 (.int .i64 i2), pl 21 (.pointer (some ⟨g5, 0, none⟩)), pl 22 (.int .i64 k1), pl 23 (.pointer (some ⟨g6, 0, none⟩)), pl 150 (.tuple #[.agg #[.int .i64 r9.1, .int .i64 r9.2.1, .slice A12 r9.2.2.1.length c12], .bool r9.2.2.2]), pl 157 (.agg #[.int .i64 r9.1, .int .i64 r9.2.1, .slice A12 r9.2.2.1.length c12])] a ∧ Sep w0 B w (blk g6 32 #[.int .i64 0, .int .i64 0, .slice none 0 0] :: own 3 (.slice A12 r9.2.2.1.length c12) (vI r9.2.2.1) :: blk g4 32 #[.int .i64 g1, .int .i64 g2, .slice A1 g3.length c1] :: own 3 (.slice A3 r2.1.length c3) (vI r2.1) :: own 3 (.slice A7 r6.2.length c7) (vI r6.2) :: blk g5 32 #[.int .i64 now1, .int .i64 now2, .slice A9 now3.length c9] :: own 3 (.slice A9 now3.length c9) (vI now3) :: fs)) (fun a w hI => ?_) (fun sh4 => ?_)
                          · obtain ⟨g6, A12, c12, hF, hS⟩ := hI
                            refine any_step [8, 10] (by kernel_rfl) rfl ?_
                            refine (all_cons ?_ (all_cons ?_ all_nil))
                            · refine any_op (listed' := #[true, true, true, true, true, true, true, true, true, true, false, false]) (by kernel_rfl) (by kernel_rfl) ?_
                              refine at_runW 1 [] [] [4, 9, 10, 19, 20, 21, 22, 23, 157, 158] [pl 4 (.pointer (some ⟨g4, 0, none⟩)), pl 9 (.slice A3 r2.1.length c3), pl 10 (.int .i64 r2.2), pl 19 (.slice A7 r6.2.length c7), pl 20 (.int .i64 i2), pl 21 (.pointer (some ⟨g5, 0, none⟩)), pl 22 (.int .i64 k1), pl 23 (.pointer (some ⟨g6, 0, none⟩)), pl 157 (.agg #[.int .i64 r9.1, .int .i64 r9.2.1, .slice A12 r9.2.2.1.length c12]), pl 158 (.bool r9.2.2.2)] hF hS (by kernel_rfl) (by kernel_rfl) ?_ (fun a hF => ?_)
                              · exact obs_nil
                              refine any_finI rfl (fun h => h) ?_
                              exact sh2 _ _ ⟨g6, A12, c12, hF.weak [4, 9, 10, 19, 20, 21, 22, 23, 157, 158] (by kernel_rfl), hS⟩
                            · refine any_op (listed' := #[true, true, true, true, true, true, true, true, false, true, true, false]) (by kernel_rfl) (by kernel_rfl) ?_
                              obtain ⟨w, hrun, hS⟩ := run_putA (P := Try.prog) (t := 32) (us := #[.int .i64 r9.1, .int .i64 r9.2.1, .slice A12 r9.2.2.1.length c12]) (o := 0) (hS.at_ 0 rfl) (by kernel_rfl) (all_one (by kernel_rfl)) (Nat.le_of_ble_eq_true (by kernel_rfl))
                              refine at_skip hF (by kernel_rfl) hrun ?_
                              have hS : Sep w0 B w (blk g6 32 #[.int .i64 r9.1, .int .i64 r9.2.1, .slice A12 r9.2.2.1.length c12] :: own 3 (.slice A12 r9.2.2.1.length c12) (vI r9.2.2.1) :: blk g4 32 #[.int .i64 g1, .int .i64 g2, .slice A1 g3.length c1] :: own 3 (.slice A3 r2.1.length c3) (vI r2.1) :: own 3 (.slice A7 r6.2.length c7) (vI r6.2) :: blk g5 32 #[.int .i64 now1, .int .i64 now2, .slice A9 now3.length c9] :: own 3 (.slice A9 now3.length c9) (vI now3) :: fs) := hS
                              refine any_fin rfl (hS.pickN 7 [2, 3, 4, 5, 6] (by decide)) ?_
                              refine any_step [8] (by kernel_rfl) rfl ?_
                              refine (all_cons ?_ all_nil)
                              · refine any_op (listed' := #[true, true, true, true, true, true, true, true, true, true, true, false]) (by kernel_rfl) (by kernel_rfl) ?_
                                refine at_runW 1 [] [] [4, 9, 10, 19, 20, 21, 22, 23, 158] [pl 4 (.pointer (some ⟨g4, 0, none⟩)), pl 9 (.slice A3 r2.1.length c3), pl 10 (.int .i64 r2.2), pl 19 (.slice A7 r6.2.length c7), pl 20 (.int .i64 i2), pl 21 (.pointer (some ⟨g5, 0, none⟩)), pl 22 (.int .i64 k1), pl 23 (.pointer (some ⟨g6, 0, none⟩)), pl 158 (.bool r9.2.2.2)] hF hS (by kernel_rfl) (by kernel_rfl) ?_ (fun a hF => ?_)
                                · exact obs_nil
                                refine any_finI rfl (fun h => h) ?_
                                exact sh1 _ _ ⟨g6, A12, c12, hF.weak [4, 9, 10, 19, 20, 21, 22, 23, 158] (by kernel_rfl), hS⟩
                          refine any_share 3 #[true, true, true, true, true, true, true, false, true, true, false, false] (fun a w => ∃ g6 A12 c12, Fr 189 [pl 4 (.pointer (some ⟨g4, 0, none⟩)), pl 9 (.slice A3 r2.1.length c3), pl 10 (.int .i64 r2.2), pl 19 (.slice A7 r6.2.length c7), pl 20 (.int .i64 i2), pl 21 (.pointer (some ⟨g5, 0, none⟩)), pl 22 (.int .i64 k1), pl 23 (.pointer (some ⟨g6, 0, none⟩)), pl 150 (.tuple #[.agg #[.int .i64 r9.1, .int .i64 r9.2.1, .slice A12 r9.2.2.1.length c12], .bool r9.2.2.2]), pl 158 (.bool r9.2.2.2)] a ∧ Sep w0 B w (blk g6 32 #[.int .i64 0, .int .i64 0, .slice none 0 0] :: own 3 (.slice A12 r9.2.2.1.length c12) (vI r9.2.2.1) :: blk g4 32 #[.int .i64 g1, .int .i64 g2, .slice A1 g3.length c1] :: own 3 (.slice A3 r2.1.length c3) (vI r2.1) :: own 3 (.slice A7 r6.2.length c7) (vI r6.2) :: blk g5 32 #[.int .i64 now1, .int .i64 now2, .slice A9 now3.length c9] :: own 3 (.slice A9 now3.length c9) (vI now3) :: fs)) (fun a w hI => ?_) (fun sh5 => ?_)
                          · obtain ⟨g6, A12, c12, hF, hS⟩ := hI
                            refine any_step [7] (by kernel_rfl) rfl ?_
                            refine (all_cons ?_ all_nil)
                            · refine any_op (listed' := #[true, true, true, true, true, true, true, true, true, true, false, false]) (by kernel_rfl) (by kernel_rfl) ?_
                              refine at_runW 1 [] [] [4, 9, 10, 19, 20, 21, 22, 23, 157, 158] [pl 4 (.pointer (some ⟨g4, 0, none⟩)), pl 9 (.slice A3 r2.1.length c3), pl 10 (.int .i64 r2.2), pl 19 (.slice A7 r6.2.length c7), pl 20 (.int .i64 i2), pl 21 (.pointer (some ⟨g5, 0, none⟩)), pl 22 (.int .i64 k1), pl 23 (.pointer (some ⟨g6, 0, none⟩)), pl 157 (.agg #[.int .i64 r9.1, .int .i64 r9.2.1, .slice A12 r9.2.2.1.length c12]), pl 158 (.bool r9.2.2.2)] hF hS (by kernel_rfl) (by kernel_rfl) ?_ (fun a hF => ?_)
                              · exact obs_nil
                              refine any_finI rfl (fun h => h) ?_
                              exact sh2 _ _ ⟨g6, A12, c12, hF.weak [4, 9, 10, 19, 20, 21, 22, 23, 157, 158] (by kernel_rfl), hS⟩
                          refine any_share 4 #[true, true, true, true, true, true, true, false, false, true, false, false] (fun a w => ∃ g6 A12 c12, Fr 189 [pl 4 (.pointer (some ⟨g4, 0, none⟩)), pl 9 (.slice A3 r2.1.length c3), pl 10 (.int .i64 r2.2), pl 19 (.slice A7 r6.2.length c7), pl 20 (.int .i64 i2), pl 21 (.pointer (some ⟨g5, 0, none⟩)), pl 22 (.int .i64 k1), pl 23 (.pointer (some ⟨g6, 0, none⟩)), pl 150 (.tuple #[.agg #[.int .i64 r9.1, .int .i64 r9.2.1, .slice A12 r9.2.2.1.length c12], .bool r9.2.2.2])] a ∧ Sep w0 B w (blk g6 32 #[.int .i64 0, .int .i64 0, .slice none 0 0] :: own 3 (.slice A12 r9.2.2.1.length c12) (vI r9.2.2.1) :: blk g4 32 #[.int .i64 g1, .int .i64 g2, .slice A1 g3.length c1] :: own 3 (.slice A3 r2.1.length c3) (vI r2.1) :: own 3 (.slice A7 r6.2.length c7) (vI r6.2) :: blk g5 32 #[.int .i64 now1, .int .i64 now2, .slice A9 now3.length c9] :: own 3 (.slice A9 now3.length c9) (vI now3) :: fs)) (fun a w hI => ?_) (fun sh6 => ?_)
                          · obtain ⟨g6, A12, c12, hF, hS⟩ := hI
                            refine any_step [7, 8] (by kernel_rfl) rfl ?_
                            refine (all_cons ?_ (all_cons ?_ all_nil))
                            · refine any_op (listed' := #[true, true, true, true, true, true, true, true, false, true, false, false]) (by kernel_rfl) (by kernel_rfl) ?_
                              refine at_runW 1 [] [] [4, 9, 10, 19, 20, 21, 22, 23, 150, 157] [pl 4 (.pointer (some ⟨g4, 0, none⟩)), pl 9 (.slice A3 r2.1.length c3), pl 10 (.int .i64 r2.2), pl 19 (.slice A7 r6.2.length c7), pl 20 (.int .i64 i2), pl 21 (.pointer (some ⟨g5, 0, none⟩)), pl 22 (.int .i64 k1), pl 23 (.pointer (some ⟨g6, 0, none⟩)), pl 150 (.tuple #[.agg #[.int .i64 r9.1, .int .i64 r9.2.1, .slice A12 r9.2.2.1.length c12], .bool r9.2.2.2]), pl 157 (.agg #[.int .i64 r9.1, .int .i64 r9.2.1, .slice A12 r9.2.2.1.length c12])] hF hS (by kernel_rfl) (by kernel_rfl) ?_ (fun a hF => ?_)
                              · exact obs_nil
                              refine any_finI rfl (fun h => h) ?_
                              exact sh4 _ _ ⟨g6, A12, c12, hF.weak [4, 9, 10, 19, 20, 21, 22, 23, 150, 157] (by kernel_rfl), hS⟩
                            · refine any_op (listed' := #[true, true, true, true, true, true, true, false, true, true, false, false]) (by kernel_rfl) (by kernel_rfl) ?_
                              refine at_runW 1 [] [] [4, 9, 10, 19, 20, 21, 22, 23, 150, 158] [pl 4 (.pointer (some ⟨g4, 0, none⟩)), pl 9 (.slice A3 r2.1.length c3), pl 10 (.int .i64 r2.2), pl 19 (.slice A7 r6.2.length c7), pl 20 (.int .i64 i2), pl 21 (.pointer (some ⟨g5, 0, none⟩)), pl 22 (.int .i64 k1), pl 23 (.pointer (some ⟨g6, 0, none⟩)), pl 150 (.tuple #[.agg #[.int .i64 r9.1, .int .i64 r9.2.1, .slice A12 r9.2.2.1.length c12], .bool r9.2.2.2]), pl 158 (.bool r9.2.2.2)] hF hS (by kernel_rfl) (by kernel_rfl) ?_ (fun a hF => ?_)
                              · exact obs_nil
                              refine any_finI rfl (fun h => h) ?_
                              exact sh5 _ _ ⟨g6, A12, c12, hF.weak [4, 9, 10, 19, 20, 21, 22, 23, 150, 158] (by kernel_rfl), hS⟩
                          refine any_share 5 #[true, true, true, true, true, true, false, false, false, true, false, false] (fun a w => ∃ g6 A12 c12, Fr 189 [pl 4 (.pointer (some ⟨g4, 0, none⟩)), pl 9 (.slice A3 r2.1.length c3), pl 10 (.int .i64 r2.2), pl 19 (.slice A7 r6.2.length c7), pl 20 (.int .i64 i2), pl 21 (.pointer (some ⟨g5, 0, none⟩)), pl 22 (.int .i64 k1), pl 23 (.pointer (some ⟨g6, 0, none⟩)), pl 156 (.tuple #[.agg #[.int .i64 r9.1, .int .i64 r9.2.1, .slice A12 r9.2.2.1.length c12], .bool r9.2.2.2])] a ∧ Sep w0 B w (blk g6 32 #[.int .i64 0, .int .i64 0, .slice none 0 0] :: own 3 (.slice A12 r9.2.2.1.length c12) (vI r9.2.2.1) :: blk g4 32 #[.int .i64 g1, .int .i64 g2, .slice A1 g3.length c1] :: own 3 (.slice A3 r2.1.length c3) (vI r2.1) :: own 3 (.slice A7 r6.2.length c7) (vI r6.2) :: blk g5 32 #[.int .i64 now1, .int .i64 now2, .slice A9 now3.length c9] :: own 3 (.slice A9 now3.length c9) (vI now3) :: fs)) (fun a w hI => ?_) (fun sh7 => ?_)
                          · obtain ⟨g6, A12, c12, hF, hS⟩ := hI
                            refine any_step [6] (by kernel_rfl) rfl ?_
                            refine (all_cons ?_ all_nil)
                            · refine any_op (listed' := #[true, true, true, true, true, true, true, false, false, true, false, false]) (by kernel_rfl) (by kernel_rfl) ?_
                              refine at_runW 1 [] [] [4, 9, 10, 19, 20, 21, 22, 23, 150] [pl 4 (.pointer (some ⟨g4, 0, none⟩)), pl 9 (.slice A3 r2.1.length c3), pl 10 (.int .i64 r2.2), pl 19 (.slice A7 r6.2.length c7), pl 20 (.int .i64 i2), pl 21 (.pointer (some ⟨g5, 0, none⟩)), pl 22 (.int .i64 k1), pl 23 (.pointer (some ⟨g6, 0, none⟩)), pl 150 (.tuple #[.agg #[.int .i64 r9.1, .int .i64 r9.2.1, .slice A12 r9.2.2.1.length c12], .bool r9.2.2.2])] hF hS (by kernel_rfl) (by kernel_rfl) ?_ (fun a hF => ?_)
                              · exact obs_nil
                              refine any_finI rfl (fun h => h) ?_
                              exact sh6 _ _ ⟨g6, A12, c12, hF.weak [4, 9, 10, 19, 20, 21, 22, 23, 150] (by kernel_rfl), hS⟩
                          refine any_step [5, 9] (by kernel_rfl) rfl ?_
                          refine (all_cons ?_ (all_cons ?_ all_nil))
                          · refine any_op (listed' := #[true, true, true, true, true, true, false, false, false, false, false, false]) (by kernel_rfl) (by kernel_rfl) ?_
                            refine at_call (f := 18) (args := #[.agg #[.int .i64 now1, .int .i64 now2, .slice A9 now3.length c9], .int .i64 (geti r2.1 k1)]) (d := 156) hF (by kernel_rfl) (by kernel_rfl) Try.func18 (by kernel_rfl) rfl (gameroomref_SlideMove_w hr9 hS (fun _ hS => (hS.at_ 4 rfl).rd) ((hS.at_ 4 rfl).cap1) rfl) (fun v a w hR hF => ?_)
                            clear hS
                            obtain ⟨A12, c12, rfl, hS⟩ := hR
                            have hS : Sep w0 B w (own 3 (.slice A12 r9.2.2.1.length c12) (vI r9.2.2.1) :: blk g4 32 #[.int .i64 g1, .int .i64 g2, .slice A1 g3.length c1] :: own 3 (.slice A3 r2.1.length c3) (vI r2.1) :: own 3 (.slice A7 r6.2.length c7) (vI r6.2) :: blk g5 32 #[.int .i64 now1, .int .i64 now2, .slice A9 now3.length c9] :: own 3 (.slice A9 now3.length c9) (vI now3) :: fs) := hS
                            refine any_fin rfl (hS.pickN 6 [1, 2, 3, 4, 5] (by decide)) ?_
                            refine any_step [6, 9] (by kernel_rfl) rfl ?_
                            refine (all_cons ?_ (all_cons ?_ all_nil))
                            · refine any_op (listed' := #[true, true, true, true, true, true, true, false, false, false, false, false]) (by kernel_rfl) (by kernel_rfl) ?_
                              refine at_runW 1 [] [] [4, 9, 10, 19, 20, 21, 22, 150] [pl 4 (.pointer (some ⟨g4, 0, none⟩)), pl 9 (.slice A3 r2.1.length c3), pl 10 (.int .i64 r2.2), pl 19 (.slice A7 r6.2.length c7), pl 20 (.int .i64 i2), pl 21 (.pointer (some ⟨g5, 0, none⟩)), pl 22 (.int .i64 k1), pl 150 (.tuple #[.agg #[.int .i64 r9.1, .int .i64 r9.2.1, .slice A12 r9.2.2.1.length c12], .bool r9.2.2.2])] hF hS (by kernel_rfl) (by kernel_rfl) ?_ (fun a hF => ?_)
                              · exact obs_nil
                              refine any_finI rfl (fun h => h) ?_
                              refine any_step [7, 8, 9] (by kernel_rfl) rfl ?_
                              refine (all_cons ?_ (all_cons ?_ (all_cons ?_ all_nil)))
                              · refine any_op (listed' := #[true, true, true, true, true, true, true, true, false, false, false, false]) (by kernel_rfl) (by kernel_rfl) ?_
                                refine at_runW 1 [] [] [4, 9, 10, 19, 20, 21, 22, 150, 157] [pl 4 (.pointer (some ⟨g4, 0, none⟩)), pl 9 (.slice A3 r2.1.length c3), pl 10 (.int .i64 r2.2), pl 19 (.slice A7 r6.2.length c7), pl 20 (.int .i64 i2), pl 21 (.pointer (some ⟨g5, 0, none⟩)), pl 22 (.int .i64 k1), pl 150 (.tuple #[.agg #[.int .i64 r9.1, .int .i64 r9.2.1, .slice A12 r9.2.2.1.length c12], .bool r9.2.2.2]), pl 157 (.agg #[.int .i64 r9.1, .int .i64 r9.2.1, .slice A12 r9.2.2.1.length c12])] hF hS (by kernel_rfl) (by kernel_rfl) ?_ (fun a hF => ?_)
                                · exact obs_nil
                                refine any_finI rfl (fun h => h) ?_
                                refine any_step [8, 9] (by kernel_rfl) rfl ?_
                                refine (all_cons ?_ (all_cons ?_ all_nil))
                                · refine any_op (listed' := #[true, true, true, true, true, true, true, true, true, false, false, false]) (by kernel_rfl) (by kernel_rfl) ?_
                                  refine at_runW 1 [] [] [4, 9, 10, 19, 20, 21, 22, 157, 158] [pl 4 (.pointer (some ⟨g4, 0, none⟩)), pl 9 (.slice A3 r2.1.length c3), pl 10 (.int .i64 r2.2), pl 19 (.slice A7 r6.2.length c7), pl 20 (.int .i64 i2), pl 21 (.pointer (some ⟨g5, 0, none⟩)), pl 22 (.int .i64 k1), pl 157 (.agg #[.int .i64 r9.1, .int .i64 r9.2.1, .slice A12 r9.2.2.1.length c12]), pl 158 (.bool r9.2.2.2)] hF hS (by kernel_rfl) (by kernel_rfl) ?_ (fun a hF => ?_)
                                  · exact obs_nil
                                  refine any_finI rfl (fun h => h) ?_
                                  exact sh3 _ _ ⟨A12, c12, hF.weak [4, 9, 10, 19, 20, 21, 22, 157, 158] (by kernel_rfl), hS⟩
                                · refine any_op (listed' := #[true, true, true, true, true, true, true, true, false, true, false, false]) (by kernel_rfl) (by kernel_rfl) ?_
                                  refine at_do (d := 23) (s := vS (Instr.alloc 32 true (.tuple #[]))) (v := .pointer (some ⟨w.heap.size, 0, none⟩)) (w' := w.alloc (.cells #[.int .i64 0, .int .i64 0, .slice none 0 0] 32)) hF (by kernel_rfl) (by kernel_rfl) (by kernel_rfl) (fun a hF => ?_)
                                  have hS : Sep w0 B (w.alloc (.cells #[.int .i64 0, .int .i64 0, .slice none 0 0] 32)) (blk w.heap.size 32 #[.int .i64 0, .int .i64 0, .slice none 0 0] :: (own 3 (.slice A12 r9.2.2.1.length c12) (vI r9.2.2.1) :: blk g4 32 #[.int .i64 g1, .int .i64 g2, .slice A1 g3.length c1] :: own 3 (.slice A3 r2.1.length c3) (vI r2.1) :: own 3 (.slice A7 r6.2.length c7) (vI r6.2) :: blk g5 32 #[.int .i64 now1, .int .i64 now2, .slice A9 now3.length c9] :: own 3 (.slice A9 now3.length c9) (vI now3) :: fs)) := hS.box 32 #[.int .i64 0, .int .i64 0, .slice none 0 0]
                                  generalize w.heap.size = g6 at hF hS
                                  generalize w.alloc (.cells #[.int .i64 0, .int .i64 0, .slice none 0 0] 32) = w at hS ⊢
                                  refine any_fin rfl (hS.pickN 7 [2, 3, 4, 5, 6] (by decide)) ?_
                                  exact sh4 _ _ ⟨g6, A12, c12, hF.weak [4, 9, 10, 19, 20, 21, 22, 23, 150, 157] (by kernel_rfl), hS⟩
                              · refine any_op (listed' := #[true, true, true, true, true, true, true, false, true, false, false, false]) (by kernel_rfl) (by kernel_rfl) ?_
                                refine at_runW 1 [] [] [4, 9, 10, 19, 20, 21, 22, 150, 158] [pl 4 (.pointer (some ⟨g4, 0, none⟩)), pl 9 (.slice A3 r2.1.length c3), pl 10 (.int .i64 r2.2), pl 19 (.slice A7 r6.2.length c7), pl 20 (.int .i64 i2), pl 21 (.pointer (some ⟨g5, 0, none⟩)), pl 22 (.int .i64 k1), pl 150 (.tuple #[.agg #[.int .i64 r9.1, .int .i64 r9.2.1, .slice A12 r9.2.2.1.length c12], .bool r9.2.2.2]), pl 158 (.bool r9.2.2.2)] hF hS (by kernel_rfl) (by kernel_rfl) ?_ (fun a hF => ?_)
                                · exact obs_nil
                                refine any_finI rfl (fun h => h) ?_
                                refine any_step [7, 9] (by kernel_rfl) rfl ?_
                                refine (all_cons ?_ (all_cons ?_ all_nil))
                                · refine any_op (listed' := #[true, true, true, true, true, true, true, true, true, false, false, false]) (by kernel_rfl) (by kernel_rfl) ?_
                                  refine at_runW 1 [] [] [4, 9, 10, 19, 20, 21, 22, 157, 158] [pl 4 (.pointer (some ⟨g4, 0, none⟩)), pl 9 (.slice A3 r2.1.length c3), pl 10 (.int .i64 r2.2), pl 19 (.slice A7 r6.2.length c7), pl 20 (.int .i64 i2), pl 21 (.pointer (some ⟨g5, 0, none⟩)), pl 22 (.int .i64 k1), pl 157 (.agg #[.int .i64 r9.1, .int .i64 r9.2.1, .slice A12 r9.2.2.1.length c12]), pl 158 (.bool r9.2.2.2)] hF hS (by kernel_rfl) (by kernel_rfl) ?_ (fun a hF => ?_)
                                  · exact obs_nil
                                  refine any_finI rfl (fun h => h) ?_
                                  exact sh3 _ _ ⟨A12, c12, hF.weak [4, 9, 10, 19, 20, 21, 22, 157, 158] (by kernel_rfl), hS⟩
                                · refine any_op (listed' := #[true, true, true, true, true, true, true, false, true, true, false, false]) (by kernel_rfl) (by kernel_rfl) ?_
                                  refine at_do (d := 23) (s := vS (Instr.alloc 32 true (.tuple #[]))) (v := .pointer (some ⟨w.heap.size, 0, none⟩)) (w' := w.alloc (.cells #[.int .i64 0, .int .i64 0, .slice none 0 0] 32)) hF (by kernel_rfl) (by kernel_rfl) (by kernel_rfl) (fun a hF => ?_)
                                  have hS : Sep w0 B (w.alloc (.cells #[.int .i64 0, .int .i64 0, .slice none 0 0] 32)) (blk w.heap.size 32 #[.int .i64 0, .int .i64 0, .slice none 0 0] :: (own 3 (.slice A12 r9.2.2.1.length c12) (vI r9.2.2.1) :: blk g4 32 #[.int .i64 g1, .int .i64 g2, .slice A1 g3.length c1] :: own 3 (.slice A3 r2.1.length c3) (vI r2.1) :: own 3 (.slice A7 r6.2.length c7) (vI r6.2) :: blk g5 32 #[.int .i64 now1, .int .i64 now2, .slice A9 now3.length c9] :: own 3 (.slice A9 now3.length c9) (vI now3) :: fs)) := hS.box 32 #[.int .i64 0, .int .i64 0, .slice none 0 0]
                                  generalize w.heap.size = g6 at hF hS
                                  generalize w.alloc (.cells #[.int .i64 0, .int .i64 0, .slice none 0 0] 32) = w at hS ⊢
                                  refine any_fin rfl (hS.pickN 7 [2, 3, 4, 5, 6] (by decide)) ?_
                                  exact sh5 _ _ ⟨g6, A12, c12, hF.weak [4, 9, 10, 19, 20, 21, 22, 23, 150, 158] (by kernel_rfl), hS⟩
                              · refine any_op (listed' := #[true, true, true, true, true, true, true, false, false, true, false, false]) (by kernel_rfl) (by kernel_rfl) ?_
                                refine at_do (d := 23) (s := vS (Instr.alloc 32 true (.tuple #[]))) (v := .pointer (some ⟨w.heap.size, 0, none⟩)) (w' := w.alloc (.cells #[.int .i64 0, .int .i64 0, .slice none 0 0] 32)) hF (by kernel_rfl) (by kernel_rfl) (by kernel_rfl) (fun a hF => ?_)
                                have hS : Sep w0 B (w.alloc (.cells #[.int .i64 0, .int .i64 0, .slice none 0 0] 32)) (blk w.heap.size 32 #[.int .i64 0, .int .i64 0, .slice none 0 0] :: (own 3 (.slice A12 r9.2.2.1.length c12) (vI r9.2.2.1) :: blk g4 32 #[.int .i64 g1, .int .i64 g2, .slice A1 g3.length c1] :: own 3 (.slice A3 r2.1.length c3) (vI r2.1) :: own 3 (.slice A7 r6.2.length c7) (vI r6.2) :: blk g5 32 #[.int .i64 now1, .int .i64 now2, .slice A9 now3.length c9] :: own 3 (.slice A9 now3.length c9) (vI now3) :: fs)) := hS.box 32 #[.int .i64 0, .int .i64 0, .slice none 0 0]
                                generalize w.heap.size = g6 at hF hS
                                generalize w.alloc (.cells #[.int .i64 0, .int .i64 0, .slice none 0 0] 32) = w at hS ⊢
                                refine any_fin rfl (hS.pickN 7 [2, 3, 4, 5, 6] (by decide)) ?_
                                exact sh6 _ _ ⟨g6, A12, c12, hF.weak [4, 9, 10, 19, 20, 21, 22, 23, 150] (by kernel_rfl), hS⟩
                            · refine any_op (listed' := #[true, true, true, true, true, true, false, false, false, true, false, false]) (by kernel_rfl) (by kernel_rfl) ?_
                              refine at_do (d := 23) (s := vS (Instr.alloc 32 true (.tuple #[]))) (v := .pointer (some ⟨w.heap.size, 0, none⟩)) (w' := w.alloc (.cells #[.int .i64 0, .int .i64 0, .slice none 0 0] 32)) hF (by kernel_rfl) (by kernel_rfl) (by kernel_rfl) (fun a hF => ?_)
                              have hS : Sep w0 B (w.alloc (.cells #[.int .i64 0, .int .i64 0, .slice none 0 0] 32)) (blk w.heap.size 32 #[.int .i64 0, .int .i64 0, .slice none 0 0] :: (own 3 (.slice A12 r9.2.2.1.length c12) (vI r9.2.2.1) :: blk g4 32 #[.int .i64 g1, .int .i64 g2, .slice A1 g3.length c1] :: own 3 (.slice A3 r2.1.length c3) (vI r2.1) :: own 3 (.slice A7 r6.2.length c7) (vI r6.2) :: blk g5 32 #[.int .i64 now1, .int .i64 now2, .slice A9 now3.length c9] :: own 3 (.slice A9 now3.length c9) (vI now3) :: fs)) := hS.box 32 #[.int .i64 0, .int .i64 0, .slice none 0 0]
                              generalize w.heap.size = g6 at hF hS
                              generalize w.alloc (.cells #[.int .i64 0, .int .i64 0, .slice none 0 0] 32) = w at hS ⊢
                              refine any_fin rfl (hS.pickN 7 [2, 3, 4, 5, 6] (by decide)) ?_
                              exact sh7 _ _ ⟨g6, A12, c12, hF.weak [4, 9, 10, 19, 20, 21, 22, 23, 156] (by kernel_rfl), hS⟩
                          · refine any_op (listed' := #[true, true, true, true, true, false, false, false, false, true, false, false]) (by kernel_rfl) (by kernel_rfl) ?_
                            refine at_do (d := 23) (s := vS (Instr.alloc 32 true (.tuple #[]))) (v := .pointer (some ⟨w.heap.size, 0, none⟩)) (w' := w.alloc (.cells #[.int .i64 0, .int .i64 0, .slice none 0 0] 32)) hF (by kernel_rfl) (by kernel_rfl) (by kernel_rfl) (fun a hF => ?_)
                            have hS : Sep w0 B (w.alloc (.cells #[.int .i64 0, .int .i64 0, .slice none 0 0] 32)) (blk w.heap.size 32 #[.int .i64 0, .int .i64 0, .slice none 0 0] :: (blk g4 32 #[.int .i64 g1, .int .i64 g2, .slice A1 g3.length c1] :: own 3 (.slice A3 r2.1.length c3) (vI r2.1) :: own 3 (.slice A7 r6.2.length c7) (vI r6.2) :: blk g5 32 #[.int .i64 now1, .int .i64 now2, .slice A9 now3.length c9] :: own 3 (.slice A9 now3.length c9) (vI now3) :: fs)) := hS.box 32 #[.int .i64 0, .int .i64 0, .slice none 0 0]
                            generalize w.heap.size = g6 at hF hS
                            generalize w.alloc (.cells #[.int .i64 0, .int .i64 0, .slice none 0 0] 32) = w at hS ⊢
                            refine any_fin rfl (hS.pickN 6 [1, 2, 3, 4, 5] (by decide)) ?_
                            refine any_step [5] (by kernel_rfl) rfl ?_
                            refine (all_cons ?_ all_nil)
                            · refine any_op (listed' := #[true, true, true, true, true, true, false, false, false, true, false, false]) (by kernel_rfl) (by kernel_rfl) ?_
                              refine at_call (f := 18) (args := #[.agg #[.int .i64 now1, .int .i64 now2, .slice A9 now3.length c9], .int .i64 (geti r2.1 k1)]) (d := 156) hF (by kernel_rfl) (by kernel_rfl) Try.func18 (by kernel_rfl) rfl (gameroomref_SlideMove_w hr9 hS (fun _ hS => (hS.at_ 5 rfl).rd) ((hS.at_ 5 rfl).cap1) rfl) (fun v a w hR hF => ?_)
                              clear hS
                              obtain ⟨A14, c14, rfl, hS⟩ := hR
                              have hS : Sep w0 B w (own 3 (.slice A14 r9.2.2.1.length c14) (vI r9.2.2.1) :: blk g6 32 #[.int .i64 0, .int .i64 0, .slice none 0 0] :: blk g4 32 #[.int .i64 g1, .int .i64 g2, .slice A1 g3.length c1] :: own 3 (.slice A3 r2.1.length c3) (vI r2.1) :: own 3 (.slice A7 r6.2.length c7) (vI r6.2) :: blk g5 32 #[.int .i64 now1, .int .i64 now2, .slice A9 now3.length c9] :: own 3 (.slice A9 now3.length c9) (vI now3) :: fs) := hS
                              refine any_fin rfl (hS.pickN 7 [2, 3, 4, 5, 6] (by decide)) ?_
                              refine any_step [6] (by kernel_rfl) rfl ?_
                              refine (all_cons ?_ all_nil)
                              · refine any_op (listed' := #[true, true, true, true, true, true, true, false, false, true, false, false]) (by kernel_rfl) (by kernel_rfl) ?_
                                refine at_runW 1 [] [] [4, 9, 10, 19, 20, 21, 22, 23, 150] [pl 4 (.pointer (some ⟨g4, 0, none⟩)), pl 9 (.slice A3 r2.1.length c3), pl 10 (.int .i64 r2.2), pl 19 (.slice A7 r6.2.length c7), pl 20 (.int .i64 i2), pl 21 (.pointer (some ⟨g5, 0, none⟩)), pl 22 (.int .i64 k1), pl 23 (.pointer (some ⟨g6, 0, none⟩)), pl 150 (.tuple #[.agg #[.int .i64 r9.1, .int .i64 r9.2.1, .slice A14 r9.2.2.1.length c14], .bool r9.2.2.2])] hF hS (by kernel_rfl) (by kernel_rfl) ?_ (fun a hF => ?_)
                                · exact obs_nil
                                refine any_finI rfl (fun h => h) ?_
                                refine any_step [7, 8] (by kernel_rfl) rfl ?_
                                refine (all_cons ?_ (all_cons ?_ all_nil))
                                · refine any_op (listed' := #[true, true, true, true, true, true, true, true, false, true, false, false]) (by kernel_rfl) (by kernel_rfl) ?_
                                  refine at_runW 1 [] [] [4, 9, 10, 19, 20, 21, 22, 23, 150, 157] [pl 4 (.pointer (some ⟨g4, 0, none⟩)), pl 9 (.slice A3 r2.1.length c3), pl 10 (.int .i64 r2.2), pl 19 (.slice A7 r6.2.length c7), pl 20 (.int .i64 i2), pl 21 (.pointer (some ⟨g5, 0, none⟩)), pl 22 (.int .i64 k1), pl 23 (.pointer (some ⟨g6, 0, none⟩)), pl 150 (.tuple #[.agg #[.int .i64 r9.1, .int .i64 r9.2.1, .slice A14 r9.2.2.1.length c14], .bool r9.2.2.2]), pl 157 (.agg #[.int .i64 r9.1, .int .i64 r9.2.1, .slice A14 r9.2.2.1.length c14])] hF hS (by kernel_rfl) (by kernel_rfl) ?_ (fun a hF => ?_)
                                  · exact obs_nil
                                  refine any_finI rfl (fun h => h) ?_
                                  refine any_step [8, 10] (by kernel_rfl) rfl ?_
                                  refine (all_cons ?_ (all_cons ?_ all_nil))
                                  · refine any_op (listed' := #[true, true, true, true, true, true, true, true, true, true, false, false]) (by kernel_rfl) (by kernel_rfl) ?_
                                    refine at_runW 1 [] [] [4, 9, 10, 19, 20, 21, 22, 23, 157, 158] [pl 4 (.pointer (some ⟨g4, 0, none⟩)), pl 9 (.slice A3 r2.1.length c3), pl 10 (.int .i64 r2.2), pl 19 (.slice A7 r6.2.length c7), pl 20 (.int .i64 i2), pl 21 (.pointer (some ⟨g5, 0, none⟩)), pl 22 (.int .i64 k1), pl 23 (.pointer (some ⟨g6, 0, none⟩)), pl 157 (.agg #[.int .i64 r9.1, .int .i64 r9.2.1, .slice A14 r9.2.2.1.length c14]), pl 158 (.bool r9.2.2.2)] hF hS (by kernel_rfl) (by kernel_rfl) ?_ (fun a hF => ?_)
                                    · exact obs_nil
                                    refine any_finI rfl (fun h => h) ?_
                                    refine any_step [10] (by kernel_rfl) rfl ?_
                                    refine (all_cons ?_ all_nil)
                                    · refine any_op (listed' := #[true, true, true, true, true, true, true, true, true, true, true, false]) (by kernel_rfl) (by kernel_rfl) ?_
                                      obtain ⟨w, hrun, hS⟩ := run_putA (P := Try.prog) (t := 32) (us := #[.int .i64 r9.1, .int .i64 r9.2.1, .slice A14 r9.2.2.1.length c14]) (o := 0) (hS.at_ 1 rfl) (by kernel_rfl) (all_one (by kernel_rfl)) (Nat.le_of_ble_eq_true (by kernel_rfl))
                                      refine at_skip hF (by kernel_rfl) hrun ?_
                                      have hS : Sep w0 B w (own 3 (.slice A14 r9.2.2.1.length c14) (vI r9.2.2.1) :: blk g6 32 #[.int .i64 r9.1, .int .i64 r9.2.1, .slice A14 r9.2.2.1.length c14] :: blk g4 32 #[.int .i64 g1, .int .i64 g2, .slice A1 g3.length c1] :: own 3 (.slice A3 r2.1.length c3) (vI r2.1) :: own 3 (.slice A7 r6.2.length c7) (vI r6.2) :: blk g5 32 #[.int .i64 now1, .int .i64 now2, .slice A9 now3.length c9] :: own 3 (.slice A9 now3.length c9) (vI now3) :: fs) := hS
                                      refine any_fin rfl (hS.pickN 7 [2, 3, 4, 5, 6] (by decide)) ?_
                                      refine any_step [11] (by kernel_rfl) rfl ?_
                                      refine (all_cons ?_ all_nil)
                                      · refine any_op (listed' := #[true, true, true, true, true, true, true, true, true, true, true, true]) (by kernel_rfl) (by kernel_rfl) ?_
                                        refine at_runW 1 [] [] [4, 9, 10, 19, 20, 21, 22, 23, 24] [pl 4 (.pointer (some ⟨g4, 0, none⟩)), pl 9 (.slice A3 r2.1.length c3), pl 10 (.int .i64 r2.2), pl 19 (.slice A7 r6.2.length c7), pl 20 (.int .i64 i2), pl 21 (.pointer (some ⟨g5, 0, none⟩)), pl 22 (.int .i64 k1), pl 23 (.pointer (some ⟨g6, 0, none⟩)), pl 24 (.bool r9.2.2.2)] hF hS (by kernel_rfl) (by kernel_rfl) ?_ (fun a hF => ?_)
                                        · exact obs_nil
                                        refine any_finI rfl (fun h => h) ?_
                                        refine any_end (by kernel_rfl) ?_
                                        refine np_n ?_
                                        refine then_n ?_
                                        have hS := hS.pickN 7 [2, 3, 4, 5, 6, 1, 0] (by decide)
                                        exact ⟨r9.1, r9.2.1, r9.2.2.1, r9.2.2.2, g6, A14, c14, hF.weak [4, 9, 10, 19, 20, 21, 22, 23, 24] (by kernel_rfl), hS, hm⟩
                                  · refine any_op (listed' := #[true, true, true, true, true, true, true, true, false, true, true, false]) (by kernel_rfl) (by kernel_rfl) ?_
                                    obtain ⟨w, hrun, hS⟩ := run_putA (P := Try.prog) (t := 32) (us := #[.int .i64 r9.1, .int .i64 r9.2.1, .slice A14 r9.2.2.1.length c14]) (o := 0) (hS.at_ 1 rfl) (by kernel_rfl) (all_one (by kernel_rfl)) (Nat.le_of_ble_eq_true (by kernel_rfl))
                                    refine at_skip hF (by kernel_rfl) hrun ?_
                                    have hS : Sep w0 B w (own 3 (.slice A14 r9.2.2.1.length c14) (vI r9.2.2.1) :: blk g6 32 #[.int .i64 r9.1, .int .i64 r9.2.1, .slice A14 r9.2.2.1.length c14] :: blk g4 32 #[.int .i64 g1, .int .i64 g2, .slice A1 g3.length c1] :: own 3 (.slice A3 r2.1.length c3) (vI r2.1) :: own 3 (.slice A7 r6.2.length c7) (vI r6.2) :: blk g5 32 #[.int .i64 now1, .int .i64 now2, .slice A9 now3.length c9] :: own 3 (.slice A9 now3.length c9) (vI now3) :: fs) := hS
                                    refine any_fin rfl (hS.pickN 7 [2, 3, 4, 5, 6] (by decide)) ?_
                                    refine any_step [8] (by kernel_rfl) rfl ?_
                                    refine (all_cons ?_ all_nil)
                                    · refine any_op (listed' := #[true, true, true, true, true, true, true, true, true, true, true, false]) (by kernel_rfl) (by kernel_rfl) ?_
                                      refine at_runW 1 [] [] [4, 9, 10, 19, 20, 21, 22, 23, 158] [pl 4 (.pointer (some ⟨g4, 0, none⟩)), pl 9 (.slice A3 r2.1.length c3), pl 10 (.int .i64 r2.2), pl 19 (.slice A7 r6.2.length c7), pl 20 (.int .i64 i2), pl 21 (.pointer (some ⟨g5, 0, none⟩)), pl 22 (.int .i64 k1), pl 23 (.pointer (some ⟨g6, 0, none⟩)), pl 158 (.bool r9.2.2.2)] hF hS (by kernel_rfl) (by kernel_rfl) ?_ (fun a hF => ?_)
                                      · exact obs_nil
                                      refine any_finI rfl (fun h => h) ?_
                                      refine any_step [11] (by kernel_rfl) rfl ?_
                                      refine (all_cons ?_ all_nil)
                                      · refine any_op (listed' := #[true, true, true, true, true, true, true, true, true, true, true, true]) (by kernel_rfl) (by kernel_rfl) ?_
                                        refine at_runW 1 [] [] [4, 9, 10, 19, 20, 21, 22, 23, 24] [pl 4 (.pointer (some ⟨g4, 0, none⟩)), pl 9 (.slice A3 r2.1.length c3), pl 10 (.int .i64 r2.2), pl 19 (.slice A7 r6.2.length c7), pl 20 (.int .i64 i2), pl 21 (.pointer (some ⟨g5, 0, none⟩)), pl 22 (.int .i64 k1), pl 23 (.pointer (some ⟨g6, 0, none⟩)), pl 24 (.bool r9.2.2.2)] hF hS (by kernel_rfl) (by kernel_rfl) ?_ (fun a hF => ?_)
                                        · exact obs_nil
                                        refine any_finI rfl (fun h => h) ?_
                                        refine any_end (by kernel_rfl) ?_
                                        refine np_n ?_
                                        refine then_n ?_
                                        have hS := hS.pickN 7 [2, 3, 4, 5, 6, 1, 0] (by decide)
                                        exact ⟨r9.1, r9.2.1, r9.2.2.1, r9.2.2.2, g6, A14, c14, hF.weak [4, 9, 10, 19, 20, 21, 22, 23, 24] (by kernel_rfl), hS, hm⟩
                                · refine any_op (listed' := #[true, true, true, true, true, true, true, false, true, true, false, false]) (by kernel_rfl) (by kernel_rfl) ?_
                                  refine at_runW 1 [] [] [4, 9, 10, 19, 20, 21, 22, 23, 150, 158] [pl 4 (.pointer (some ⟨g4, 0, none⟩)), pl 9 (.slice A3 r2.1.length c3), pl 10 (.int .i64 r2.2), pl 19 (.slice A7 r6.2.length c7), pl 20 (.int .i64 i2), pl 21 (.pointer (some ⟨g5, 0, none⟩)), pl 22 (.int .i64 k1), pl 23 (.pointer (some ⟨g6, 0, none⟩)), pl 150 (.tuple #[.agg #[.int .i64 r9.1, .int .i64 r9.2.1, .slice A14 r9.2.2.1.length c14], .bool r9.2.2.2]), pl 158 (.bool r9.2.2.2)] hF hS (by kernel_rfl) (by kernel_rfl) ?_ (fun a hF => ?_)
                                  · exact obs_nil
                                  refine any_finI rfl (fun h => h) ?_
                                  refine any_step [7] (by kernel_rfl) rfl ?_
                                  refine (all_cons ?_ all_nil)
                                  · refine any_op (listed' := #[true, true, true, true, true, true, true, true, true, true, false, false]) (by kernel_rfl) (by kernel_rfl) ?_
                                    refine at_runW 1 [] [] [4, 9, 10, 19, 20, 21, 22, 23, 157, 158] [pl 4 (.pointer (some ⟨g4, 0, none⟩)), pl 9 (.slice A3 r2.1.length c3), pl 10 (.int .i64 r2.2), pl 19 (.slice A7 r6.2.length c7), pl 20 (.int .i64 i2), pl 21 (.pointer (some ⟨g5, 0, none⟩)), pl 22 (.int .i64 k1), pl 23 (.pointer (some ⟨g6, 0, none⟩)), pl 157 (.agg #[.int .i64 r9.1, .int .i64 r9.2.1, .slice A14 r9.2.2.1.length c14]), pl 158 (.bool r9.2.2.2)] hF hS (by kernel_rfl) (by kernel_rfl) ?_ (fun a hF => ?_)
                                    · exact obs_nil
                                    refine any_finI rfl (fun h => h) ?_
                                    refine any_step [10] (by kernel_rfl) rfl ?_
                                    refine (all_cons ?_ all_nil)
                                    · refine any_op (listed' := #[true, true, true, true, true, true, true, true, true, true, true, false]) (by kernel_rfl) (by kernel_rfl) ?_
                                      obtain ⟨w, hrun, hS⟩ := run_putA (P := Try.prog) (t := 32) (us := #[.int .i64 r9.1, .int .i64 r9.2.1, .slice A14 r9.2.2.1.length c14]) (o := 0) (hS.at_ 1 rfl) (by kernel_rfl) (all_one (by kernel_rfl)) (Nat.le_of_ble_eq_true (by kernel_rfl))
                                      refine at_skip hF (by kernel_rfl) hrun ?_
                                      have hS : Sep w0 B w (own 3 (.slice A14 r9.2.2.1.length c14) (vI r9.2.2.1) :: blk g6 32 #[.int .i64 r9.1, .int .i64 r9.2.1, .slice A14 r9.2.2.1.length c14] :: blk g4 32 #[.int .i64 g1, .int .i64 g2, .slice A1 g3.length c1] :: own 3 (.slice A3 r2.1.length c3) (vI r2.1) :: own 3 (.slice A7 r6.2.length c7) (vI r6.2) :: blk g5 32 #[.int .i64 now1, .int .i64 now2, .slice A9 now3.length c9] :: own 3 (.slice A9 now3.length c9) (vI now3) :: fs) := hS
                                      refine any_fin rfl (hS.pickN 7 [2, 3, 4, 5, 6] (by decide)) ?_
                                      refine any_step [11] (by kernel_rfl) rfl ?_
                                      refine (all_cons ?_ all_nil)
                                      · refine any_op (listed' := #[true, true, true, true, true, true, true, true, true, true, true, true]) (by kernel_rfl) (by kernel_rfl) ?_
                                        refine at_runW 1 [] [] [4, 9, 10, 19, 20, 21, 22, 23, 24] [pl 4 (.pointer (some ⟨g4, 0, none⟩)), pl 9 (.slice A3 r2.1.length c3), pl 10 (.int .i64 r2.2), pl 19 (.slice A7 r6.2.length c7), pl 20 (.int .i64 i2), pl 21 (.pointer (some ⟨g5, 0, none⟩)), pl 22 (.int .i64 k1), pl 23 (.pointer (some ⟨g6, 0, none⟩)), pl 24 (.bool r9.2.2.2)] hF hS (by kernel_rfl) (by kernel_rfl) ?_ (fun a hF => ?_)
                                        · exact obs_nil
                                        refine any_finI rfl (fun h => h) ?_
                                        refine any_end (by kernel_rfl) ?_
                                        refine np_n ?_
                                        refine then_n ?_
                                        have hS := hS.pickN 7 [2, 3, 4, 5, 6, 1, 0] (by decide)
                                        exact ⟨r9.1, r9.2.1, r9.2.2.1, r9.2.2.2, g6, A14, c14, hF.weak [4, 9, 10, 19, 20, 21, 22, 23, 24] (by kernel_rfl), hS, hm⟩
                    · refine reg [] [] [4, 9, 10, 19, 20, 21, 22, 147] [pl 4 (.pointer (some ⟨g4, 0, none⟩)), pl 9 (.slice A3 r2.1.length c3), pl 10 (.int .i64 r2.2), pl 19 (.slice A7 r6.2.length c7), pl 20 (.int .i64 i2), pl 21 (.pointer (some ⟨g5, 0, none⟩)), pl 22 (.int .i64 k1), pl 147 (.bool (decide (k1 < (r2.1.length : Int))))] hF hS Fol (by kernel_rfl) (by kernel_rfl) (by kernel_rfl) ?_ (fun a w hF hS => ?_)
                      · exact obs_nil
                      refine cond_ev (t := 147) (b := decide (k1 < (r2.1.length : Int))) hF (by kernel_rfl) (fun hb => ?_) (fun hb => ?_)
                      · replace hm := if_t hm hb
                        refine wpIn_skip ?_
                        refine then_n ?_
                        exact ⟨hF.weak [4, 9, 10, 19, 20, 21, 22] (by kernel_rfl), hS, hm⟩
                      · replace hm := if_f hm hb
                        refine wpIn_exit ?_
                        refine then_e (then_e (block_e (then_n ?_)))
                        rw [← hφ3] at hm
                        replace hm := done_b hm
                        unfold gameroomlaw_SlideHomes_K3 at hm
                        try dsimp only at hm
                        have hm : ((gameroomlaw_SlideHomes_J12 g1 g2 r2 r6 i2) now1 now2 now3).bind φ2 = some r := hm
                        exact ⟨now1, now2, now3, A9, c9, hF.weak [4, 9, 10, 19, 20, 21] (by kernel_rfl), hS, hm⟩
                · obtain ⟨hp4, hm⟩ := asrt_b hm
                  obtain ⟨r7, hr7, hm⟩ := call_b hm
                  refine reg [⟨true, [], vS (Instr.indexAt 38 (.slice A6 r6.1.length c6) (.int .i64 i2)), .pointer (some (sAddrK A6 3 i2))⟩, ⟨false, [], vS (Instr.loadAt 32 (.pointer (some (sAddrK A6 3 i2)))), .agg #[.int .i64 ((getd zP32 r6.1 i2).1), .int .i64 ((getd zP32 r6.1 i2).2.1), .slice ((getd rzP32 raw2 i2).2.2.1) (((getd zP32 r6.1 i2).2.2).length) ((getd rzP32 raw2 i2).2.2.2.2)]⟩, ⟨false, [], vS (Instr.loadAt 32 (.pointer (some ⟨g4, 0, none⟩))), .agg #[.int .i64 g1, .int .i64 g2, .slice A1 g3.length c1]⟩, ⟨false, [], callFunc 17 #[.agg #[.int .i64 ((getd zP32 r6.1 i2).1), .int .i64 ((getd zP32 r6.1 i2).2.1), .slice ((getd rzP32 raw2 i2).2.2.1) (((getd zP32 r6.1 i2).2.2).length) ((getd rzP32 raw2 i2).2.2.2.2)], .agg #[.int .i64 g1, .int .i64 g2, .slice A1 g3.length c1]], .bool r7⟩] [none, none, some (.pointer (some (sAddrK A6 3 i2))), some (.agg #[.int .i64 ((getd zP32 r6.1 i2).1), .int .i64 ((getd zP32 r6.1 i2).2.1), .slice ((getd rzP32 raw2 i2).2.2.1) (((getd zP32 r6.1 i2).2.2).length) ((getd rzP32 raw2 i2).2.2.2.2)]), some (.agg #[.int .i64 g1, .int .i64 g2, .slice A1 g3.length c1]), some (.bool r7), none] [4, 9, 10, 18, 19, 20, 141] [pl 4 (.pointer (some ⟨g4, 0, none⟩)), pl 9 (.slice A3 r2.1.length c3), pl 10 (.int .i64 r2.2), pl 18 (.slice A6 r6.1.length c6), pl 19 (.slice A7 r6.2.length c7), pl 20 (.int .i64 i2), pl 141 (.bool (!r7))] hF hS Fol (by kernel_rfl) (by kernel_rfl) (by kernel_rfl) ?_ (fun a w hF hS => ?_)
                  · exact obs_cons (ob_ixK (m := raw2) encPK32 Und38 hi32 hs32 (hp3.at_ hS 2 rfl) hp3.2.lenS (fun _ => hp4)) <| obs_cons (ob_getP (n := r6.1.length) (raw := raw2) encPK32 rzP32 (by kernel_rfl) (by kernel_rfl) (fun _ hS => ⟨_, (hp3.at_ hS 2 rfl)⟩) (fun _ hS => hp3.2.lenS) (fun _ => hp4) (val32 (PAll.any RelP32 hp3.2 i2))) <| obs_cons (ob_loadA (cs := #[.int .i64 g1, .int .i64 g2, .slice A1 g3.length c1]) (by kernel_rfl) (by kernel_rfl) (fun _ _ hS => (hS.at_ 0 rfl).cellsAt 0 (by rfl))) <| obs_cons (ob_call Try.func17 (by kernel_rfl) rfl (fun _ _ hS => gameroomref_SameGrid_w hr7 hS (fun _ hS => ((PAll.any RelP32 hp3.2 i2).2.2.2.2.at_ hS 2 rfl)) (PAll.any RelP32 hp3.2 i2).2.2.2.1 rfl (fun _ hS => (hr_g3 _ (hS.dropN 4))) _hc_g3 rfl)) <| obs_nil
                  refine cond_ev (t := 141) (b := !r7) hF (by kernel_rfl) (fun hb => ?_) (fun hb => ?_)
                  · replace hm := if_t hm hb
                    refine wpIn_exit ?_
                    refine then_e (block_e (then_n ?_))
                    exact ⟨hF.weak [4, 9, 10, 18, 19, 20] (by kernel_rfl), hS, hm⟩
                  · replace hm := if_f hm hb
                    refine wpIn_skip ?_
                    refine then_n ?_
                    have hS := hS.pickN 4 [0, 1, 3] (by decide)
                    exact ⟨hF.weak [4, 9, 10, 19, 20] (by kernel_rfl), hS, hm⟩
            · refine reg [] [] [4, 9, 10, 18, 19, 20, 132] [pl 4 (.pointer (some ⟨g4, 0, none⟩)), pl 9 (.slice A3 r2.1.length c3), pl 10 (.int .i64 r2.2), pl 18 (.slice A6 r6.1.length c6), pl 19 (.slice A7 r6.2.length c7), pl 20 (.int .i64 i2), pl 132 (.bool (decide (i2 < (r6.1.length : Int))))] hF hS Fol (by kernel_rfl) (by kernel_rfl) (by kernel_rfl) ?_ (fun a w hF hS => ?_)
              · exact obs_nil
              refine cond_ev (t := 132) (b := decide (i2 < (r6.1.length : Int))) hF (by kernel_rfl) (fun hb => ?_) (fun hb => ?_)
              · replace hm := if_t hm hb
                refine wpIn_skip ?_
                refine then_n ?_
                exact ⟨hF.weak [4, 9, 10, 18, 19, 20] (by kernel_rfl), hS, hm⟩
              · replace hm := if_f hm hb
                refine wpIn_exit ?_
                refine then_e (then_e (block_e (then_n ?_)))
                have hS := hS.pickN 4 [1] (by decide)
                rw [← hφ2] at hm
                replace hm := done_b hm
                unfold gameroomlaw_SlideHomes_K2 at hm
                try dsimp only at hm
                have hm : ((gameroomlaw_SlideHomes_J8 r2)).bind some = some r := hm
                exact ⟨hF.weak [9, 10] (by kernel_rfl), hS, hm⟩
        · refine reg [⟨false, [], vS (Instr.loadAt 22 (.pointer (some ⟨g4, 2, none⟩))), .slice A1 g3.length c1⟩] [none, some (.slice A1 g3.length c1), none, none] [4, 9, 10, 113] [pl 4 (.pointer (some ⟨g4, 0, none⟩)), pl 9 (.slice A3 r2.1.length c3), pl 10 (.int .i64 r2.2), pl 113 (.bool (decide ((6 : Int) < (g3.length : Int))))] hF hS Fol (by kernel_rfl) (by kernel_rfl) (by kernel_rfl) ?_ (fun a w hF hS => ?_)
          · exact obs_cons (ob_load Agg22 (fun _ _ hS => (hS.at_ 0 rfl).cell rfl)) <| obs_nil
          refine cond_ev (t := 113) (b := decide ((6 : Int) < (g3.length : Int))) hF (by kernel_rfl) (fun hb => ?_) (fun hb => ?_)
          · replace hm := if_t hm hb
            refine reg [] [] [8] [pl 8 (.bool ((r2.2 == 2) && ((r2.1.length : Int) == 0)))] hF hS Fol (by kernel_rfl) (by kernel_rfl) (by kernel_rfl) ?_ (fun a w hF hS => ?_)
            · exact obs_nil
            refine wpIn_ret ?_
            refine then_r ?_
            have hS := hS.pickN 2 [] (by decide)
            have hm : some ((r2.2 == 2) && ((r2.1.length : Int) == 0)) = some r := hm
            obtain rfl := Option.some.inj hm
            exact retV (rs := [.tmp 8]) (vs := [.bool ((r2.2 == 2) && ((r2.1.length : Int) == 0))]) hF rfl (rv_t (by kernel_rfl) <| rv_nil) rfl ⟨rfl, hS⟩
          · replace hm := if_f hm hb
            refine wpIn_skip ?_
            refine then_n ?_
            exact ⟨hF.weak [4, 9, 10] (by kernel_rfl), hS, hm⟩
      · obtain ⟨r5, hr5, hm⟩ := call_b hm
        refine reg [⟨false, [], vS (Instr.loadAt 32 (.pointer (some ⟨g4, 0, none⟩))), .agg #[.int .i64 g1, .int .i64 g2, .slice A1 g3.length c1]⟩, ⟨false, [], callFunc 16 #[.agg #[.int .i64 g1, .int .i64 g2, .slice A1 g3.length c1]], .bool r5⟩] [some (.agg #[.int .i64 g1, .int .i64 g2, .slice A1 g3.length c1]), some (.bool r5), none] [4, 9, 10, 102] [pl 4 (.pointer (some ⟨g4, 0, none⟩)), pl 9 (.slice A3 r2.1.length c3), pl 10 (.int .i64 r2.2), pl 102 (.bool (!r5))] hF hS Fol (by kernel_rfl) (by kernel_rfl) (by kernel_rfl) ?_ (fun a w hF hS => ?_)
        · exact obs_cons (ob_loadA (cs := #[.int .i64 g1, .int .i64 g2, .slice A1 g3.length c1]) (by kernel_rfl) (by kernel_rfl) (fun _ _ hS => (hS.at_ 0 rfl).cellsAt 0 (by rfl))) <| obs_cons (ob_call Try.func16 (by kernel_rfl) rfl (fun _ _ hS => gameroomref_SlideMay_w hr5 hS (fun _ hS => (hr_g3 _ (hS.dropN 2))) _hc_g3 rfl)) <| obs_nil
        refine cond_ev (t := 102) (b := !r5) hF (by kernel_rfl) (fun hb => ?_) (fun hb => ?_)
        · replace hm := if_t hm hb
          refine reg [] [] [8] [pl 8 (.bool ((r2.2 == 12) && ((r2.1.length : Int) == 0)))] hF hS Fol (by kernel_rfl) (by kernel_rfl) (by kernel_rfl) ?_ (fun a w hF hS => ?_)
          · exact obs_nil
          refine wpIn_ret ?_
          refine then_r ?_
          have hS := hS.pickN 2 [] (by decide)
          have hm : some ((r2.2 == 12) && ((r2.1.length : Int) == 0)) = some r := hm
          obtain rfl := Option.some.inj hm
          exact retV (rs := [.tmp 8]) (vs := [.bool ((r2.2 == 12) && ((r2.1.length : Int) == 0))]) hF rfl (rv_t (by kernel_rfl) <| rv_nil) rfl ⟨rfl, hS⟩
        · replace hm := if_f hm hb
          refine wpIn_skip ?_
          refine then_n ?_
          exact ⟨hF.weak [4, 9, 10] (by kernel_rfl), hS, hm⟩
    · refine reg [] [] [1, 2, 3, 4, 9, 10, 11, 12, 13, 65] [pl 1 (.int .i64 w1), pl 2 (.int .i64 h1), pl 3 (.int .i64 steps1), pl 4 (.pointer (some ⟨g4, 0, none⟩)), pl 9 (.slice A3 r2.1.length c3), pl 10 (.int .i64 r2.2), pl 11 (.int .i64 r3.1), pl 12 (.int .i64 r3.2), pl 13 (.int .i64 no1), pl 65 (.bool (no1 != 0))] hF hS Fol (by kernel_rfl) (by kernel_rfl) (by kernel_rfl) ?_ (fun a w hF hS => ?_)
      · exact obs_nil
      refine cond_ev (t := 65) (b := (no1 != 0)) hF (by kernel_rfl) (fun hb => ?_) (fun hb => ?_)
      · replace hm := if_t hm hb
        refine reg [] [] [4, 9, 10, 72] [pl 4 (.pointer (some ⟨g4, 0, none⟩)), pl 9 (.slice A3 r2.1.length c3), pl 10 (.int .i64 r2.2), pl 72 (.bool ((r3.2 != no1) || (r3.1 != 0)))] hF hS Fol (by kernel_rfl) (by kernel_rfl) (by kernel_rfl) ?_ (fun a w hF hS => ?_)
        · exact obs_nil
        refine cond_ev (t := 72) (b := (r3.2 != no1) || (r3.1 != 0)) hF (by kernel_rfl) (fun hb => ?_) (fun hb => ?_)
        · replace hm := if_t hm hb
          refine reg [] [] [8] [pl 8 (.bool false)] hF hS Fol (by kernel_rfl) (by kernel_rfl) (by kernel_rfl) ?_ (fun a w hF hS => ?_)
          · exact obs_nil
          refine wpIn_ret ?_
          refine then_r ?_
          have hS := hS.pickN 2 [] (by decide)
          have hm : some false = some r := hm
          obtain rfl := Option.some.inj hm
          exact retV (rs := [.tmp 8]) (vs := [.bool false]) hF rfl (rv_t (by kernel_rfl) <| rv_nil) rfl ⟨rfl, hS⟩
        · replace hm := if_f hm hb
          refine wpIn_skip ?_
          refine then_n ?_
          exact ⟨hF.weak [4, 9, 10] (by kernel_rfl), hS, hm⟩
      · replace hm := if_f hm hb
        refine seqR ?_
        obtain ⟨r4, hr4, hm⟩ := call_b hm
        refine at_run 2 [] [] [3, 4, 9, 10, 11, 12, 74, 75] [pl 3 (.int .i64 steps1), pl 4 (.pointer (some ⟨g4, 0, none⟩)), pl 9 (.slice A3 r2.1.length c3), pl 10 (.int .i64 r2.2), pl 11 (.int .i64 r3.1), pl 12 (.int .i64 r3.2), pl 74 (.int .i64 w1), pl 75 (.int .i64 h1)] hF hS (by kernel_rfl) (by kernel_rfl) ?_ (fun a w hF hS => ?_)
        · exact obs_nil
        refine at_call (f := 15) (args := #[.int .i64 w1, .int .i64 h1]) (d := 76) hF (by kernel_rfl) (by kernel_rfl) Try.func15 (by kernel_rfl) rfl (gameroomref_SlideFar_w hr4 hS ) (fun v a w hR hF => ?_)
        clear hS
        obtain ⟨pg1, A4, c4, raw1, A5, c5, rfl, hp1, hc1, hS⟩ := hR
        have hS : Sep w0 B w (pg1 :: own 3 (.slice A5 r4.2.length c5) (vI r4.2) :: blk g4 32 #[.int .i64 g1, .int .i64 g2, .slice A1 g3.length c1] :: own 3 (.slice A3 r2.1.length c3) (vI r2.1) :: fs) := hS
        refine at_run 5 [] [] [3, 4, 9, 10, 11, 12, 15] [pl 3 (.int .i64 steps1), pl 4 (.pointer (some ⟨g4, 0, none⟩)), pl 9 (.slice A3 r2.1.length c3), pl 10 (.int .i64 r2.2), pl 11 (.int .i64 r3.1), pl 12 (.int .i64 r3.2), pl 15 (.slice A5 r4.2.length c5)] hF hS (by kernel_rfl) (by kernel_rfl) ?_ (fun a w hF hS => ?_)
        · exact obs_nil
        refine at_end [3, 4, 9, 10, 11, 12, 15] [pl 3 (.int .i64 steps1), pl 4 (.pointer (some ⟨g4, 0, none⟩)), pl 9 (.slice A3 r2.1.length c3), pl 10 (.int .i64 r2.2), pl 11 (.int .i64 r3.1), pl 12 (.int .i64 r3.2), pl 15 (.slice A5 r4.2.length c5)] hF rfl (by kernel_rfl) (fun hF => ?_)
        refine then_n ?_
        refine reg [] [] [3, 4, 9, 10, 11, 12, 15, 16] [pl 3 (.int .i64 steps1), pl 4 (.pointer (some ⟨g4, 0, none⟩)), pl 9 (.slice A3 r2.1.length c3), pl 10 (.int .i64 r2.2), pl 11 (.int .i64 r3.1), pl 12 (.int .i64 r3.2), pl 15 (.slice A5 r4.2.length c5), pl 16 (.int .i64 0)] hF hS Fol (by kernel_rfl) (by kernel_rfl) (by kernel_rfl) ?_ (fun a w hF hS => ?_)
        · exact obs_nil
        refine seq_cut (fun a w => ∃ (many2 : Int), Fr 189 [pl 4 (.pointer (some ⟨g4, 0, none⟩)), pl 9 (.slice A3 r2.1.length c3), pl 10 (.int .i64 r2.2), pl 11 (.int .i64 r3.1), pl 12 (.int .i64 r3.2), pl 16 (.int .i64 many2)] a ∧ Sep w0 B w (blk g4 32 #[.int .i64 g1, .int .i64 g2, .slice A1 g3.length c1] :: own 3 (.slice A3 r2.1.length c3) (vI r2.1) :: fs) ∧ ((gameroomlaw_SlideHomes_J3 g1 g2 g3 r2 r3) many2).bind some = some r) ?_ ?_
        · rintro a w ⟨many2, hF, hS, hm⟩
          unfold gameroomlaw_SlideHomes_J3 at hm
          refine reg [] [] [4, 9, 10, 99] [pl 4 (.pointer (some ⟨g4, 0, none⟩)), pl 9 (.slice A3 r2.1.length c3), pl 10 (.int .i64 r2.2), pl 99 (.bool ((r3.2 != 0) || (r3.1 != many2)))] hF hS Fol (by kernel_rfl) (by kernel_rfl) (by kernel_rfl) ?_ (fun a w hF hS => ?_)
          · exact obs_nil
          refine cond_ev (t := 99) (b := (r3.2 != 0) || (r3.1 != many2)) hF (by kernel_rfl) (fun hb => ?_) (fun hb => ?_)
          · replace hm := if_t hm hb
            refine reg [] [] [8] [pl 8 (.bool false)] hF hS Fol (by kernel_rfl) (by kernel_rfl) (by kernel_rfl) ?_ (fun a w hF hS => ?_)
            · exact obs_nil
            refine wpIn_ret ?_
            refine then_r ?_
            have hS := hS.pickN 2 [] (by decide)
            have hm : some false = some r := hm
            obtain rfl := Option.some.inj hm
            exact retV (rs := [.tmp 8]) (vs := [.bool false]) hF rfl (rv_t (by kernel_rfl) <| rv_nil) rfl ⟨rfl, hS⟩
          · replace hm := if_f hm hb
            refine wpIn_skip ?_
            refine then_n ?_
            exact ⟨hF.weak [4, 9, 10] (by kernel_rfl), hS, hm⟩
        · refine reg [] [] [3, 4, 9, 10, 11, 12, 15, 16, 17] [pl 3 (.int .i64 steps1), pl 4 (.pointer (some ⟨g4, 0, none⟩)), pl 9 (.slice A3 r2.1.length c3), pl 10 (.int .i64 r2.2), pl 11 (.int .i64 r3.1), pl 12 (.int .i64 r3.2), pl 15 (.slice A5 r4.2.length c5), pl 16 (.int .i64 0), pl 17 (.int .i64 0)] hF hS Fol (by kernel_rfl) (by kernel_rfl) (by kernel_rfl) ?_ (fun a w hF hS => ?_)
          · exact obs_nil
          refine wpIn_block ?_
          have hS := hS.pickN 4 [2, 3, 1] (by decide)
          refine wp_loop_model (S := (Int × Int)) (R := Int) (gameroomlaw_SlideHomes_L1 steps1 r4) (fun x => ((gameroomlaw_SlideHomes_K1 g1 g2 g3 r2 r3) x).bind some) r (fun (x : (Int × Int)) a w => Fr 189 [pl 3 (.int .i64 steps1), pl 4 (.pointer (some ⟨g4, 0, none⟩)), pl 9 (.slice A3 r2.1.length c3), pl 10 (.int .i64 r2.2), pl 11 (.int .i64 r3.1), pl 12 (.int .i64 r3.2), pl 15 (.slice A5 r4.2.length c5), pl 16 (.int .i64 x.1), pl 17 (.int .i64 x.2)] a ∧ Sep w0 B w (blk g4 32 #[.int .i64 g1, .int .i64 g2, .slice A1 g3.length c1] :: own 3 (.slice A3 r2.1.length c3) (vI r2.1) :: own 3 (.slice A5 r4.2.length c5) (vI r4.2) :: fs)) (assoc_b hm) ⟨hF.weak [3, 4, 9, 10, 11, 12, 15, 16, 17] (by kernel_rfl), hS⟩ ?_
          clear hF hS hm
          rintro nn1 ⟨many1, i1⟩ a w ⟨hF, hS⟩ hm
          generalize hφ1 : stK (gameroomlaw_SlideHomes_L1 steps1 r4) nn1 (fun x => ((gameroomlaw_SlideHomes_K1 g1 g2 g3 r2 r3) x).bind some) = φ1 at hm
          unfold gameroomlaw_SlideHomes_L1 at hm
          dsimp only at hF hS hm
          refine seq_cut (fun a w => Fr 189 [pl 3 (.int .i64 steps1), pl 4 (.pointer (some ⟨g4, 0, none⟩)), pl 9 (.slice A3 r2.1.length c3), pl 10 (.int .i64 r2.2), pl 11 (.int .i64 r3.1), pl 12 (.int .i64 r3.2), pl 15 (.slice A5 r4.2.length c5), pl 16 (.int .i64 many1), pl 17 (.int .i64 i1)] a ∧ Sep w0 B w (blk g4 32 #[.int .i64 g1, .int .i64 g2, .slice A1 g3.length c1] :: own 3 (.slice A3 r2.1.length c3) (vI r2.1) :: own 3 (.slice A5 r4.2.length c5) (vI r4.2) :: fs) ∧ ((gameroomlaw_SlideHomes_J4 steps1 r4 many1 i1)).bind φ1 = some r) ?_ ?_
          · rintro a w ⟨hF, hS, hm⟩
            unfold gameroomlaw_SlideHomes_J4 at hm
            refine seq_cut (fun a w => ∃ (many3 : Int), Fr 189 [pl 3 (.int .i64 steps1), pl 4 (.pointer (some ⟨g4, 0, none⟩)), pl 9 (.slice A3 r2.1.length c3), pl 10 (.int .i64 r2.2), pl 11 (.int .i64 r3.1), pl 12 (.int .i64 r3.2), pl 15 (.slice A5 r4.2.length c5), pl 16 (.int .i64 many3), pl 17 (.int .i64 i1)] a ∧ Sep w0 B w (blk g4 32 #[.int .i64 g1, .int .i64 g2, .slice A1 g3.length c1] :: own 3 (.slice A3 r2.1.length c3) (vI r2.1) :: own 3 (.slice A5 r4.2.length c5) (vI r4.2) :: fs) ∧ ((gameroomlaw_SlideHomes_J5 i1) many3).bind φ1 = some r) ?_ ?_
            · rintro a w ⟨many3, hF, hS, hm⟩
              unfold gameroomlaw_SlideHomes_J5 at hm
              refine reg1 [] [] [3, 4, 9, 10, 11, 12, 15, 16, 17] [pl 3 (.int .i64 steps1), pl 4 (.pointer (some ⟨g4, 0, none⟩)), pl 9 (.slice A3 r2.1.length c3), pl 10 (.int .i64 r2.2), pl 11 (.int .i64 r3.1), pl 12 (.int .i64 r3.2), pl 15 (.slice A5 r4.2.length c5), pl 16 (.int .i64 many3), pl 17 (.int .i64 (w64 (i1 + 1)))] hF hS Fol (by kernel_rfl) (by kernel_rfl) (by kernel_rfl) ?_ (fun a w hF hS => ?_)
              · exact obs_nil
              refine then_n ?_
              rw [← hφ1] at hm
              exact ⟨(many3, (w64 (i1 + 1))), ⟨hF.weak [3, 4, 9, 10, 11, 12, 15, 16, 17] (by kernel_rfl), hS⟩, hm⟩
            · refine wpIn_block ?_
              obtain ⟨hp2, hm⟩ := asrt_b hm
              refine reg [⟨true, [], vS (Instr.indexAt 22 (.slice A5 r4.2.length c5) (.int .i64 i1)), .pointer (some (sAddr A5 i1))⟩, ⟨false, [], vS (Instr.loadAt 3 (.pointer (some (sAddr A5 i1)))), .int .i64 (geti r4.2 i1)⟩] [none, none, some (.pointer (some (sAddr A5 i1))), some (.int .i64 (geti r4.2 i1)), none, none] [3, 4, 9, 10, 11, 12, 15, 16, 17, 90] [pl 3 (.int .i64 steps1), pl 4 (.pointer (some ⟨g4, 0, none⟩)), pl 9 (.slice A3 r2.1.length c3), pl 10 (.int .i64 r2.2), pl 11 (.int .i64 r3.1), pl 12 (.int .i64 r3.2), pl 15 (.slice A5 r4.2.length c5), pl 16 (.int .i64 many1), pl 17 (.int .i64 i1), pl 90 (.bool ((geti r4.2 i1) == steps1))] hF hS Fol (by kernel_rfl) (by kernel_rfl) (by kernel_rfl) ?_ (fun a w hF hS => ?_)
              · exact obs_cons (ob_ix1 (f := (Value.int .i64)) (m := r4.2) Und22 hi3 hs3 (hS.at_ 2 rfl).rd rfl (fun _ => hp2)) <| obs_cons (ob_get1 (n := r4.2.length) (m := r4.2) (Value.int .i64) (0 : Int) Agg3 (fun _ hS => ⟨_, (hS.at_ 2 rfl).rd⟩) (fun _ hS => rfl) (fun _ => hp2)) <| obs_nil
              refine cond_ev (t := 90) (b := ((geti r4.2 i1) == steps1)) hF (by kernel_rfl) (fun hb => ?_) (fun hb => ?_)
              · replace hm := if_t hm hb
                refine reg1 [] [] [3, 4, 9, 10, 11, 12, 15, 16, 17] [pl 3 (.int .i64 steps1), pl 4 (.pointer (some ⟨g4, 0, none⟩)), pl 9 (.slice A3 r2.1.length c3), pl 10 (.int .i64 r2.2), pl 11 (.int .i64 r3.1), pl 12 (.int .i64 r3.2), pl 15 (.slice A5 r4.2.length c5), pl 16 (.int .i64 (w64 (many1 + 1))), pl 17 (.int .i64 i1)] hF hS Fol (by kernel_rfl) (by kernel_rfl) (by kernel_rfl) ?_ (fun a w hF hS => ?_)
                · exact obs_nil
                refine block_n ?_
                refine then_n ?_
                exact ⟨(w64 (many1 + 1)), hF.weak [3, 4, 9, 10, 11, 12, 15, 16, 17] (by kernel_rfl), hS, hm⟩
              · replace hm := if_f hm hb
                refine wpIn_skip ?_
                refine block_n ?_
                refine then_n ?_
                exact ⟨many1, hF.weak [3, 4, 9, 10, 11, 12, 15, 16, 17] (by kernel_rfl), hS, hm⟩
          · refine reg [] [] [3, 4, 9, 10, 11, 12, 15, 16, 17, 82] [pl 3 (.int .i64 steps1), pl 4 (.pointer (some ⟨g4, 0, none⟩)), pl 9 (.slice A3 r2.1.length c3), pl 10 (.int .i64 r2.2), pl 11 (.int .i64 r3.1), pl 12 (.int .i64 r3.2), pl 15 (.slice A5 r4.2.length c5), pl 16 (.int .i64 many1), pl 17 (.int .i64 i1), pl 82 (.bool (decide (i1 < (r4.2.length : Int))))] hF hS Fol (by kernel_rfl) (by kernel_rfl) (by kernel_rfl) ?_ (fun a w hF hS => ?_)
            · exact obs_nil
            refine cond_ev (t := 82) (b := decide (i1 < (r4.2.length : Int))) hF (by kernel_rfl) (fun hb => ?_) (fun hb => ?_)
            · replace hm := if_t hm hb
              refine wpIn_skip ?_
              refine then_n ?_
              exact ⟨hF.weak [3, 4, 9, 10, 11, 12, 15, 16, 17] (by kernel_rfl), hS, hm⟩
            · replace hm := if_f hm hb
              refine wpIn_exit ?_
              refine then_e (then_e (block_e (then_n ?_)))
              have hS := hS.pickN 3 [0, 1] (by decide)
              rw [← hφ1] at hm
              replace hm := done_b hm
              unfold gameroomlaw_SlideHomes_K1 at hm
              try dsimp only at hm
              have hm : ((gameroomlaw_SlideHomes_J3 g1 g2 g3 r2 r3) many1).bind some = some r := hm
              exact ⟨many1, hF.weak [4, 9, 10, 11, 12, 16] (by kernel_rfl), hS, hm⟩
  · refine reg [] [] [1, 2, 3, 4, 9, 10, 11, 12, 13, 57] [pl 1 (.int .i64 w1), pl 2 (.int .i64 h1), pl 3 (.int .i64 steps1), pl 4 (.pointer (some ⟨g4, 0, none⟩)), pl 9 (.slice A3 r2.1.length c3), pl 10 (.int .i64 r2.2), pl 11 (.int .i64 r3.1), pl 12 (.int .i64 r3.2), pl 13 (.int .i64 0), pl 57 (.bool (((((decide (w1 < 2)) || (decide ((5 : Int) < w1))) || (decide (h1 < 2))) || (decide ((5 : Int) < h1))) || (decide ((6 : Int) < (w64 (w1 * h1))))))] hF hS Fol (by kernel_rfl) (by kernel_rfl) (by kernel_rfl) ?_ (fun a w hF hS => ?_)
    · exact obs_nil
    refine cond_ev (t := 57) (b := ((((decide (w1 < 2)) || (decide ((5 : Int) < w1))) || (decide (h1 < 2))) || (decide ((5 : Int) < h1))) || (decide ((6 : Int) < (w64 (w1 * h1))))) hF (by kernel_rfl) (fun hb => ?_) (fun hb => ?_)
    · replace hm := if_t hm hb
      refine reg1 [] [] [1, 2, 3, 4, 9, 10, 11, 12, 13] [pl 1 (.int .i64 w1), pl 2 (.int .i64 h1), pl 3 (.int .i64 steps1), pl 4 (.pointer (some ⟨g4, 0, none⟩)), pl 9 (.slice A3 r2.1.length c3), pl 10 (.int .i64 r2.2), pl 11 (.int .i64 r3.1), pl 12 (.int .i64 r3.2), pl 13 (.int .i64 2)] hF hS Fol (by kernel_rfl) (by kernel_rfl) (by kernel_rfl) ?_ (fun a w hF hS => ?_)
      · exact obs_nil
      refine then_n ?_
      have hS := hS.pickN 3 [2, 0] (by decide)
      exact ⟨2, hF.weak [1, 2, 3, 4, 9, 10, 11, 12, 13] (by kernel_rfl), hS, hm⟩
    · replace hm := if_f hm hb
      refine reg [] [] [1, 2, 3, 4, 9, 10, 11, 12, 13, 63] [pl 1 (.int .i64 w1), pl 2 (.int .i64 h1), pl 3 (.int .i64 steps1), pl 4 (.pointer (some ⟨g4, 0, none⟩)), pl 9 (.slice A3 r2.1.length c3), pl 10 (.int .i64 r2.2), pl 11 (.int .i64 r3.1), pl 12 (.int .i64 r3.2), pl 13 (.int .i64 0), pl 63 (.bool ((decide (steps1 < 0)) || (decide ((40 : Int) < steps1))))] hF hS Fol (by kernel_rfl) (by kernel_rfl) (by kernel_rfl) ?_ (fun a w hF hS => ?_)
      · exact obs_nil
      refine cond_ev (t := 63) (b := (decide (steps1 < 0)) || (decide ((40 : Int) < steps1))) hF (by kernel_rfl) (fun hb => ?_) (fun hb => ?_)
      · replace hm := if_t hm hb
        refine reg1 [] [] [1, 2, 3, 4, 9, 10, 11, 12, 13] [pl 1 (.int .i64 w1), pl 2 (.int .i64 h1), pl 3 (.int .i64 steps1), pl 4 (.pointer (some ⟨g4, 0, none⟩)), pl 9 (.slice A3 r2.1.length c3), pl 10 (.int .i64 r2.2), pl 11 (.int .i64 r3.1), pl 12 (.int .i64 r3.2), pl 13 (.int .i64 3)] hF hS Fol (by kernel_rfl) (by kernel_rfl) (by kernel_rfl) ?_ (fun a w hF hS => ?_)
        · exact obs_nil
        refine then_n ?_
        have hS := hS.pickN 3 [2, 0] (by decide)
        exact ⟨3, hF.weak [1, 2, 3, 4, 9, 10, 11, 12, 13] (by kernel_rfl), hS, hm⟩
      · replace hm := if_f hm hb
        refine wpIn_skip ?_
        refine then_n ?_
        have hS := hS.pickN 3 [2, 0] (by decide)
        exact ⟨0, hF.weak [1, 2, 3, 4, 9, 10, 11, 12, 13] (by kernel_rfl), hS, hm⟩

end Go.Proofs.Ytkpkkdpfcbnfdaa
