/-
  Models and walks, printed by our own program (wip/gen).
-/
import Derived.Test.YtgafnmnacolgbaaFB
import Derived.Test.YtgafnmnacolgbaaSH
import Derived.Test.YtgafnmnacolgbaaNSa
namespace Go.Proofs.Ytgafnmnacolgbaa
open Go Go.GL Go.RowKit

noncomputable def gameroomref_regionOf_m (g1 : Int) (g2 : Int) (g3 : List Int) (place1 : Int) (marked1 : List Bool) : Option (List Bool) :=
  asrt ((0 : Int) ≤ (g3.length : Int) ∧ (g3.length : Int) ≤ bigN) <| asrt (0 ≤ place1 ∧ place1 < (((Int.toNat (g3.length : Int)) : Nat) : Int)) <| (loop (gameroomref_regionOf_L1 g1 g2 g3 marked1) (((List.replicate (Int.toNat (g3.length : Int)) false).set (Int.toNat place1) true), true)).bind gameroomref_regionOf_K1

set_option maxRecDepth 100000 in
set_option maxHeartbeats 4000000 in
theorem gameroomref_regionOf_w {g1 : Int} {g2 : Int} {A1 : Option Addr} {c1 : Nat} {n1 : Nat} {g3 : List Int} {place1 : Int} {A2 : Option Addr} {c2 : Nat} {n2 : Nat} {marked1 : List Bool} {r : (List Bool)} {w0 w : World} {B : Nat} {fs : List HP} (hm : gameroomref_regionOf_m g1 g2 g3 place1 marked1 = some r) (hS : Sep w0 B w (fs)) (hr_g3 : RdF w0 B fs A1 (vI g3)) (_hc_g3 : g3.length ≤ c1) (_hn_g3 : n1 = g3.length) (hr_marked1 : RdF w0 B fs A2 (vB marked1)) (_hc_marked1 : marked1.length ≤ c2) (_hn_marked1 : n2 = marked1.length) :
    Calls Try.prog 133 #[.agg #[.int .i64 g1, .int .i64 g2, .slice A1 n1 c1], .int .i64 place1, .slice A2 n2 c2] w fun e w' => ∃ v, e = .returned v ∧ ∃ (A4 : Option Addr) (c4 : Nat), v = .slice A4 r.length c4 ∧ Sep w0 B w' (own 4 (.slice A4 r.length c4) (vB r) :: fs) := by
  obtain ⟨i3, hi3, hz3, hs3, hb3⟩ := info_parts Info3
  obtain ⟨i4, hi4, hz4, hs4, hb4⟩ := info_parts Info4
  obtain rfl := _hn_g3
  obtain rfl := _hn_marked1
  unfold gameroomref_regionOf_m at hm
  replace hm := start_b hm
  refine enter (l := [.agg #[.int .i64 g1, .int .i64 g2, .slice A1 g3.length c1], .int .i64 place1, .slice A2 marked1.length c2]) (n := 57) Try.func133 rfl rfl (by simp) (fun a hF => ?_)
  refine seqR ?_
  refine at_do (d := 3) (s := vS (Instr.box 93 (.agg #[.int .i64 g1, .int .i64 g2, .slice A1 g3.length c1]))) (v := .pointer (some ⟨w.heap.size, 0, none⟩)) (w' := w.alloc (.cells #[.int .i64 g1, .int .i64 g2, .slice A1 g3.length c1] 93)) hF (by kernel_rfl) (by kernel_rfl) (by kernel_rfl) (fun a hF => ?_)
  have hS : Sep w0 B (w.alloc (.cells #[.int .i64 g1, .int .i64 g2, .slice A1 g3.length c1] 93)) (blk w.heap.size 93 #[.int .i64 g1, .int .i64 g2, .slice A1 g3.length c1] :: (fs)) := hS.box 93 #[.int .i64 g1, .int .i64 g2, .slice A1 g3.length c1]
  generalize w.heap.size = g4 at hF hS
  generalize w.alloc (.cells #[.int .i64 g1, .int .i64 g2, .slice A1 g3.length c1] 93) = w at hS ⊢
  refine at_run 1 [] [] [1, 2, 3] [pl 1 (.int .i64 place1), pl 2 (.slice A2 marked1.length c2), pl 3 (.pointer (some ⟨g4, 0, none⟩))] hF hS (by kernel_rfl) (by kernel_rfl) ?_ (fun a w hF hS => ?_)
  · exact obs_nil
  refine at_end [1, 2, 3] [pl 1 (.int .i64 place1), pl 2 (.slice A2 marked1.length c2), pl 3 (.pointer (some ⟨g4, 0, none⟩))] hF rfl (by kernel_rfl) (fun hF => ?_)
  refine then_n ?_
  refine seqR ?_
  obtain ⟨hp1, hm⟩ := asrt_b hm
  refine at_run 3 [⟨false, [], vS (Instr.loadAt 34 (.pointer (some ⟨g4, 2, none⟩))), .slice A1 g3.length c1⟩] [none, some (.slice A1 g3.length c1), none] [1, 2, 3, 13] [pl 1 (.int .i64 place1), pl 2 (.slice A2 marked1.length c2), pl 3 (.pointer (some ⟨g4, 0, none⟩)), pl 13 (.int .i64 (g3.length : Int))] hF hS (by kernel_rfl) (by kernel_rfl) ?_ (fun a w hF hS => ?_)
  · exact obs_cons (ob_load Agg34 (fun _ _ hS => (hS.at_ 0 rfl).cell rfl)) <| obs_nil
  obtain ⟨A3, c3, w, hrun, hS⟩ := run_mk1 (P := Try.prog) (t := 151) Value.bool false hS .i64 .i64 Und151 hi4 hz4 hs4 (by omega) rfl hp1
  have hS : Sep w0 B w (own 4 (.slice A3 (Int.toNat (g3.length : Int)) c3) (vB (List.replicate (Int.toNat (g3.length : Int)) false)) :: blk g4 93 #[.int .i64 g1, .int .i64 g2, .slice A1 g3.length c1] :: fs) := hS
  refine at_do (d := 14) hF (by kernel_rfl) (by kernel_rfl) hrun (fun a hF => ?_)
  refine at_run 1 [] [] [1, 2, 3, 7] [pl 1 (.int .i64 place1), pl 2 (.slice A2 marked1.length c2), pl 3 (.pointer (some ⟨g4, 0, none⟩)), pl 7 (.slice A3 (Int.toNat (g3.length : Int)) c3)] hF hS (by kernel_rfl) (by kernel_rfl) ?_ (fun a w hF hS => ?_)
  · exact obs_nil
  refine at_end [1, 2, 3, 7] [pl 1 (.int .i64 place1), pl 2 (.slice A2 marked1.length c2), pl 3 (.pointer (some ⟨g4, 0, none⟩)), pl 7 (.slice A3 (Int.toNat (g3.length : Int)) c3)] hF rfl (by kernel_rfl) (fun hF => ?_)
  refine then_n ?_
  refine seqR ?_
  obtain ⟨hp2, hm⟩ := asrt_b hm
  refine at_run 3 [⟨true, [], vS (Instr.indexAt 151 (.slice A3 (Int.toNat (g3.length : Int)) c3) (.int .i64 place1)), .pointer (some (sAddr A3 place1))⟩] [none, none, some (.pointer (some (sAddr A3 place1)))] [2, 3, 7, 17] [pl 2 (.slice A2 marked1.length c2), pl 3 (.pointer (some ⟨g4, 0, none⟩)), pl 7 (.slice A3 (Int.toNat (g3.length : Int)) c3), pl 17 (.pointer (some (sAddr A3 place1)))] hF hS (by kernel_rfl) (by kernel_rfl) ?_ (fun a w hF hS => ?_)
  · exact obs_cons (ob_ix1 (f := Value.bool) (m := (List.replicate (Int.toNat (g3.length : Int)) false)) Und151 hi4 hs4 (hS.at_ 0 rfl).rd ((hS.at_ 0 rfl).len1) (fun _ => hp2)) <| obs_nil
  obtain ⟨w, hrun, hS⟩ := run_set1 (P := Try.prog) (t := 4) (x := true) Value.bool (hS.at_ 0 rfl) hi4 hs4 rfl rfl hp2
  refine at_skip hF (by kernel_rfl) hrun ?_
  have hS : Sep w0 B w (own 4 (.slice A3 (Int.toNat (g3.length : Int)) c3) (vB ((List.replicate (Int.toNat (g3.length : Int)) false).set (Int.toNat place1) true)) :: blk g4 93 #[.int .i64 g1, .int .i64 g2, .slice A1 g3.length c1] :: fs) := hS
  refine at_end [2, 3, 7] [pl 2 (.slice A2 marked1.length c2), pl 3 (.pointer (some ⟨g4, 0, none⟩)), pl 7 (.slice A3 (Int.toNat (g3.length : Int)) c3)] hF rfl (by kernel_rfl) (fun hF => ?_)
  refine then_n ?_
  refine seq_cut (fun a w => ∃ (in2 : List Bool), Fr 57 [pl 7 (.slice A3 (Int.toNat (g3.length : Int)) c3)] a ∧ Sep w0 B w (own 4 (.slice A3 (Int.toNat (g3.length : Int)) c3) (vB in2) :: fs) ∧ (gameroomref_regionOf_J1 in2).bind some = some r) ?_ ?_
  · rintro a w ⟨in2, hF, hS, hm⟩
    unfold gameroomref_regionOf_J1 at hm
    refine reg [] [] [6] [pl 6 (.slice A3 (Int.toNat (g3.length : Int)) c3)] hF hS Fol (by kernel_rfl) (by kernel_rfl) (by kernel_rfl) ?_ (fun a w hF hS => ?_)
    · exact obs_nil
    refine wp_ret ?_
    have hl1 := (hS.at_ 0 rfl).len1
    have hS := (hS.at_ 0 rfl).reN hl1
    have hS : Sep w0 B w (own 4 (.slice A3 in2.length c3) (vB in2) :: fs) := hS
    have hF := hF.cast (t := 6) (v := .slice A3 (Int.toNat (g3.length : Int)) c3) (v' := .slice A3 in2.length c3) rfl rfl (congrArg (fun k => Value.slice A3 k c3) hl1)
    have hm : some in2 = some r := hm
    obtain rfl := Option.some.inj hm
    exact retV (rs := [.tmp 6]) (vs := [.slice A3 in2.length c3]) hF rfl (rv_t (by kernel_rfl) <| rv_nil) rfl ⟨_, rfl, A3, c3, rfl, hS⟩
  · refine reg [] [] [2, 3, 7, 8] [pl 2 (.slice A2 marked1.length c2), pl 3 (.pointer (some ⟨g4, 0, none⟩)), pl 7 (.slice A3 (Int.toNat (g3.length : Int)) c3), pl 8 (.bool true)] hF hS Fol (by kernel_rfl) (by kernel_rfl) (by kernel_rfl) ?_ (fun a w hF hS => ?_)
    · exact obs_nil
    refine wp_block ?_
    have hS := hS.pickN 2 [1, 0] (by decide)
    refine wp_loop_model (S := (List Bool × Bool)) (R := (List Bool)) (gameroomref_regionOf_L1 g1 g2 g3 marked1) (fun x => (gameroomref_regionOf_K1 x).bind some) r (fun (x : (List Bool × Bool)) a w => Fr 57 [pl 2 (.slice A2 marked1.length c2), pl 3 (.pointer (some ⟨g4, 0, none⟩)), pl 7 (.slice A3 (Int.toNat (g3.length : Int)) c3), pl 8 (.bool x.2)] a ∧ Sep w0 B w (blk g4 93 #[.int .i64 g1, .int .i64 g2, .slice A1 g3.length c1] :: own 4 (.slice A3 (Int.toNat (g3.length : Int)) c3) (vB x.1) :: fs)) (assoc_b hm) ⟨hF.weak [2, 3, 7, 8] (by kernel_rfl), hS⟩ ?_
    clear hF hS hm
    rintro nn1 ⟨in1, changed1⟩ a w ⟨hF, hS⟩ hm
    generalize hφ1 : stK (gameroomref_regionOf_L1 g1 g2 g3 marked1) nn1 (fun x => (gameroomref_regionOf_K1 x).bind some) = φ1 at hm
    unfold gameroomref_regionOf_L1 at hm
    dsimp only at hF hS hm
    refine seq_cut (fun a w => Fr 57 [pl 2 (.slice A2 marked1.length c2), pl 3 (.pointer (some ⟨g4, 0, none⟩)), pl 7 (.slice A3 (Int.toNat (g3.length : Int)) c3)] a ∧ Sep w0 B w (blk g4 93 #[.int .i64 g1, .int .i64 g2, .slice A1 g3.length c1] :: own 4 (.slice A3 (Int.toNat (g3.length : Int)) c3) (vB in1) :: fs) ∧ ((gameroomref_regionOf_J2 g1 g2 g3 marked1 in1)).bind φ1 = some r) ?_ ?_
    · rintro a w ⟨hF, hS, hm⟩
      unfold gameroomref_regionOf_J2 at hm
      refine wp_block ?_
      refine reg [] [] [2, 3, 7, 8] [pl 2 (.slice A2 marked1.length c2), pl 3 (.pointer (some ⟨g4, 0, none⟩)), pl 7 (.slice A3 (Int.toNat (g3.length : Int)) c3), pl 8 (.bool false)] hF hS Fol (by kernel_rfl) (by kernel_rfl) (by kernel_rfl) ?_ (fun a w hF hS => ?_)
      · exact obs_nil
      refine reg [] [] [2, 3, 7, 8, 9] [pl 2 (.slice A2 marked1.length c2), pl 3 (.pointer (some ⟨g4, 0, none⟩)), pl 7 (.slice A3 (Int.toNat (g3.length : Int)) c3), pl 8 (.bool false), pl 9 (.int .i64 0)] hF hS Fol (by kernel_rfl) (by kernel_rfl) (by kernel_rfl) ?_ (fun a w hF hS => ?_)
      · exact obs_nil
      refine wp_block ?_
      refine wp_loop_model (S := (List Bool × Bool × Int)) (R := (List Bool × Bool)) (gameroomref_regionOf_L2 g1 g2 g3 marked1) (fun x => (gameroomref_regionOf_K2 x).bind φ1) r (fun (x : (List Bool × Bool × Int)) a w => Fr 57 [pl 2 (.slice A2 marked1.length c2), pl 3 (.pointer (some ⟨g4, 0, none⟩)), pl 7 (.slice A3 (Int.toNat (g3.length : Int)) c3), pl 8 (.bool x.2.1), pl 9 (.int .i64 x.2.2)] a ∧ Sep w0 B w (blk g4 93 #[.int .i64 g1, .int .i64 g2, .slice A1 g3.length c1] :: own 4 (.slice A3 (Int.toNat (g3.length : Int)) c3) (vB x.1) :: fs)) (assoc_b hm) ⟨hF.weak [2, 3, 7, 8, 9] (by kernel_rfl), hS⟩ ?_
      clear hF hS hm
      rintro nn2 ⟨in3, changed2, a1⟩ a w ⟨hF, hS⟩ hm
      generalize hφ2 : stK (gameroomref_regionOf_L2 g1 g2 g3 marked1) nn2 (fun x => (gameroomref_regionOf_K2 x).bind φ1) = φ2 at hm
      unfold gameroomref_regionOf_L2 at hm
      dsimp only at hF hS hm
      refine seq_cut (fun a w => Fr 57 [pl 2 (.slice A2 marked1.length c2), pl 3 (.pointer (some ⟨g4, 0, none⟩)), pl 7 (.slice A3 (Int.toNat (g3.length : Int)) c3), pl 8 (.bool changed2), pl 9 (.int .i64 a1)] a ∧ Sep w0 B w (blk g4 93 #[.int .i64 g1, .int .i64 g2, .slice A1 g3.length c1] :: own 4 (.slice A3 (Int.toNat (g3.length : Int)) c3) (vB in3) :: fs) ∧ ((gameroomref_regionOf_J3 g1 g2 g3 marked1 in3 changed2 a1)).bind φ2 = some r) ?_ ?_
      · rintro a w ⟨hF, hS, hm⟩
        unfold gameroomref_regionOf_J3 at hm
        refine seq_cut (fun a w => ∃ (in4 : List Bool) (changed3 : Bool), Fr 57 [pl 2 (.slice A2 marked1.length c2), pl 3 (.pointer (some ⟨g4, 0, none⟩)), pl 7 (.slice A3 (Int.toNat (g3.length : Int)) c3), pl 8 (.bool changed3), pl 9 (.int .i64 a1)] a ∧ Sep w0 B w (blk g4 93 #[.int .i64 g1, .int .i64 g2, .slice A1 g3.length c1] :: own 4 (.slice A3 (Int.toNat (g3.length : Int)) c3) (vB in4) :: fs) ∧ ((gameroomref_regionOf_J4 a1) in4 changed3).bind φ2 = some r) ?_ ?_
        · rintro a w ⟨in4, changed3, hF, hS, hm⟩
          unfold gameroomref_regionOf_J4 at hm
          refine reg1 [] [] [2, 3, 7, 8, 9] [pl 2 (.slice A2 marked1.length c2), pl 3 (.pointer (some ⟨g4, 0, none⟩)), pl 7 (.slice A3 (Int.toNat (g3.length : Int)) c3), pl 8 (.bool changed3), pl 9 (.int .i64 (w64 (a1 + 1)))] hF hS Fol (by kernel_rfl) (by kernel_rfl) (by kernel_rfl) ?_ (fun a w hF hS => ?_)
          · exact obs_nil
          refine then_n ?_
          rw [← hφ2] at hm
          exact ⟨(in4, changed3, (w64 (a1 + 1))), ⟨hF.weak [2, 3, 7, 8, 9] (by kernel_rfl), hS⟩, hm⟩
        · refine wp_block ?_
          refine seq_cut (fun a w => Fr 57 [pl 2 (.slice A2 marked1.length c2), pl 3 (.pointer (some ⟨g4, 0, none⟩)), pl 7 (.slice A3 (Int.toNat (g3.length : Int)) c3), pl 8 (.bool changed2), pl 9 (.int .i64 a1)] a ∧ Sep w0 B w (blk g4 93 #[.int .i64 g1, .int .i64 g2, .slice A1 g3.length c1] :: own 4 (.slice A3 (Int.toNat (g3.length : Int)) c3) (vB in3) :: fs) ∧ ((gameroomref_regionOf_J5 g1 g2 g3 marked1 in3 changed2 a1)).bind φ2 = some r) ?_ ?_
          · rintro a w ⟨hF, hS, hm⟩
            unfold gameroomref_regionOf_J5 at hm
            refine reg [] [] [2, 3, 7, 8, 9, 10] [pl 2 (.slice A2 marked1.length c2), pl 3 (.pointer (some ⟨g4, 0, none⟩)), pl 7 (.slice A3 (Int.toNat (g3.length : Int)) c3), pl 8 (.bool changed2), pl 9 (.int .i64 a1), pl 10 (.int .i64 0)] hF hS Fol (by kernel_rfl) (by kernel_rfl) (by kernel_rfl) ?_ (fun a w hF hS => ?_)
            · exact obs_nil
            refine wp_block ?_
            refine wp_loop_model (S := (List Bool × Bool × Int)) (R := (List Bool × Bool)) (gameroomref_regionOf_L3 g1 g2 g3 marked1 a1) (fun x => ((gameroomref_regionOf_K3 a1) x).bind φ2) r (fun (x : (List Bool × Bool × Int)) a w => Fr 57 [pl 2 (.slice A2 marked1.length c2), pl 3 (.pointer (some ⟨g4, 0, none⟩)), pl 7 (.slice A3 (Int.toNat (g3.length : Int)) c3), pl 8 (.bool x.2.1), pl 9 (.int .i64 a1), pl 10 (.int .i64 x.2.2)] a ∧ Sep w0 B w (blk g4 93 #[.int .i64 g1, .int .i64 g2, .slice A1 g3.length c1] :: own 4 (.slice A3 (Int.toNat (g3.length : Int)) c3) (vB x.1) :: fs)) (assoc_b hm) ⟨hF.weak [2, 3, 7, 8, 9, 10] (by kernel_rfl), hS⟩ ?_
            clear hF hS hm
            rintro nn3 ⟨in5, changed4, b1⟩ a w ⟨hF, hS⟩ hm
            generalize hφ3 : stK (gameroomref_regionOf_L3 g1 g2 g3 marked1 a1) nn3 (fun x => ((gameroomref_regionOf_K3 a1) x).bind φ2) = φ3 at hm
            unfold gameroomref_regionOf_L3 at hm
            dsimp only at hF hS hm
            refine seq_cut (fun a w => Fr 57 [pl 2 (.slice A2 marked1.length c2), pl 3 (.pointer (some ⟨g4, 0, none⟩)), pl 7 (.slice A3 (Int.toNat (g3.length : Int)) c3), pl 8 (.bool changed4), pl 9 (.int .i64 a1), pl 10 (.int .i64 b1)] a ∧ Sep w0 B w (blk g4 93 #[.int .i64 g1, .int .i64 g2, .slice A1 g3.length c1] :: own 4 (.slice A3 (Int.toNat (g3.length : Int)) c3) (vB in5) :: fs) ∧ ((gameroomref_regionOf_J6 g1 g2 g3 marked1 a1 in5 changed4 b1)).bind φ3 = some r) ?_ ?_
            · rintro a w ⟨hF, hS, hm⟩
              unfold gameroomref_regionOf_J6 at hm
              refine seq_cut (fun a w => ∃ (in6 : List Bool) (changed5 : Bool), Fr 57 [pl 2 (.slice A2 marked1.length c2), pl 3 (.pointer (some ⟨g4, 0, none⟩)), pl 7 (.slice A3 (Int.toNat (g3.length : Int)) c3), pl 8 (.bool changed5), pl 9 (.int .i64 a1), pl 10 (.int .i64 b1)] a ∧ Sep w0 B w (blk g4 93 #[.int .i64 g1, .int .i64 g2, .slice A1 g3.length c1] :: own 4 (.slice A3 (Int.toNat (g3.length : Int)) c3) (vB in6) :: fs) ∧ ((gameroomref_regionOf_J7 b1) in6 changed5).bind φ3 = some r) ?_ ?_
              · rintro a w ⟨in6, changed5, hF, hS, hm⟩
                unfold gameroomref_regionOf_J7 at hm
                refine reg1 [] [] [2, 3, 7, 8, 9, 10] [pl 2 (.slice A2 marked1.length c2), pl 3 (.pointer (some ⟨g4, 0, none⟩)), pl 7 (.slice A3 (Int.toNat (g3.length : Int)) c3), pl 8 (.bool changed5), pl 9 (.int .i64 a1), pl 10 (.int .i64 (w64 (b1 + 1)))] hF hS Fol (by kernel_rfl) (by kernel_rfl) (by kernel_rfl) ?_ (fun a w hF hS => ?_)
                · exact obs_nil
                refine then_n ?_
                rw [← hφ3] at hm
                exact ⟨(in6, changed5, (w64 (b1 + 1))), ⟨hF.weak [2, 3, 7, 8, 9, 10] (by kernel_rfl), hS⟩, hm⟩
              · refine wp_block ?_
                obtain ⟨hp4, hm⟩ := asrt_b hm
                obtain ⟨hp5, hm⟩ := asrt_b hm
                obtain ⟨r1, hr1, hm⟩ := call_b hm
                refine reg [⟨true, [], vS (Instr.indexAt 151 (.slice A2 marked1.length c2) (.int .i64 b1)), .pointer (some (sAddr A2 b1))⟩, ⟨false, [], vS (Instr.loadAt 4 (.pointer (some (sAddr A2 b1)))), .bool (getb marked1 b1)⟩, ⟨true, [(getb marked1 b1, true)], vS (Instr.indexAt 151 (.slice A3 (Int.toNat (g3.length : Int)) c3) (.int .i64 b1)), .pointer (some (sAddr A3 b1))⟩, ⟨false, [(getb marked1 b1, true)], vS (Instr.loadAt 4 (.pointer (some (sAddr A3 b1)))), .bool (getb in5 b1)⟩, ⟨false, [((getb marked1 b1) && (!(getb in5 b1)), true)], vS (Instr.loadAt 93 (.pointer (some ⟨g4, 0, none⟩))), .agg #[.int .i64 g1, .int .i64 g2, .slice A1 g3.length c1]⟩, ⟨false, [((getb marked1 b1) && (!(getb in5 b1)), true)], callFunc 174 #[.agg #[.int .i64 g1, .int .i64 g2, .slice A1 g3.length c1], .int .i64 a1, .int .i64 b1], .bool r1⟩] [none, none, some (.pointer (some (sAddr A2 b1))), some (.bool (getb marked1 b1)), none, none, none, some (.pointer (some (sAddr A3 b1))), some (.bool (getb in5 b1)), none, none, none, some (.agg #[.int .i64 g1, .int .i64 g2, .slice A1 g3.length c1]), none, none, some (.bool r1), none] [2, 3, 7, 8, 9, 10, 52] [pl 2 (.slice A2 marked1.length c2), pl 3 (.pointer (some ⟨g4, 0, none⟩)), pl 7 (.slice A3 (Int.toNat (g3.length : Int)) c3), pl 8 (.bool changed4), pl 9 (.int .i64 a1), pl 10 (.int .i64 b1), pl 52 (.bool (((getb marked1 b1) && (!(getb in5 b1))) && r1))] hF hS Fol (by kernel_rfl) (by kernel_rfl) (by kernel_rfl) ?_ (fun a w hF hS => ?_)
                · exact obs_cons (ob_ix1 (f := Value.bool) (m := marked1) Und151 hi4 hs4 (hr_marked1 _ (hS.dropN 2)) rfl (fun _ => hp4)) <| obs_cons (ob_get1 (n := marked1.length) (m := marked1) Value.bool false Agg4 (fun _ hS => ⟨_, (hr_marked1 _ (hS.dropN 2))⟩) (fun _ hS => rfl) (fun _ => hp4)) <| obs_cons (ob_ix1 (f := Value.bool) (m := in5) Und151 hi4 hs4 (hS.at_ 1 rfl).rd ((hS.at_ 1 rfl).len1) (fun hy => hp5 (hy (getb marked1 b1, true) (by simp)))) <| obs_cons (ob_get1 (n := (Int.toNat (g3.length : Int))) (m := in5) Value.bool false Agg4 (fun _ hS => ⟨_, (hS.at_ 1 rfl).rd⟩) (fun _ hS => ((hS.at_ 1 rfl).len1)) (fun hy => hp5 (hy (getb marked1 b1, true) (by simp)))) <| obs_cons (ob_loadA (cs := #[.int .i64 g1, .int .i64 g2, .slice A1 g3.length c1]) (by kernel_rfl) (by kernel_rfl) (fun _ _ hS => (hS.at_ 0 rfl).cellsAt 0 (by rfl))) <| obs_cons (ob_call Try.func174 (by kernel_rfl) rfl (fun hy _ hS => gameroomref_beside_w (ite_some hr1 (by rw [show ((getb marked1 b1) && (!(getb in5 b1))) = true from hy ((getb marked1 b1) && (!(getb in5 b1)), true) (by simp)]; try rfl)) hS (fun _ hS => (hr_g3 _ (hS.dropN 2))) _hc_g3 rfl)) <| obs_nil
                refine cond_ev (t := 52) (b := ((getb marked1 b1) && (!(getb in5 b1))) && r1) hF (by kernel_rfl) (fun hb => ?_) (fun hb => ?_)
                · replace hm := if_t hm hb
                  refine seqR ?_
                  obtain ⟨hp6, hm⟩ := asrt_b hm
                  refine at_run 3 [⟨true, [], vS (Instr.indexAt 151 (.slice A3 (Int.toNat (g3.length : Int)) c3) (.int .i64 b1)), .pointer (some (sAddr A3 b1))⟩] [none, none, some (.pointer (some (sAddr A3 b1)))] [2, 3, 7, 9, 10, 55] [pl 2 (.slice A2 marked1.length c2), pl 3 (.pointer (some ⟨g4, 0, none⟩)), pl 7 (.slice A3 (Int.toNat (g3.length : Int)) c3), pl 9 (.int .i64 a1), pl 10 (.int .i64 b1), pl 55 (.pointer (some (sAddr A3 b1)))] hF hS (by kernel_rfl) (by kernel_rfl) ?_ (fun a w hF hS => ?_)
                  · exact obs_cons (ob_ix1 (f := Value.bool) (m := in5) Und151 hi4 hs4 (hS.at_ 1 rfl).rd ((hS.at_ 1 rfl).len1) (fun _ => hp6)) <| obs_nil
                  obtain ⟨w, hrun, hS⟩ := run_set1 (P := Try.prog) (t := 4) (x := true) Value.bool (hS.at_ 1 rfl) hi4 hs4 rfl rfl hp6
                  refine at_skip hF (by kernel_rfl) hrun ?_
                  have hS : Sep w0 B w (blk g4 93 #[.int .i64 g1, .int .i64 g2, .slice A1 g3.length c1] :: own 4 (.slice A3 (Int.toNat (g3.length : Int)) c3) (vB (in5.set (Int.toNat b1) true)) :: fs) := hS
                  refine at_end [2, 3, 7, 9, 10] [pl 2 (.slice A2 marked1.length c2), pl 3 (.pointer (some ⟨g4, 0, none⟩)), pl 7 (.slice A3 (Int.toNat (g3.length : Int)) c3), pl 9 (.int .i64 a1), pl 10 (.int .i64 b1)] hF rfl (by kernel_rfl) (fun hF => ?_)
                  refine then_n ?_
                  refine reg1 [] [] [2, 3, 7, 8, 9, 10] [pl 2 (.slice A2 marked1.length c2), pl 3 (.pointer (some ⟨g4, 0, none⟩)), pl 7 (.slice A3 (Int.toNat (g3.length : Int)) c3), pl 8 (.bool true), pl 9 (.int .i64 a1), pl 10 (.int .i64 b1)] hF hS Fol (by kernel_rfl) (by kernel_rfl) (by kernel_rfl) ?_ (fun a w hF hS => ?_)
                  · exact obs_nil
                  refine block_n ?_
                  refine then_n ?_
                  exact ⟨(in5.set (Int.toNat b1) true), true, hF.weak [2, 3, 7, 8, 9, 10] (by kernel_rfl), hS, hm⟩
                · replace hm := if_f hm hb
                  refine wp_skip ?_
                  refine block_n ?_
                  refine then_n ?_
                  exact ⟨in5, changed4, hF.weak [2, 3, 7, 8, 9, 10] (by kernel_rfl), hS, hm⟩
            · refine reg [] [] [2, 3, 7, 8, 9, 10, 33] [pl 2 (.slice A2 marked1.length c2), pl 3 (.pointer (some ⟨g4, 0, none⟩)), pl 7 (.slice A3 (Int.toNat (g3.length : Int)) c3), pl 8 (.bool changed4), pl 9 (.int .i64 a1), pl 10 (.int .i64 b1), pl 33 (.bool (decide (b1 < (((Int.toNat (g3.length : Int)) : Nat) : Int))))] hF hS Fol (by kernel_rfl) (by kernel_rfl) (by kernel_rfl) ?_ (fun a w hF hS => ?_)
              · exact obs_nil
              refine cond_ev (t := 33) (b := decide (b1 < (((Int.toNat (g3.length : Int)) : Nat) : Int))) hF (by kernel_rfl) (fun hb => ?_) (fun hb => ?_)
              · replace hm := if_t hm hb
                refine wp_skip ?_
                refine then_n ?_
                exact ⟨hF.weak [2, 3, 7, 8, 9, 10] (by kernel_rfl), hS, hm⟩
              · replace hm := if_f hm hb
                refine wp_exit ?_
                refine then_e (then_e (block_e (block_n (then_n ?_))))
                rw [← hφ3] at hm
                replace hm := done_b hm
                unfold gameroomref_regionOf_K3 at hm
                try dsimp only at hm
                have hm : ((gameroomref_regionOf_J4 a1) in5 changed4).bind φ2 = some r := hm
                exact ⟨in5, changed4, hF.weak [2, 3, 7, 8, 9] (by kernel_rfl), hS, hm⟩
          · obtain ⟨hp3, hm⟩ := asrt_b hm
            refine reg [⟨true, [], vS (Instr.indexAt 151 (.slice A3 (Int.toNat (g3.length : Int)) c3) (.int .i64 a1)), .pointer (some (sAddr A3 a1))⟩, ⟨false, [], vS (Instr.loadAt 4 (.pointer (some (sAddr A3 a1)))), .bool (getb in3 a1)⟩] [none, none, some (.pointer (some (sAddr A3 a1))), some (.bool (getb in3 a1)), none] [2, 3, 7, 8, 9, 29] [pl 2 (.slice A2 marked1.length c2), pl 3 (.pointer (some ⟨g4, 0, none⟩)), pl 7 (.slice A3 (Int.toNat (g3.length : Int)) c3), pl 8 (.bool changed2), pl 9 (.int .i64 a1), pl 29 (.bool (!(getb in3 a1)))] hF hS Fol (by kernel_rfl) (by kernel_rfl) (by kernel_rfl) ?_ (fun a w hF hS => ?_)
            · exact obs_cons (ob_ix1 (f := Value.bool) (m := in3) Und151 hi4 hs4 (hS.at_ 1 rfl).rd ((hS.at_ 1 rfl).len1) (fun _ => hp3)) <| obs_cons (ob_get1 (n := (Int.toNat (g3.length : Int))) (m := in3) Value.bool false Agg4 (fun _ hS => ⟨_, (hS.at_ 1 rfl).rd⟩) (fun _ hS => ((hS.at_ 1 rfl).len1)) (fun _ => hp3)) <| obs_nil
            refine cond_ev (t := 29) (b := !(getb in3 a1)) hF (by kernel_rfl) (fun hb => ?_) (fun hb => ?_)
            · replace hm := if_t hm hb
              refine wp_exit ?_
              refine then_e (block_e (then_n ?_))
              exact ⟨in3, changed2, hF.weak [2, 3, 7, 8, 9] (by kernel_rfl), hS, hm⟩
            · replace hm := if_f hm hb
              refine wp_skip ?_
              refine then_n ?_
              exact ⟨hF.weak [2, 3, 7, 8, 9] (by kernel_rfl), hS, hm⟩
      · refine reg [] [] [2, 3, 7, 8, 9, 22] [pl 2 (.slice A2 marked1.length c2), pl 3 (.pointer (some ⟨g4, 0, none⟩)), pl 7 (.slice A3 (Int.toNat (g3.length : Int)) c3), pl 8 (.bool changed2), pl 9 (.int .i64 a1), pl 22 (.bool (decide (a1 < (((Int.toNat (g3.length : Int)) : Nat) : Int))))] hF hS Fol (by kernel_rfl) (by kernel_rfl) (by kernel_rfl) ?_ (fun a w hF hS => ?_)
        · exact obs_nil
        refine cond_ev (t := 22) (b := decide (a1 < (((Int.toNat (g3.length : Int)) : Nat) : Int))) hF (by kernel_rfl) (fun hb => ?_) (fun hb => ?_)
        · replace hm := if_t hm hb
          refine wp_skip ?_
          refine then_n ?_
          exact ⟨hF.weak [2, 3, 7, 8, 9] (by kernel_rfl), hS, hm⟩
        · replace hm := if_f hm hb
          refine wp_exit ?_
          refine then_e (then_e (block_e (block_n (then_n ?_))))
          rw [← hφ2] at hm
          replace hm := done_b hm
          unfold gameroomref_regionOf_K2 at hm
          try dsimp only at hm
          have hm : (some (.next (in3, changed2))).bind φ1 = some r := hm
          rw [← hφ1] at hm
          exact ⟨(in3, changed2), ⟨hF.weak [2, 3, 7, 8] (by kernel_rfl), hS⟩, hm⟩
    · refine reg [] [] [2, 3, 7, 18] [pl 2 (.slice A2 marked1.length c2), pl 3 (.pointer (some ⟨g4, 0, none⟩)), pl 7 (.slice A3 (Int.toNat (g3.length : Int)) c3), pl 18 (.bool changed1)] hF hS Fol (by kernel_rfl) (by kernel_rfl) (by kernel_rfl) ?_ (fun a w hF hS => ?_)
      · exact obs_nil
      refine cond_ev (t := 18) (b := changed1) hF (by kernel_rfl) (fun hb => ?_) (fun hb => ?_)
      · replace hm := if_t hm hb
        refine wp_skip ?_
        refine then_n ?_
        exact ⟨hF.weak [2, 3, 7] (by kernel_rfl), hS, hm⟩
      · replace hm := if_f hm hb
        refine wp_exit ?_
        refine then_e (then_e (block_e (then_n ?_)))
        have hS := hS.pickN 2 [1] (by decide)
        rw [← hφ1] at hm
        replace hm := done_b hm
        unfold gameroomref_regionOf_K1 at hm
        try dsimp only at hm
        have hm : (gameroomref_regionOf_J1 in1).bind some = some r := hm
        exact ⟨in1, hF.weak [7] (by kernel_rfl), hS, hm⟩

noncomputable def gameroomref_besideAny_J3 (i1 : Int) : Option (St Int (Fl Unit Bool)) :=
  some (.next (w64 (i1 + 1)))

noncomputable def gameroomref_besideAny_J2 (g1 : Int) (g2 : Int) (g3 : List Int) (place1 : Int) (in1 : List Bool) (i1 : Int) : Option (St Int (Fl Unit Bool)) :=
  asrt (0 ≤ i1 ∧ i1 < (in1.length : Int)) <| ((if (getb in1 i1) then gameroomref_beside_m g1 g2 g3 i1 place1 else some false)).bind fun r1 => if ((getb in1 i1) && r1) then (some (.done (.ret true))) else ((gameroomref_besideAny_J3 i1))

noncomputable def gameroomref_besideAny_J1 : Option Bool :=
  some false

noncomputable def gameroomref_besideAny_K1 : (Fl Unit Bool) → Option Bool :=
  fun (x : (Fl Unit Bool)) => match x with | .go _ => gameroomref_besideAny_J1 | .ret x => some x

noncomputable def gameroomref_besideAny_L1 (g1 : Int) (g2 : Int) (g3 : List Int) (place1 : Int) (in1 : List Bool) : Int → Option (St Int (Fl Unit Bool)) :=
  fun (x : Int) => match x with | i1 => if (decide (i1 < (in1.length : Int))) then ((gameroomref_besideAny_J2 g1 g2 g3 place1 in1 i1)) else (some (.done (.go ())))

noncomputable def gameroomref_besideAny_m (g1 : Int) (g2 : Int) (g3 : List Int) (place1 : Int) (in1 : List Bool) : Option Bool :=
  (loop (gameroomref_besideAny_L1 g1 g2 g3 place1 in1) 0).bind gameroomref_besideAny_K1

set_option maxRecDepth 100000 in
set_option maxHeartbeats 4000000 in
theorem gameroomref_besideAny_w {g1 : Int} {g2 : Int} {A1 : Option Addr} {c1 : Nat} {n1 : Nat} {g3 : List Int} {place1 : Int} {A2 : Option Addr} {c2 : Nat} {n2 : Nat} {in1 : List Bool} {r : Bool} {w0 w : World} {B : Nat} {fs : List HP} (hm : gameroomref_besideAny_m g1 g2 g3 place1 in1 = some r) (hS : Sep w0 B w (fs)) (hr_g3 : RdF w0 B fs A1 (vI g3)) (_hc_g3 : g3.length ≤ c1) (_hn_g3 : n1 = g3.length) (hr_in1 : RdF w0 B fs A2 (vB in1)) (_hc_in1 : in1.length ≤ c2) (_hn_in1 : n2 = in1.length) :
    Calls Try.prog 135 #[.agg #[.int .i64 g1, .int .i64 g2, .slice A1 n1 c1], .int .i64 place1, .slice A2 n2 c2] w fun e w' => e = .returned (.bool r) ∧ Sep w0 B w' (fs) := by
  obtain ⟨i3, hi3, hz3, hs3, hb3⟩ := info_parts Info3
  obtain ⟨i4, hi4, hz4, hs4, hb4⟩ := info_parts Info4
  obtain rfl := _hn_g3
  obtain rfl := _hn_in1
  unfold gameroomref_besideAny_m at hm
  replace hm := start_b hm
  refine enter (l := [.agg #[.int .i64 g1, .int .i64 g2, .slice A1 g3.length c1], .int .i64 place1, .slice A2 in1.length c2]) (n := 24) Try.func135 rfl rfl (by simp) (fun a hF => ?_)
  refine seqR ?_
  refine at_do (d := 3) (s := vS (Instr.box 93 (.agg #[.int .i64 g1, .int .i64 g2, .slice A1 g3.length c1]))) (v := .pointer (some ⟨w.heap.size, 0, none⟩)) (w' := w.alloc (.cells #[.int .i64 g1, .int .i64 g2, .slice A1 g3.length c1] 93)) hF (by kernel_rfl) (by kernel_rfl) (by kernel_rfl) (fun a hF => ?_)
  have hS : Sep w0 B (w.alloc (.cells #[.int .i64 g1, .int .i64 g2, .slice A1 g3.length c1] 93)) (blk w.heap.size 93 #[.int .i64 g1, .int .i64 g2, .slice A1 g3.length c1] :: (fs)) := hS.box 93 #[.int .i64 g1, .int .i64 g2, .slice A1 g3.length c1]
  generalize w.heap.size = g4 at hF hS
  generalize w.alloc (.cells #[.int .i64 g1, .int .i64 g2, .slice A1 g3.length c1] 93) = w at hS ⊢
  refine at_run 1 [] [] [1, 2, 3] [pl 1 (.int .i64 place1), pl 2 (.slice A2 in1.length c2), pl 3 (.pointer (some ⟨g4, 0, none⟩))] hF hS (by kernel_rfl) (by kernel_rfl) ?_ (fun a w hF hS => ?_)
  · exact obs_nil
  refine at_end [1, 2, 3] [pl 1 (.int .i64 place1), pl 2 (.slice A2 in1.length c2), pl 3 (.pointer (some ⟨g4, 0, none⟩))] hF rfl (by kernel_rfl) (fun hF => ?_)
  refine then_n ?_
  refine seq_cut (fun a w => Fr 24 [] a ∧ Sep w0 B w (fs) ∧ (gameroomref_besideAny_J1).bind some = some r) ?_ ?_
  · rintro a w ⟨hF, hS, hm⟩
    unfold gameroomref_besideAny_J1 at hm
    refine reg [] [] [6] [pl 6 (.bool false)] hF hS Fol (by kernel_rfl) (by kernel_rfl) (by kernel_rfl) ?_ (fun a w hF hS => ?_)
    · exact obs_nil
    refine wp_ret ?_
    have hm : some false = some r := hm
    obtain rfl := Option.some.inj hm
    exact retV (rs := [.tmp 6]) (vs := [.bool false]) hF rfl (rv_t (by kernel_rfl) <| rv_nil) rfl ⟨rfl, hS⟩
  · refine reg [] [] [1, 2, 3, 7] [pl 1 (.int .i64 place1), pl 2 (.slice A2 in1.length c2), pl 3 (.pointer (some ⟨g4, 0, none⟩)), pl 7 (.int .i64 0)] hF hS Fol (by kernel_rfl) (by kernel_rfl) (by kernel_rfl) ?_ (fun a w hF hS => ?_)
    · exact obs_nil
    refine wp_block ?_
    refine wp_loop_model (S := Int) (R := (Fl Unit Bool)) (gameroomref_besideAny_L1 g1 g2 g3 place1 in1) (fun x => (gameroomref_besideAny_K1 x).bind some) r (fun (x : Int) a w => Fr 24 [pl 1 (.int .i64 place1), pl 2 (.slice A2 in1.length c2), pl 3 (.pointer (some ⟨g4, 0, none⟩)), pl 7 (.int .i64 x)] a ∧ Sep w0 B w (blk g4 93 #[.int .i64 g1, .int .i64 g2, .slice A1 g3.length c1] :: fs)) (assoc_b hm) ⟨hF.weak [1, 2, 3, 7] (by kernel_rfl), hS⟩ ?_
    clear hF hS hm
    rintro nn1 i1 a w ⟨hF, hS⟩ hm
    generalize hφ1 : stK (gameroomref_besideAny_L1 g1 g2 g3 place1 in1) nn1 (fun x => (gameroomref_besideAny_K1 x).bind some) = φ1 at hm
    unfold gameroomref_besideAny_L1 at hm
    dsimp only at hm
    refine seq_cut (fun a w => Fr 24 [pl 1 (.int .i64 place1), pl 2 (.slice A2 in1.length c2), pl 3 (.pointer (some ⟨g4, 0, none⟩)), pl 7 (.int .i64 i1)] a ∧ Sep w0 B w (blk g4 93 #[.int .i64 g1, .int .i64 g2, .slice A1 g3.length c1] :: fs) ∧ ((gameroomref_besideAny_J2 g1 g2 g3 place1 in1 i1)).bind φ1 = some r) ?_ ?_
    · rintro a w ⟨hF, hS, hm⟩
      unfold gameroomref_besideAny_J2 at hm
      refine seq_cut (fun a w => Fr 24 [pl 1 (.int .i64 place1), pl 2 (.slice A2 in1.length c2), pl 3 (.pointer (some ⟨g4, 0, none⟩)), pl 7 (.int .i64 i1)] a ∧ Sep w0 B w (blk g4 93 #[.int .i64 g1, .int .i64 g2, .slice A1 g3.length c1] :: fs) ∧ ((gameroomref_besideAny_J3 i1)).bind φ1 = some r) ?_ ?_
      · rintro a w ⟨hF, hS, hm⟩
        unfold gameroomref_besideAny_J3 at hm
        refine reg1 [] [] [1, 2, 3, 7] [pl 1 (.int .i64 place1), pl 2 (.slice A2 in1.length c2), pl 3 (.pointer (some ⟨g4, 0, none⟩)), pl 7 (.int .i64 (w64 (i1 + 1)))] hF hS Fol (by kernel_rfl) (by kernel_rfl) (by kernel_rfl) ?_ (fun a w hF hS => ?_)
        · exact obs_nil
        refine then_n ?_
        rw [← hφ1] at hm
        exact ⟨(w64 (i1 + 1)), ⟨hF.weak [1, 2, 3, 7] (by kernel_rfl), hS⟩, hm⟩
      · refine wp_block ?_
        obtain ⟨hp1, hm⟩ := asrt_b hm
        obtain ⟨r1, hr1, hm⟩ := call_b hm
        refine reg [⟨true, [], vS (Instr.indexAt 151 (.slice A2 in1.length c2) (.int .i64 i1)), .pointer (some (sAddr A2 i1))⟩, ⟨false, [], vS (Instr.loadAt 4 (.pointer (some (sAddr A2 i1)))), .bool (getb in1 i1)⟩, ⟨false, [(getb in1 i1, true)], vS (Instr.loadAt 93 (.pointer (some ⟨g4, 0, none⟩))), .agg #[.int .i64 g1, .int .i64 g2, .slice A1 g3.length c1]⟩, ⟨false, [(getb in1 i1, true)], callFunc 174 #[.agg #[.int .i64 g1, .int .i64 g2, .slice A1 g3.length c1], .int .i64 i1, .int .i64 place1], .bool r1⟩] [none, none, some (.pointer (some (sAddr A2 i1))), some (.bool (getb in1 i1)), none, some (.agg #[.int .i64 g1, .int .i64 g2, .slice A1 g3.length c1]), none, none, some (.bool r1), none] [1, 2, 3, 7, 23] [pl 1 (.int .i64 place1), pl 2 (.slice A2 in1.length c2), pl 3 (.pointer (some ⟨g4, 0, none⟩)), pl 7 (.int .i64 i1), pl 23 (.bool ((getb in1 i1) && r1))] hF hS Fol (by kernel_rfl) (by kernel_rfl) (by kernel_rfl) ?_ (fun a w hF hS => ?_)
        · exact obs_cons (ob_ix1 (f := Value.bool) (m := in1) Und151 hi4 hs4 (hr_in1 _ (hS.dropN 1)) rfl (fun _ => hp1)) <| obs_cons (ob_get1 (n := in1.length) (m := in1) Value.bool false Agg4 (fun _ hS => ⟨_, (hr_in1 _ (hS.dropN 1))⟩) (fun _ hS => rfl) (fun _ => hp1)) <| obs_cons (ob_loadA (cs := #[.int .i64 g1, .int .i64 g2, .slice A1 g3.length c1]) (by kernel_rfl) (by kernel_rfl) (fun _ _ hS => (hS.at_ 0 rfl).cellsAt 0 (by rfl))) <| obs_cons (ob_call Try.func174 (by kernel_rfl) rfl (fun hy _ hS => gameroomref_beside_w (ite_some hr1 (by rw [show (getb in1 i1) = true from hy (getb in1 i1, true) (by simp)]; try rfl)) hS (fun _ hS => (hr_g3 _ (hS.dropN 1))) _hc_g3 rfl)) <| obs_nil
        refine cond_ev (t := 23) (b := (getb in1 i1) && r1) hF (by kernel_rfl) (fun hb => ?_) (fun hb => ?_)
        · replace hm := if_t hm hb
          refine reg [] [] [6] [pl 6 (.bool true)] hF hS Fol (by kernel_rfl) (by kernel_rfl) (by kernel_rfl) ?_ (fun a w hF hS => ?_)
          · exact obs_nil
          refine wp_ret ?_
          refine block_r (then_r (then_r (block_r (then_r ?_))))
          rw [← hφ1] at hm
          replace hm := done_b hm
          unfold gameroomref_besideAny_K1 at hm
          try dsimp only at hm
          have hS := hS.pickN 1 [] (by decide)
          have hm : some true = some r := hm
          obtain rfl := Option.some.inj hm
          exact retV (rs := [.tmp 6]) (vs := [.bool true]) hF rfl (rv_t (by kernel_rfl) <| rv_nil) rfl ⟨rfl, hS⟩
        · replace hm := if_f hm hb
          refine wp_skip ?_
          refine block_n ?_
          refine then_n ?_
          exact ⟨hF.weak [1, 2, 3, 7] (by kernel_rfl), hS, hm⟩
    · refine reg [] [] [1, 2, 3, 7, 11] [pl 1 (.int .i64 place1), pl 2 (.slice A2 in1.length c2), pl 3 (.pointer (some ⟨g4, 0, none⟩)), pl 7 (.int .i64 i1), pl 11 (.bool (decide (i1 < (in1.length : Int))))] hF hS Fol (by kernel_rfl) (by kernel_rfl) (by kernel_rfl) ?_ (fun a w hF hS => ?_)
      · exact obs_nil
      refine cond_ev (t := 11) (b := decide (i1 < (in1.length : Int))) hF (by kernel_rfl) (fun hb => ?_) (fun hb => ?_)
      · replace hm := if_t hm hb
        refine wp_skip ?_
        refine then_n ?_
        exact ⟨hF.weak [1, 2, 3, 7] (by kernel_rfl), hS, hm⟩
      · replace hm := if_f hm hb
        refine wp_exit ?_
        refine then_e (then_e (block_e (then_n ?_)))
        have hS := hS.pickN 1 [] (by decide)
        rw [← hφ1] at hm
        replace hm := done_b hm
        unfold gameroomref_besideAny_K1 at hm
        try dsimp only at hm
        have hm : (gameroomref_besideAny_J1).bind some = some r := hm
        exact ⟨hF.weak [] (by kernel_rfl), hS, hm⟩

noncomputable def gameroomref_listOf_J3 (i1 : Int) (l3 : List Int) : Option (St (List Int × Int) (List Int)) :=
  some (.next (l3, (w64 (i1 + 1))))

noncomputable def gameroomref_listOf_J2 (in1 : List Bool) (l1 : List Int) (i1 : Int) : Option (St (List Int × Int) (List Int)) :=
  asrt (0 ≤ i1 ∧ i1 < (in1.length : Int)) <| if (getb in1 i1) then (asrt ((l1.length : Int) + 1 ≤ bigN) <| (gameroomref_listOf_J3 i1) (l1 ++ ([i1] : List Int))) else ((gameroomref_listOf_J3 i1) l1)

noncomputable def gameroomref_listOf_J1 (l2 : List Int) : Option (List Int) :=
  some l2

noncomputable def gameroomref_listOf_K1 : (List Int) → Option (List Int) :=
  fun (x : (List Int)) => match x with | l2 => gameroomref_listOf_J1 l2

noncomputable def gameroomref_listOf_L1 (in1 : List Bool) : (List Int × Int) → Option (St (List Int × Int) (List Int)) :=
  fun (x : (List Int × Int)) => match x with | (l1, i1) => if (decide (i1 < (in1.length : Int))) then ((gameroomref_listOf_J2 in1 l1 i1)) else (some (.done l1))

noncomputable def gameroomref_listOf_m (in1 : List Bool) : Option (List Int) :=
  (loop (gameroomref_listOf_L1 in1) (([] : List Int), 0)).bind gameroomref_listOf_K1

set_option maxRecDepth 100000 in
set_option maxHeartbeats 4000000 in
theorem gameroomref_listOf_w {A1 : Option Addr} {c1 : Nat} {n1 : Nat} {in1 : List Bool} {r : (List Int)} {w0 w : World} {B : Nat} {fs : List HP} (hm : gameroomref_listOf_m in1 = some r) (hS : Sep w0 B w (fs)) (hr_in1 : RdF w0 B fs A1 (vB in1)) (_hc_in1 : in1.length ≤ c1) (_hn_in1 : n1 = in1.length) :
    Calls Try.prog 136 #[.slice A1 n1 c1] w fun e w' => ∃ v, e = .returned v ∧ ∃ (A6 : Option Addr) (c6 : Nat), v = .slice A6 r.length c6 ∧ Sep w0 B w' (own 3 (.slice A6 r.length c6) (vI r) :: fs) := by
  obtain ⟨i3, hi3, hz3, hs3, hb3⟩ := info_parts Info3
  obtain ⟨i4, hi4, hz4, hs4, hb4⟩ := info_parts Info4
  obtain rfl := _hn_in1
  unfold gameroomref_listOf_m at hm
  replace hm := start_b hm
  refine enter (l := [.slice A1 in1.length c1]) (n := 20) Try.func136 rfl rfl (by simp) (fun a hF => ?_)
  refine reg [] [] [0] [pl 0 (.slice A1 in1.length c1)] hF hS Fol (by kernel_rfl) (by kernel_rfl) (by kernel_rfl) ?_ (fun a w hF hS => ?_)
  · exact obs_nil
  refine reg [] [] [0, 3] [pl 0 (.slice A1 in1.length c1), pl 3 (.slice none 0 0)] hF hS Fol (by kernel_rfl) (by kernel_rfl) (by kernel_rfl) ?_ (fun a w hF hS => ?_)
  · exact obs_nil
  refine seq_cut (fun a w => ∃ (l2 : List Int) (A3 : Option Addr) (c3 : Nat), Fr 20 [pl 3 (.slice A3 l2.length c3)] a ∧ Sep w0 B w (own 3 (.slice A3 l2.length c3) (vI l2) :: fs) ∧ (gameroomref_listOf_J1 l2).bind some = some r) ?_ ?_
  · rintro a w ⟨l2, A3, c3, hF, hS, hm⟩
    unfold gameroomref_listOf_J1 at hm
    refine reg [] [] [2] [pl 2 (.slice A3 l2.length c3)] hF hS Fol (by kernel_rfl) (by kernel_rfl) (by kernel_rfl) ?_ (fun a w hF hS => ?_)
    · exact obs_nil
    refine wp_ret ?_
    have hm : some l2 = some r := hm
    obtain rfl := Option.some.inj hm
    exact retV (rs := [.tmp 2]) (vs := [.slice A3 l2.length c3]) hF rfl (rv_t (by kernel_rfl) <| rv_nil) rfl ⟨_, rfl, A3, c3, rfl, hS⟩
  · refine reg [] [] [0, 3, 4] [pl 0 (.slice A1 in1.length c1), pl 3 (.slice none 0 0), pl 4 (.int .i64 0)] hF hS Fol (by kernel_rfl) (by kernel_rfl) (by kernel_rfl) ?_ (fun a w hF hS => ?_)
    · exact obs_nil
    refine wp_block ?_
    have hS : Sep w0 B w (own 3 (.slice none 0 0) (vI ([] : List Int)) :: fs) := hS.nil 3
    have hl1 := (hS.at_ 0 rfl).len1
    have hS := (hS.at_ 0 rfl).reN hl1
    have hS : Sep w0 B w (own 3 (.slice none (([] : List Int).length) 0) (vI ([] : List Int)) :: fs) := hS
    have hF := hF.cast (t := 3) (v := .slice none 0 0) (v' := .slice none (([] : List Int).length) 0) rfl rfl (congrArg (fun k => Value.slice none k 0) hl1)
    refine wp_loop_model (S := (List Int × Int)) (R := (List Int)) (gameroomref_listOf_L1 in1) (fun x => (gameroomref_listOf_K1 x).bind some) r (fun (x : (List Int × Int)) a w => ∃ (A2 : Option Addr) (c2 : Nat), Fr 20 [pl 0 (.slice A1 in1.length c1), pl 3 (.slice A2 x.1.length c2), pl 4 (.int .i64 x.2)] a ∧ Sep w0 B w (own 3 (.slice A2 x.1.length c2) (vI x.1) :: fs)) (assoc_b hm) ⟨none, 0, hF.weak [0, 3, 4] (by kernel_rfl), hS⟩ ?_
    clear hF hS hm
    rintro nn1 ⟨l1, i1⟩ a w ⟨A2, c2, hF, hS⟩ hm
    generalize hφ1 : stK (gameroomref_listOf_L1 in1) nn1 (fun x => (gameroomref_listOf_K1 x).bind some) = φ1 at hm
    unfold gameroomref_listOf_L1 at hm
    dsimp only at hF hS hm
    refine seq_cut (fun a w => Fr 20 [pl 0 (.slice A1 in1.length c1), pl 3 (.slice A2 l1.length c2), pl 4 (.int .i64 i1)] a ∧ Sep w0 B w (own 3 (.slice A2 l1.length c2) (vI l1) :: fs) ∧ ((gameroomref_listOf_J2 in1 l1 i1)).bind φ1 = some r) ?_ ?_
    · rintro a w ⟨hF, hS, hm⟩
      unfold gameroomref_listOf_J2 at hm
      refine seq_cut (fun a w => ∃ (l3 : List Int) (A5 : Option Addr) (c5 : Nat), Fr 20 [pl 0 (.slice A1 in1.length c1), pl 3 (.slice A5 l3.length c5), pl 4 (.int .i64 i1)] a ∧ Sep w0 B w (own 3 (.slice A5 l3.length c5) (vI l3) :: fs) ∧ ((gameroomref_listOf_J3 i1) l3).bind φ1 = some r) ?_ ?_
      · rintro a w ⟨l3, A5, c5, hF, hS, hm⟩
        unfold gameroomref_listOf_J3 at hm
        refine reg1 [] [] [0, 3, 4] [pl 0 (.slice A1 in1.length c1), pl 3 (.slice A5 l3.length c5), pl 4 (.int .i64 (w64 (i1 + 1)))] hF hS Fol (by kernel_rfl) (by kernel_rfl) (by kernel_rfl) ?_ (fun a w hF hS => ?_)
        · exact obs_nil
        refine then_n ?_
        rw [← hφ1] at hm
        exact ⟨(l3, (w64 (i1 + 1))), ⟨A5, c5, hF.weak [0, 3, 4] (by kernel_rfl), hS⟩, hm⟩
      · refine wp_block ?_
        obtain ⟨hp1, hm⟩ := asrt_b hm
        refine reg [⟨true, [], vS (Instr.indexAt 151 (.slice A1 in1.length c1) (.int .i64 i1)), .pointer (some (sAddr A1 i1))⟩, ⟨false, [], vS (Instr.loadAt 4 (.pointer (some (sAddr A1 i1)))), .bool (getb in1 i1)⟩] [none, none, some (.pointer (some (sAddr A1 i1))), some (.bool (getb in1 i1))] [0, 3, 4, 14] [pl 0 (.slice A1 in1.length c1), pl 3 (.slice A2 l1.length c2), pl 4 (.int .i64 i1), pl 14 (.bool (getb in1 i1))] hF hS Fol (by kernel_rfl) (by kernel_rfl) (by kernel_rfl) ?_ (fun a w hF hS => ?_)
        · exact obs_cons (ob_ix1 (f := Value.bool) (m := in1) Und151 hi4 hs4 (hr_in1 _ (hS.dropN 1)) rfl (fun _ => hp1)) <| obs_cons (ob_get1 (n := in1.length) (m := in1) Value.bool false Agg4 (fun _ hS => ⟨_, (hr_in1 _ (hS.dropN 1))⟩) (fun _ hS => rfl) (fun _ => hp1)) <| obs_nil
        refine cond_ev (t := 14) (b := getb in1 i1) hF (by kernel_rfl) (fun hb => ?_) (fun hb => ?_)
        · replace hm := if_t hm hb
          refine oneR ?_
          obtain ⟨hp2, hm⟩ := asrt_b hm
          refine at_run 2 [] [] [0, 4, 15, 16] [pl 0 (.slice A1 in1.length c1), pl 4 (.int .i64 i1), pl 15 (.slice A2 l1.length c2), pl 16 (.int .i64 i1)] hF hS (by kernel_rfl) (by kernel_rfl) ?_ (fun a w hF hS => ?_)
          · exact obs_nil
          refine at_do (d := 17) (s := vS (Instr.buildSlice 34 1 #[(0, .int .i64 i1)])) (v := .slice (some ⟨w.heap.size, 0, none⟩) 1 1) (w' := w.alloc (.cells #[.int .i64 i1] 3)) hF (by kernel_rfl) (by kernel_rfl) (by kernel_rfl) (fun a hF => ?_)
          have hS : Sep w0 B (w.alloc (.cells #[.int .i64 i1] 3)) (own 3 (.slice (some (⟨w.heap.size, 0, none⟩ : Addr)) 1 1) (vI ([i1] : List Int)) :: (own 3 (.slice A2 l1.length c2) (vI l1) :: fs)) := hS.lit 3 #[.int .i64 i1] 1 rfl (by omega)
          generalize (some (⟨w.heap.size, 0, none⟩ : Addr)) = g1 at hF hS
          generalize w.alloc (.cells #[.int .i64 i1] 3) = w at hS ⊢
          obtain ⟨A4, c4, w, hrun, hS⟩ := run_app1 (P := Try.prog) (t := 34) (m := l1) (ys := ([i1] : List Int)) (A2 := g1) (m2 := 1) (c2 := 1) (Value.int .i64) (0 : Int) (hS.at_ 1 rfl) (hS.at_ 0 rfl).rd ((hS.at_ 0 rfl).len1) 34 Und34 hi3 hz3 hs3 (by omega) rfl (fun _ => rfl) hp2
          have hS : Sep w0 B w (own 3 (.slice g1 1 1) (vI ([i1] : List Int)) :: own 3 (.slice A4 ((l1 ++ ([i1] : List Int)).length) c4) (vI (l1 ++ ([i1] : List Int))) :: fs) := hS
          refine at_do (d := 18) hF (by kernel_rfl) (by kernel_rfl) hrun (fun a hF => ?_)
          refine at_run 1 [] [] [0, 3, 4] [pl 0 (.slice A1 in1.length c1), pl 3 (.slice A4 ((l1 ++ ([i1] : List Int)).length) c4), pl 4 (.int .i64 i1)] hF hS (by kernel_rfl) (by kernel_rfl) ?_ (fun a w hF hS => ?_)
          · exact obs_nil
          refine at_end [0, 3, 4] [pl 0 (.slice A1 in1.length c1), pl 3 (.slice A4 ((l1 ++ ([i1] : List Int)).length) c4), pl 4 (.int .i64 i1)] hF rfl (by kernel_rfl) (fun hF => ?_)
          refine block_n ?_
          refine then_n ?_
          have hS := hS.pickN 2 [1] (by decide)
          exact ⟨(l1 ++ ([i1] : List Int)), A4, c4, hF.weak [0, 3, 4] (by kernel_rfl), hS, hm⟩
        · replace hm := if_f hm hb
          refine wp_skip ?_
          refine block_n ?_
          refine then_n ?_
          exact ⟨l1, A2, c2, hF.weak [0, 3, 4] (by kernel_rfl), hS, hm⟩
    · refine reg [] [] [0, 3, 4, 8] [pl 0 (.slice A1 in1.length c1), pl 3 (.slice A2 l1.length c2), pl 4 (.int .i64 i1), pl 8 (.bool (decide (i1 < (in1.length : Int))))] hF hS Fol (by kernel_rfl) (by kernel_rfl) (by kernel_rfl) ?_ (fun a w hF hS => ?_)
      · exact obs_nil
      refine cond_ev (t := 8) (b := decide (i1 < (in1.length : Int))) hF (by kernel_rfl) (fun hb => ?_) (fun hb => ?_)
      · replace hm := if_t hm hb
        refine wp_skip ?_
        refine then_n ?_
        exact ⟨hF.weak [0, 3, 4] (by kernel_rfl), hS, hm⟩
      · replace hm := if_f hm hb
        refine wp_exit ?_
        refine then_e (then_e (block_e (then_n ?_)))
        rw [← hφ1] at hm
        replace hm := done_b hm
        unfold gameroomref_listOf_K1 at hm
        try dsimp only at hm
        have hm : (gameroomref_listOf_J1 l1).bind some = some r := hm
        exact ⟨l1, A2, c2, hF.weak [3] (by kernel_rfl), hS, hm⟩

noncomputable def gameroomref_GroupOf_J4 (i1 : Int) (free3 : List Int) : Option (St (List Int × Int) (List Int)) :=
  some (.next (free3, (w64 (i1 + 1))))

noncomputable def gameroomref_GroupOf_J3 (g1 : Int) (g2 : Int) (g3 : List Int) (in1 : List Bool) (free1 : List Int) (i1 : Int) : Option (St (List Int × Int) (List Int)) :=
  asrt (0 ≤ i1 ∧ i1 < (g3.length : Int)) <| ((if ((geti g3 i1) == 0) then gameroomref_besideAny_m g1 g2 g3 i1 in1 else some false)).bind fun r3 => if (((geti g3 i1) == 0) && r3) then (asrt ((free1.length : Int) + 1 ≤ bigN) <| (gameroomref_GroupOf_J4 i1) (free1 ++ ([i1] : List Int))) else ((gameroomref_GroupOf_J4 i1) free1)

noncomputable def gameroomref_GroupOf_J2 (in1 : List Bool) (free2 : List Int) : Option (List Int × List Int) :=
  (gameroomref_listOf_m in1).bind fun r4 => some (r4, free2)

noncomputable def gameroomref_GroupOf_K1 (in1 : List Bool) : (List Int) → Option (List Int × List Int) :=
  fun (x : (List Int)) => match x with | free2 => (gameroomref_GroupOf_J2 in1) free2

noncomputable def gameroomref_GroupOf_L1 (g1 : Int) (g2 : Int) (g3 : List Int) (in1 : List Bool) : (List Int × Int) → Option (St (List Int × Int) (List Int)) :=
  fun (x : (List Int × Int)) => match x with | (free1, i1) => if (decide (i1 < (in1.length : Int))) then ((gameroomref_GroupOf_J3 g1 g2 g3 in1 free1 i1)) else (some (.done free1))

noncomputable def gameroomref_GroupOf_J1 (g1 : Int) (g2 : Int) (g3 : List Int) (in1 : List Bool) : Option (List Int × List Int) :=
  (loop (gameroomref_GroupOf_L1 g1 g2 g3 in1) (([] : List Int), 0)).bind (gameroomref_GroupOf_K1 in1)

noncomputable def gameroomref_GroupOf_m (g1 : Int) (g2 : Int) (g3 : List Int) (place1 : Int) : Option (List Int × List Int) :=
  asrt (0 ≤ place1 ∧ place1 < (g3.length : Int)) <| (gameroomref_marks_m g1 g2 g3 (geti g3 place1) false).bind fun r1 => (gameroomref_regionOf_m g1 g2 g3 place1 r1).bind fun r2 => (gameroomref_GroupOf_J1 g1 g2 g3) r2

set_option maxRecDepth 100000 in
set_option maxHeartbeats 4000000 in
theorem gameroomref_GroupOf_w {g1 : Int} {g2 : Int} {A1 : Option Addr} {c1 : Nat} {n1 : Nat} {g3 : List Int} {place1 : Int} {r : (List Int × List Int)} {w0 w : World} {B : Nat} {fs : List HP} (hm : gameroomref_GroupOf_m g1 g2 g3 place1 = some r) (hS : Sep w0 B w (fs)) (hr_g3 : RdF w0 B fs A1 (vI g3)) (_hc_g3 : g3.length ≤ c1) (_hn_g3 : n1 = g3.length) :
    Calls Try.prog 66 #[.agg #[.int .i64 g1, .int .i64 g2, .slice A1 n1 c1], .int .i64 place1] w fun e w' => ∃ v, e = .returned v ∧ ∃ (A12 : Option Addr) (c12 : Nat) (A13 : Option Addr) (c13 : Nat), v = .tuple #[.slice A12 r.1.length c12, .slice A13 r.2.length c13] ∧ Sep w0 B w' (own 3 (.slice A12 r.1.length c12) (vI r.1) :: own 3 (.slice A13 r.2.length c13) (vI r.2) :: fs) := by
  obtain ⟨i3, hi3, hz3, hs3, hb3⟩ := info_parts Info3
  obtain rfl := _hn_g3
  unfold gameroomref_GroupOf_m at hm
  replace hm := start_b hm
  refine enter (l := [.agg #[.int .i64 g1, .int .i64 g2, .slice A1 g3.length c1], .int .i64 place1]) (n := 44) Try.func66 rfl rfl (by simp) (fun a hF => ?_)
  refine seqR ?_
  refine at_do (d := 2) (s := vS (Instr.box 93 (.agg #[.int .i64 g1, .int .i64 g2, .slice A1 g3.length c1]))) (v := .pointer (some ⟨w.heap.size, 0, none⟩)) (w' := w.alloc (.cells #[.int .i64 g1, .int .i64 g2, .slice A1 g3.length c1] 93)) hF (by kernel_rfl) (by kernel_rfl) (by kernel_rfl) (fun a hF => ?_)
  have hS : Sep w0 B (w.alloc (.cells #[.int .i64 g1, .int .i64 g2, .slice A1 g3.length c1] 93)) (blk w.heap.size 93 #[.int .i64 g1, .int .i64 g2, .slice A1 g3.length c1] :: (fs)) := hS.box 93 #[.int .i64 g1, .int .i64 g2, .slice A1 g3.length c1]
  generalize w.heap.size = g4 at hF hS
  generalize w.alloc (.cells #[.int .i64 g1, .int .i64 g2, .slice A1 g3.length c1] 93) = w at hS ⊢
  refine at_run 2 [] [] [1, 2] [pl 1 (.int .i64 place1), pl 2 (.pointer (some ⟨g4, 0, none⟩))] hF hS (by kernel_rfl) (by kernel_rfl) ?_ (fun a w hF hS => ?_)
  · exact obs_nil
  refine at_end [1, 2] [pl 1 (.int .i64 place1), pl 2 (.pointer (some ⟨g4, 0, none⟩))] hF rfl (by kernel_rfl) (fun hF => ?_)
  refine then_n ?_
  refine seq_cut (fun a w => ∃ (in1 : List Bool) (A6 : Option Addr) (c6 : Nat), Fr 44 [pl 2 (.pointer (some ⟨g4, 0, none⟩)), pl 6 (.slice A6 in1.length c6)] a ∧ Sep w0 B w (blk g4 93 #[.int .i64 g1, .int .i64 g2, .slice A1 g3.length c1] :: own 4 (.slice A6 in1.length c6) (vB in1) :: fs) ∧ ((gameroomref_GroupOf_J1 g1 g2 g3) in1).bind some = some r) ?_ ?_
  · rintro a w ⟨in1, A6, c6, hF, hS, hm⟩
    unfold gameroomref_GroupOf_J1 at hm
    refine reg [] [] [2, 6, 7] [pl 2 (.pointer (some ⟨g4, 0, none⟩)), pl 6 (.slice A6 in1.length c6), pl 7 (.slice none 0 0)] hF hS Fol (by kernel_rfl) (by kernel_rfl) (by kernel_rfl) ?_ (fun a w hF hS => ?_)
    · exact obs_nil
    refine seq_cut (fun a w => ∃ (free2 : List Int) (A8 : Option Addr) (c8 : Nat), Fr 44 [pl 6 (.slice A6 in1.length c6), pl 7 (.slice A8 free2.length c8)] a ∧ Sep w0 B w (own 4 (.slice A6 in1.length c6) (vB in1) :: own 3 (.slice A8 free2.length c8) (vI free2) :: fs) ∧ ((gameroomref_GroupOf_J2 in1) free2).bind some = some r) ?_ ?_
    · rintro a w ⟨free2, A8, c8, hF, hS, hm⟩
      unfold gameroomref_GroupOf_J2 at hm
      refine seqR ?_
      obtain ⟨r4, hr4, hm⟩ := call_b hm
      refine at_run 1 [] [] [7, 41] [pl 7 (.slice A8 free2.length c8), pl 41 (.slice A6 in1.length c6)] hF hS (by kernel_rfl) (by kernel_rfl) ?_ (fun a w hF hS => ?_)
      · exact obs_nil
      refine at_call (f := 136) (args := #[.slice A6 in1.length c6]) (d := 42) hF (by kernel_rfl) (by kernel_rfl) Try.func136 (by kernel_rfl) rfl (gameroomref_listOf_w hr4 hS (fun _ hS => (hS.at_ 0 rfl).rd) ((hS.at_ 0 rfl).cap1) rfl) (fun v a w hR hF => ?_)
      clear hS
      obtain ⟨A11, c11, rfl, hS⟩ := hR
      have hS : Sep w0 B w (own 3 (.slice A11 r4.length c11) (vI r4) :: own 4 (.slice A6 in1.length c6) (vB in1) :: own 3 (.slice A8 free2.length c8) (vI free2) :: fs) := hS
      refine at_run 3 [] [] [4, 5] [pl 4 (.slice A11 r4.length c11), pl 5 (.slice A8 free2.length c8)] hF hS (by kernel_rfl) (by kernel_rfl) ?_ (fun a w hF hS => ?_)
      · exact obs_nil
      refine at_end [4, 5] [pl 4 (.slice A11 r4.length c11), pl 5 (.slice A8 free2.length c8)] hF rfl (by kernel_rfl) (fun hF => ?_)
      refine then_n ?_
      refine wp_ret ?_
      have hS := hS.pickN 3 [0, 2] (by decide)
      have hm : some (r4, free2) = some r := hm
      obtain rfl := Option.some.inj hm
      exact retV (rs := [.tmp 4, .tmp 5]) (vs := [.slice A11 r4.length c11, .slice A8 free2.length c8]) hF rfl (rv_t (by kernel_rfl) <| rv_t (by kernel_rfl) <| rv_nil) rfl ⟨_, rfl, A11, c11, A8, c8, rfl, hS⟩
    · refine reg [] [] [2, 6, 7, 8] [pl 2 (.pointer (some ⟨g4, 0, none⟩)), pl 6 (.slice A6 in1.length c6), pl 7 (.slice none 0 0), pl 8 (.int .i64 0)] hF hS Fol (by kernel_rfl) (by kernel_rfl) (by kernel_rfl) ?_ (fun a w hF hS => ?_)
      · exact obs_nil
      refine wp_block ?_
      have hS : Sep w0 B w (own 3 (.slice none 0 0) (vI ([] : List Int)) :: blk g4 93 #[.int .i64 g1, .int .i64 g2, .slice A1 g3.length c1] :: own 4 (.slice A6 in1.length c6) (vB in1) :: fs) := hS.nil 3
      have hl1 := (hS.at_ 0 rfl).len1
      have hS := (hS.at_ 0 rfl).reN hl1
      have hS : Sep w0 B w (own 3 (.slice none (([] : List Int).length) 0) (vI ([] : List Int)) :: blk g4 93 #[.int .i64 g1, .int .i64 g2, .slice A1 g3.length c1] :: own 4 (.slice A6 in1.length c6) (vB in1) :: fs) := hS
      have hF := hF.cast (t := 7) (v := .slice none 0 0) (v' := .slice none (([] : List Int).length) 0) rfl rfl (congrArg (fun k => Value.slice none k 0) hl1)
      have hS := hS.pickN 3 [1, 2, 0] (by decide)
      refine wp_loop_model (S := (List Int × Int)) (R := (List Int)) (gameroomref_GroupOf_L1 g1 g2 g3 in1) (fun x => ((gameroomref_GroupOf_K1 in1) x).bind some) r (fun (x : (List Int × Int)) a w => ∃ (A7 : Option Addr) (c7 : Nat), Fr 44 [pl 2 (.pointer (some ⟨g4, 0, none⟩)), pl 6 (.slice A6 in1.length c6), pl 7 (.slice A7 x.1.length c7), pl 8 (.int .i64 x.2)] a ∧ Sep w0 B w (blk g4 93 #[.int .i64 g1, .int .i64 g2, .slice A1 g3.length c1] :: own 4 (.slice A6 in1.length c6) (vB in1) :: own 3 (.slice A7 x.1.length c7) (vI x.1) :: fs)) (assoc_b hm) ⟨none, 0, hF.weak [2, 6, 7, 8] (by kernel_rfl), hS⟩ ?_
      clear hF hS hm
      rintro nn1 ⟨free1, i1⟩ a w ⟨A7, c7, hF, hS⟩ hm
      generalize hφ1 : stK (gameroomref_GroupOf_L1 g1 g2 g3 in1) nn1 (fun x => ((gameroomref_GroupOf_K1 in1) x).bind some) = φ1 at hm
      unfold gameroomref_GroupOf_L1 at hm
      dsimp only at hF hS hm
      refine seq_cut (fun a w => Fr 44 [pl 2 (.pointer (some ⟨g4, 0, none⟩)), pl 6 (.slice A6 in1.length c6), pl 7 (.slice A7 free1.length c7), pl 8 (.int .i64 i1)] a ∧ Sep w0 B w (blk g4 93 #[.int .i64 g1, .int .i64 g2, .slice A1 g3.length c1] :: own 4 (.slice A6 in1.length c6) (vB in1) :: own 3 (.slice A7 free1.length c7) (vI free1) :: fs) ∧ ((gameroomref_GroupOf_J3 g1 g2 g3 in1 free1 i1)).bind φ1 = some r) ?_ ?_
      · rintro a w ⟨hF, hS, hm⟩
        unfold gameroomref_GroupOf_J3 at hm
        refine seq_cut (fun a w => ∃ (free3 : List Int) (A10 : Option Addr) (c10 : Nat), Fr 44 [pl 2 (.pointer (some ⟨g4, 0, none⟩)), pl 6 (.slice A6 in1.length c6), pl 7 (.slice A10 free3.length c10), pl 8 (.int .i64 i1)] a ∧ Sep w0 B w (blk g4 93 #[.int .i64 g1, .int .i64 g2, .slice A1 g3.length c1] :: own 4 (.slice A6 in1.length c6) (vB in1) :: own 3 (.slice A10 free3.length c10) (vI free3) :: fs) ∧ ((gameroomref_GroupOf_J4 i1) free3).bind φ1 = some r) ?_ ?_
        · rintro a w ⟨free3, A10, c10, hF, hS, hm⟩
          unfold gameroomref_GroupOf_J4 at hm
          refine reg1 [] [] [2, 6, 7, 8] [pl 2 (.pointer (some ⟨g4, 0, none⟩)), pl 6 (.slice A6 in1.length c6), pl 7 (.slice A10 free3.length c10), pl 8 (.int .i64 (w64 (i1 + 1)))] hF hS Fol (by kernel_rfl) (by kernel_rfl) (by kernel_rfl) ?_ (fun a w hF hS => ?_)
          · exact obs_nil
          refine then_n ?_
          rw [← hφ1] at hm
          exact ⟨(free3, (w64 (i1 + 1))), ⟨A10, c10, hF.weak [2, 6, 7, 8] (by kernel_rfl), hS⟩, hm⟩
        · refine wp_block ?_
          obtain ⟨hp2, hm⟩ := asrt_b hm
          obtain ⟨r3, hr3, hm⟩ := call_b hm
          refine reg [⟨false, [], vS (Instr.loadAt 34 (.pointer (some ⟨g4, 2, none⟩))), .slice A1 g3.length c1⟩, ⟨true, [], vS (Instr.indexAt 34 (.slice A1 g3.length c1) (.int .i64 i1)), .pointer (some (sAddr A1 i1))⟩, ⟨false, [], vS (Instr.loadAt 3 (.pointer (some (sAddr A1 i1)))), .int .i64 (geti g3 i1)⟩, ⟨false, [(((geti g3 i1) == 0), true)], vS (Instr.loadAt 93 (.pointer (some ⟨g4, 0, none⟩))), .agg #[.int .i64 g1, .int .i64 g2, .slice A1 g3.length c1]⟩, ⟨false, [(((geti g3 i1) == 0), true)], callFunc 135 #[.agg #[.int .i64 g1, .int .i64 g2, .slice A1 g3.length c1], .int .i64 i1, .slice A6 in1.length c6], .bool r3⟩] [none, some (.slice A1 g3.length c1), none, some (.pointer (some (sAddr A1 i1))), some (.int .i64 (geti g3 i1)), none, none, some (.agg #[.int .i64 g1, .int .i64 g2, .slice A1 g3.length c1]), none, none, some (.bool r3), none] [2, 6, 7, 8, 36] [pl 2 (.pointer (some ⟨g4, 0, none⟩)), pl 6 (.slice A6 in1.length c6), pl 7 (.slice A7 free1.length c7), pl 8 (.int .i64 i1), pl 36 (.bool (((geti g3 i1) == 0) && r3))] hF hS Fol (by kernel_rfl) (by kernel_rfl) (by kernel_rfl) ?_ (fun a w hF hS => ?_)
          · exact obs_cons (ob_load Agg34 (fun _ _ hS => (hS.at_ 0 rfl).cell rfl)) <| obs_cons (ob_ix1 (f := (Value.int .i64)) (m := g3) Und34 hi3 hs3 (hr_g3 _ (hS.dropN 3)) rfl (fun _ => hp2)) <| obs_cons (ob_get1 (n := g3.length) (m := g3) (Value.int .i64) (0 : Int) Agg3 (fun _ hS => ⟨_, (hr_g3 _ (hS.dropN 3))⟩) (fun _ hS => rfl) (fun _ => hp2)) <| obs_cons (ob_loadA (cs := #[.int .i64 g1, .int .i64 g2, .slice A1 g3.length c1]) (by kernel_rfl) (by kernel_rfl) (fun _ _ hS => (hS.at_ 0 rfl).cellsAt 0 (by rfl))) <| obs_cons (ob_call Try.func135 (by kernel_rfl) rfl (fun hy _ hS => gameroomref_besideAny_w (ite_some hr3 (by rw [show ((geti g3 i1) == 0) = true from hy (((geti g3 i1) == 0), true) (by simp)]; try rfl)) hS (fun _ hS => (hr_g3 _ (hS.dropN 3))) _hc_g3 rfl (fun _ hS => (hS.at_ 1 rfl).rd) ((hS.at_ 1 rfl).cap1) rfl)) <| obs_nil
          refine cond_ev (t := 36) (b := ((geti g3 i1) == 0) && r3) hF (by kernel_rfl) (fun hb => ?_) (fun hb => ?_)
          · replace hm := if_t hm hb
            refine oneR ?_
            obtain ⟨hp3, hm⟩ := asrt_b hm
            refine at_run 2 [] [] [2, 6, 8, 37, 38] [pl 2 (.pointer (some ⟨g4, 0, none⟩)), pl 6 (.slice A6 in1.length c6), pl 8 (.int .i64 i1), pl 37 (.slice A7 free1.length c7), pl 38 (.int .i64 i1)] hF hS (by kernel_rfl) (by kernel_rfl) ?_ (fun a w hF hS => ?_)
            · exact obs_nil
            refine at_do (d := 39) (s := vS (Instr.buildSlice 34 1 #[(0, .int .i64 i1)])) (v := .slice (some ⟨w.heap.size, 0, none⟩) 1 1) (w' := w.alloc (.cells #[.int .i64 i1] 3)) hF (by kernel_rfl) (by kernel_rfl) (by kernel_rfl) (fun a hF => ?_)
            have hS : Sep w0 B (w.alloc (.cells #[.int .i64 i1] 3)) (own 3 (.slice (some (⟨w.heap.size, 0, none⟩ : Addr)) 1 1) (vI ([i1] : List Int)) :: (blk g4 93 #[.int .i64 g1, .int .i64 g2, .slice A1 g3.length c1] :: own 4 (.slice A6 in1.length c6) (vB in1) :: own 3 (.slice A7 free1.length c7) (vI free1) :: fs)) := hS.lit 3 #[.int .i64 i1] 1 rfl (by omega)
            generalize (some (⟨w.heap.size, 0, none⟩ : Addr)) = g5 at hF hS
            generalize w.alloc (.cells #[.int .i64 i1] 3) = w at hS ⊢
            obtain ⟨A9, c9, w, hrun, hS⟩ := run_app1 (P := Try.prog) (t := 34) (m := free1) (ys := ([i1] : List Int)) (A2 := g5) (m2 := 1) (c2 := 1) (Value.int .i64) (0 : Int) (hS.at_ 3 rfl) (hS.at_ 0 rfl).rd ((hS.at_ 0 rfl).len1) 34 Und34 hi3 hz3 hs3 (by omega) rfl (fun _ => rfl) hp3
            have hS : Sep w0 B w (own 3 (.slice g5 1 1) (vI ([i1] : List Int)) :: blk g4 93 #[.int .i64 g1, .int .i64 g2, .slice A1 g3.length c1] :: own 4 (.slice A6 in1.length c6) (vB in1) :: own 3 (.slice A9 ((free1 ++ ([i1] : List Int)).length) c9) (vI (free1 ++ ([i1] : List Int))) :: fs) := hS
            refine at_do (d := 40) hF (by kernel_rfl) (by kernel_rfl) hrun (fun a hF => ?_)
            refine at_run 1 [] [] [2, 6, 7, 8] [pl 2 (.pointer (some ⟨g4, 0, none⟩)), pl 6 (.slice A6 in1.length c6), pl 7 (.slice A9 ((free1 ++ ([i1] : List Int)).length) c9), pl 8 (.int .i64 i1)] hF hS (by kernel_rfl) (by kernel_rfl) ?_ (fun a w hF hS => ?_)
            · exact obs_nil
            refine at_end [2, 6, 7, 8] [pl 2 (.pointer (some ⟨g4, 0, none⟩)), pl 6 (.slice A6 in1.length c6), pl 7 (.slice A9 ((free1 ++ ([i1] : List Int)).length) c9), pl 8 (.int .i64 i1)] hF rfl (by kernel_rfl) (fun hF => ?_)
            refine block_n ?_
            refine then_n ?_
            have hS := hS.pickN 4 [1, 2, 3] (by decide)
            exact ⟨(free1 ++ ([i1] : List Int)), A9, c9, hF.weak [2, 6, 7, 8] (by kernel_rfl), hS, hm⟩
          · replace hm := if_f hm hb
            refine wp_skip ?_
            refine block_n ?_
            refine then_n ?_
            exact ⟨free1, A7, c7, hF.weak [2, 6, 7, 8] (by kernel_rfl), hS, hm⟩
      · refine reg [] [] [2, 6, 7, 8, 22] [pl 2 (.pointer (some ⟨g4, 0, none⟩)), pl 6 (.slice A6 in1.length c6), pl 7 (.slice A7 free1.length c7), pl 8 (.int .i64 i1), pl 22 (.bool (decide (i1 < (in1.length : Int))))] hF hS Fol (by kernel_rfl) (by kernel_rfl) (by kernel_rfl) ?_ (fun a w hF hS => ?_)
        · exact obs_nil
        refine cond_ev (t := 22) (b := decide (i1 < (in1.length : Int))) hF (by kernel_rfl) (fun hb => ?_) (fun hb => ?_)
        · replace hm := if_t hm hb
          refine wp_skip ?_
          refine then_n ?_
          exact ⟨hF.weak [2, 6, 7, 8] (by kernel_rfl), hS, hm⟩
        · replace hm := if_f hm hb
          refine wp_exit ?_
          refine then_e (then_e (block_e (then_n ?_)))
          have hS := hS.pickN 3 [1, 2] (by decide)
          rw [← hφ1] at hm
          replace hm := done_b hm
          unfold gameroomref_GroupOf_K1 at hm
          try dsimp only at hm
          have hm : ((gameroomref_GroupOf_J2 in1) free1).bind some = some r := hm
          exact ⟨free1, A7, c7, hF.weak [6, 7] (by kernel_rfl), hS, hm⟩
  · obtain ⟨hp1, hm⟩ := asrt_b hm
    obtain ⟨r1, hr1, hm⟩ := call_b hm
    obtain ⟨r2, hr2, hm⟩ := call_b hm
    refine regMix5 [0, 1, 2, 3, 4, 5, 6, 7] [] 3 #[true, true, true, true, true, true, true, true, false, false, false] [⟨false, [], vS (Instr.loadAt 93 (.pointer (some ⟨g4, 0, none⟩))), .agg #[.int .i64 g1, .int .i64 g2, .slice A1 g3.length c1]⟩, ⟨false, [], vS (Instr.loadAt 93 (.pointer (some ⟨g4, 0, none⟩))), .agg #[.int .i64 g1, .int .i64 g2, .slice A1 g3.length c1]⟩, ⟨false, [], vS (Instr.loadAt 34 (.pointer (some ⟨g4, 2, none⟩))), .slice A1 g3.length c1⟩, ⟨true, [], vS (Instr.indexAt 34 (.slice A1 g3.length c1) (.int .i64 place1)), .pointer (some (sAddr A1 place1))⟩, ⟨false, [], vS (Instr.loadAt 3 (.pointer (some (sAddr A1 place1)))), .int .i64 (geti g3 place1)⟩] [some (.agg #[.int .i64 g1, .int .i64 g2, .slice A1 g3.length c1]), none, some (.agg #[.int .i64 g1, .int .i64 g2, .slice A1 g3.length c1]), none, some (.slice A1 g3.length c1), none, some (.pointer (some (sAddr A1 place1))), some (.int .i64 (geti g3 place1))] [2, 9, 10, 11, 16] [pl 2 (.pointer (some ⟨g4, 0, none⟩)), pl 9 (.agg #[.int .i64 g1, .int .i64 g2, .slice A1 g3.length c1]), pl 10 (.int .i64 place1), pl 11 (.agg #[.int .i64 g1, .int .i64 g2, .slice A1 g3.length c1]), pl 16 (.int .i64 (geti g3 place1))] hF hS Fol (by kernel_rfl) (by kernel_rfl) (by kernel_rfl) (by kernel_rfl) ?_ (fun a w hF hS => ?_)
    · exact obs_cons (ob_loadA (cs := #[.int .i64 g1, .int .i64 g2, .slice A1 g3.length c1]) (by kernel_rfl) (by kernel_rfl) (fun _ _ hS => (hS.at_ 0 rfl).cellsAt 0 (by rfl))) <| obs_cons (ob_loadA (cs := #[.int .i64 g1, .int .i64 g2, .slice A1 g3.length c1]) (by kernel_rfl) (by kernel_rfl) (fun _ _ hS => (hS.at_ 0 rfl).cellsAt 0 (by rfl))) <| obs_cons (ob_load Agg34 (fun _ _ hS => (hS.at_ 0 rfl).cell rfl)) <| obs_cons (ob_ix1 (f := (Value.int .i64)) (m := g3) Und34 hi3 hs3 (hr_g3 _ (hS.dropN 1)) rfl (fun _ => hp1)) <| obs_cons (ob_get1 (n := g3.length) (m := g3) (Value.int .i64) (0 : Int) Agg3 (fun _ hS => ⟨_, (hr_g3 _ (hS.dropN 1))⟩) (fun _ hS => rfl) (fun _ => hp1)) <| obs_nil
    refine any_step [8] (by kernel_rfl) rfl ?_
    refine (all_cons ?_ all_nil)
    · refine any_op (listed' := #[true, true, true, true, true, true, true, true, true, false, false]) (by kernel_rfl) (by kernel_rfl) ?_
      refine at_call (f := 134) (args := #[.agg #[.int .i64 g1, .int .i64 g2, .slice A1 g3.length c1], .int .i64 (geti g3 place1), .bool false]) (d := 17) hF (by kernel_rfl) (by kernel_rfl) Try.func134 (by kernel_rfl) rfl (gameroomref_marks_w hr1 hS (fun _ hS => (hr_g3 _ (hS.dropN 1))) _hc_g3 rfl) (fun v a w hR hF => ?_)
      clear hS
      obtain ⟨A4, c4, rfl, hS⟩ := hR
      have hS : Sep w0 B w (own 4 (.slice A4 r1.length c4) (vB r1) :: blk g4 93 #[.int .i64 g1, .int .i64 g2, .slice A1 g3.length c1] :: fs) := hS
      refine any_fin rfl (hS.pickN 2 [1] (by decide)) ?_
      refine any_step [9] (by kernel_rfl) rfl ?_
      refine (all_cons ?_ all_nil)
      · refine any_op (listed' := #[true, true, true, true, true, true, true, true, true, true, false]) (by kernel_rfl) (by kernel_rfl) ?_
        refine at_call (f := 133) (args := #[.agg #[.int .i64 g1, .int .i64 g2, .slice A1 g3.length c1], .int .i64 place1, .slice A4 r1.length c4]) (d := 18) hF (by kernel_rfl) (by kernel_rfl) Try.func133 (by kernel_rfl) rfl (gameroomref_regionOf_w hr2 hS (fun _ hS => (hr_g3 _ (hS.dropN 2))) _hc_g3 rfl (fun _ hS => (hS.at_ 0 rfl).rd) ((hS.at_ 0 rfl).cap1) rfl) (fun v a w hR hF => ?_)
        clear hS
        obtain ⟨A5, c5, rfl, hS⟩ := hR
        have hS : Sep w0 B w (own 4 (.slice A5 r2.length c5) (vB r2) :: own 4 (.slice A4 r1.length c4) (vB r1) :: blk g4 93 #[.int .i64 g1, .int .i64 g2, .slice A1 g3.length c1] :: fs) := hS
        refine any_fin rfl (hS.pickN 3 [2] (by decide)) ?_
        refine any_step [10] (by kernel_rfl) rfl ?_
        refine (all_cons ?_ all_nil)
        · refine any_op (listed' := #[true, true, true, true, true, true, true, true, true, true, true]) (by kernel_rfl) (by kernel_rfl) ?_
          refine at_runW 1 [] [] [2, 6] [pl 2 (.pointer (some ⟨g4, 0, none⟩)), pl 6 (.slice A5 r2.length c5)] hF hS (by kernel_rfl) (by kernel_rfl) ?_ (fun a hF => ?_)
          · exact obs_nil
          refine any_finI rfl (fun h => h) ?_
          refine any_end (by kernel_rfl) ?_
          refine np_n ?_
          refine then_n ?_
          have hS := hS.pickN 3 [2, 0] (by decide)
          exact ⟨r2, A5, c5, hF.weak [2, 6] (by kernel_rfl), hS, hm⟩

noncomputable def gameroomlaw_sameInts_J4 (i1 : Int) : Option (St Int (Fl Unit Bool)) :=
  some (.next (w64 (i1 + 1)))

noncomputable def gameroomlaw_sameInts_J3 (a1 : List Int) (b1 : List Int) (i1 : Int) : Option (St Int (Fl Unit Bool)) :=
  asrt (0 ≤ i1 ∧ i1 < (a1.length : Int)) <| asrt (0 ≤ i1 ∧ i1 < (b1.length : Int)) <| if ((geti a1 i1) != (geti b1 i1)) then (some (.done (.ret false))) else ((gameroomlaw_sameInts_J4 i1))

noncomputable def gameroomlaw_sameInts_J2 : Option Bool :=
  some true

noncomputable def gameroomlaw_sameInts_K1 : (Fl Unit Bool) → Option Bool :=
  fun (x : (Fl Unit Bool)) => match x with | .go _ => gameroomlaw_sameInts_J2 | .ret x => some x

noncomputable def gameroomlaw_sameInts_L1 (a1 : List Int) (b1 : List Int) : Int → Option (St Int (Fl Unit Bool)) :=
  fun (x : Int) => match x with | i1 => if (decide (i1 < (a1.length : Int))) then ((gameroomlaw_sameInts_J3 a1 b1 i1)) else (some (.done (.go ())))

noncomputable def gameroomlaw_sameInts_J1 (a1 : List Int) (b1 : List Int) : Option Bool :=
  (loop (gameroomlaw_sameInts_L1 a1 b1) 0).bind gameroomlaw_sameInts_K1

noncomputable def gameroomlaw_sameInts_m (a1 : List Int) (b1 : List Int) : Option Bool :=
  if ((a1.length : Int) != (b1.length : Int)) then (some false) else ((gameroomlaw_sameInts_J1 a1 b1))

set_option maxRecDepth 100000 in
set_option maxHeartbeats 4000000 in
theorem gameroomlaw_sameInts_w {A1 : Option Addr} {c1 : Nat} {n1 : Nat} {a1 : List Int} {A2 : Option Addr} {c2 : Nat} {n2 : Nat} {b1 : List Int} {r : Bool} {w0 w : World} {B : Nat} {fs : List HP} (hm : gameroomlaw_sameInts_m a1 b1 = some r) (hS : Sep w0 B w (fs)) (hr_a1 : RdF w0 B fs A1 (vI a1)) (_hc_a1 : a1.length ≤ c1) (_hn_a1 : n1 = a1.length) (hr_b1 : RdF w0 B fs A2 (vI b1)) (_hc_b1 : b1.length ≤ c2) (_hn_b1 : n2 = b1.length) :
    Calls Try.prog 27 #[.slice A1 n1 c1, .slice A2 n2 c2] w fun e w' => e = .returned (.bool r) ∧ Sep w0 B w' (fs) := by
  obtain ⟨i3, hi3, hz3, hs3, hb3⟩ := info_parts Info3
  obtain rfl := _hn_a1
  obtain rfl := _hn_b1
  unfold gameroomlaw_sameInts_m at hm
  replace hm := start_b hm
  refine enter (l := [.slice A1 a1.length c1, .slice A2 b1.length c2]) (n := 26) Try.func27 rfl rfl (by simp) (fun a hF => ?_)
  refine reg [] [] [0, 1] [pl 0 (.slice A1 a1.length c1), pl 1 (.slice A2 b1.length c2)] hF hS Fol (by kernel_rfl) (by kernel_rfl) (by kernel_rfl) ?_ (fun a w hF hS => ?_)
  · exact obs_nil
  refine seq_cut (fun a w => Fr 26 [pl 0 (.slice A1 a1.length c1), pl 1 (.slice A2 b1.length c2)] a ∧ Sep w0 B w (fs) ∧ ((gameroomlaw_sameInts_J1 a1 b1)).bind some = some r) ?_ ?_
  · rintro a w ⟨hF, hS, hm⟩
    unfold gameroomlaw_sameInts_J1 at hm
    refine seq_cut (fun a w => Fr 26 [] a ∧ Sep w0 B w (fs) ∧ (gameroomlaw_sameInts_J2).bind some = some r) ?_ ?_
    · rintro a w ⟨hF, hS, hm⟩
      unfold gameroomlaw_sameInts_J2 at hm
      refine reg [] [] [4] [pl 4 (.bool true)] hF hS Fol (by kernel_rfl) (by kernel_rfl) (by kernel_rfl) ?_ (fun a w hF hS => ?_)
      · exact obs_nil
      refine wp_ret ?_
      have hm : some true = some r := hm
      obtain rfl := Option.some.inj hm
      exact retV (rs := [.tmp 4]) (vs := [.bool true]) hF rfl (rv_t (by kernel_rfl) <| rv_nil) rfl ⟨rfl, hS⟩
    · refine reg [] [] [0, 1, 5] [pl 0 (.slice A1 a1.length c1), pl 1 (.slice A2 b1.length c2), pl 5 (.int .i64 0)] hF hS Fol (by kernel_rfl) (by kernel_rfl) (by kernel_rfl) ?_ (fun a w hF hS => ?_)
      · exact obs_nil
      refine wp_block ?_
      refine wp_loop_model (S := Int) (R := (Fl Unit Bool)) (gameroomlaw_sameInts_L1 a1 b1) (fun x => (gameroomlaw_sameInts_K1 x).bind some) r (fun (x : Int) a w => Fr 26 [pl 0 (.slice A1 a1.length c1), pl 1 (.slice A2 b1.length c2), pl 5 (.int .i64 x)] a ∧ Sep w0 B w (fs)) (assoc_b hm) ⟨hF.weak [0, 1, 5] (by kernel_rfl), hS⟩ ?_
      clear hF hS hm
      rintro nn1 i1 a w ⟨hF, hS⟩ hm
      generalize hφ1 : stK (gameroomlaw_sameInts_L1 a1 b1) nn1 (fun x => (gameroomlaw_sameInts_K1 x).bind some) = φ1 at hm
      unfold gameroomlaw_sameInts_L1 at hm
      dsimp only at hm
      refine seq_cut (fun a w => Fr 26 [pl 0 (.slice A1 a1.length c1), pl 1 (.slice A2 b1.length c2), pl 5 (.int .i64 i1)] a ∧ Sep w0 B w (fs) ∧ ((gameroomlaw_sameInts_J3 a1 b1 i1)).bind φ1 = some r) ?_ ?_
      · rintro a w ⟨hF, hS, hm⟩
        unfold gameroomlaw_sameInts_J3 at hm
        refine seq_cut (fun a w => Fr 26 [pl 0 (.slice A1 a1.length c1), pl 1 (.slice A2 b1.length c2), pl 5 (.int .i64 i1)] a ∧ Sep w0 B w (fs) ∧ ((gameroomlaw_sameInts_J4 i1)).bind φ1 = some r) ?_ ?_
        · rintro a w ⟨hF, hS, hm⟩
          unfold gameroomlaw_sameInts_J4 at hm
          refine reg1 [] [] [0, 1, 5] [pl 0 (.slice A1 a1.length c1), pl 1 (.slice A2 b1.length c2), pl 5 (.int .i64 (w64 (i1 + 1)))] hF hS Fol (by kernel_rfl) (by kernel_rfl) (by kernel_rfl) ?_ (fun a w hF hS => ?_)
          · exact obs_nil
          refine then_n ?_
          rw [← hφ1] at hm
          exact ⟨(w64 (i1 + 1)), ⟨hF.weak [0, 1, 5] (by kernel_rfl), hS⟩, hm⟩
        · refine wp_block ?_
          obtain ⟨hp1, hm⟩ := asrt_b hm
          obtain ⟨hp2, hm⟩ := asrt_b hm
          refine reg [⟨true, [], vS (Instr.indexAt 34 (.slice A1 a1.length c1) (.int .i64 i1)), .pointer (some (sAddr A1 i1))⟩, ⟨false, [], vS (Instr.loadAt 3 (.pointer (some (sAddr A1 i1)))), .int .i64 (geti a1 i1)⟩, ⟨true, [], vS (Instr.indexAt 34 (.slice A2 b1.length c2) (.int .i64 i1)), .pointer (some (sAddr A2 i1))⟩, ⟨false, [], vS (Instr.loadAt 3 (.pointer (some (sAddr A2 i1)))), .int .i64 (geti b1 i1)⟩] [none, none, some (.pointer (some (sAddr A1 i1))), some (.int .i64 (geti a1 i1)), none, none, some (.pointer (some (sAddr A2 i1))), some (.int .i64 (geti b1 i1)), none] [0, 1, 5, 25] [pl 0 (.slice A1 a1.length c1), pl 1 (.slice A2 b1.length c2), pl 5 (.int .i64 i1), pl 25 (.bool ((geti a1 i1) != (geti b1 i1)))] hF hS Fol (by kernel_rfl) (by kernel_rfl) (by kernel_rfl) ?_ (fun a w hF hS => ?_)
          · exact obs_cons (ob_ix1 (f := (Value.int .i64)) (m := a1) Und34 hi3 hs3 (hr_a1 _ (hS.dropN 0)) rfl (fun _ => hp1)) <| obs_cons (ob_get1 (n := a1.length) (m := a1) (Value.int .i64) (0 : Int) Agg3 (fun _ hS => ⟨_, (hr_a1 _ (hS.dropN 0))⟩) (fun _ hS => rfl) (fun _ => hp1)) <| obs_cons (ob_ix1 (f := (Value.int .i64)) (m := b1) Und34 hi3 hs3 (hr_b1 _ (hS.dropN 0)) rfl (fun _ => hp2)) <| obs_cons (ob_get1 (n := b1.length) (m := b1) (Value.int .i64) (0 : Int) Agg3 (fun _ hS => ⟨_, (hr_b1 _ (hS.dropN 0))⟩) (fun _ hS => rfl) (fun _ => hp2)) <| obs_nil
          refine cond_ev (t := 25) (b := ((geti a1 i1) != (geti b1 i1))) hF (by kernel_rfl) (fun hb => ?_) (fun hb => ?_)
          · replace hm := if_t hm hb
            refine reg [] [] [4] [pl 4 (.bool false)] hF hS Fol (by kernel_rfl) (by kernel_rfl) (by kernel_rfl) ?_ (fun a w hF hS => ?_)
            · exact obs_nil
            refine wp_ret ?_
            refine block_r (then_r (then_r (block_r (then_r ?_))))
            rw [← hφ1] at hm
            replace hm := done_b hm
            unfold gameroomlaw_sameInts_K1 at hm
            try dsimp only at hm
            have hm : some false = some r := hm
            obtain rfl := Option.some.inj hm
            exact retV (rs := [.tmp 4]) (vs := [.bool false]) hF rfl (rv_t (by kernel_rfl) <| rv_nil) rfl ⟨rfl, hS⟩
          · replace hm := if_f hm hb
            refine wp_skip ?_
            refine block_n ?_
            refine then_n ?_
            exact ⟨hF.weak [0, 1, 5] (by kernel_rfl), hS, hm⟩
      · refine reg [] [] [0, 1, 5, 14] [pl 0 (.slice A1 a1.length c1), pl 1 (.slice A2 b1.length c2), pl 5 (.int .i64 i1), pl 14 (.bool (decide (i1 < (a1.length : Int))))] hF hS Fol (by kernel_rfl) (by kernel_rfl) (by kernel_rfl) ?_ (fun a w hF hS => ?_)
        · exact obs_nil
        refine cond_ev (t := 14) (b := decide (i1 < (a1.length : Int))) hF (by kernel_rfl) (fun hb => ?_) (fun hb => ?_)
        · replace hm := if_t hm hb
          refine wp_skip ?_
          refine then_n ?_
          exact ⟨hF.weak [0, 1, 5] (by kernel_rfl), hS, hm⟩
        · replace hm := if_f hm hb
          refine wp_exit ?_
          refine then_e (then_e (block_e (then_n ?_)))
          rw [← hφ1] at hm
          replace hm := done_b hm
          unfold gameroomlaw_sameInts_K1 at hm
          try dsimp only at hm
          have hm : (gameroomlaw_sameInts_J2).bind some = some r := hm
          exact ⟨hF.weak [] (by kernel_rfl), hS, hm⟩
  · refine reg [] [] [0, 1, 10] [pl 0 (.slice A1 a1.length c1), pl 1 (.slice A2 b1.length c2), pl 10 (.bool ((a1.length : Int) != (b1.length : Int)))] hF hS Fol (by kernel_rfl) (by kernel_rfl) (by kernel_rfl) ?_ (fun a w hF hS => ?_)
    · exact obs_nil
    refine cond_ev (t := 10) (b := ((a1.length : Int) != (b1.length : Int))) hF (by kernel_rfl) (fun hb => ?_) (fun hb => ?_)
    · replace hm := if_t hm hb
      refine reg [] [] [4] [pl 4 (.bool false)] hF hS Fol (by kernel_rfl) (by kernel_rfl) (by kernel_rfl) ?_ (fun a w hF hS => ?_)
      · exact obs_nil
      refine wp_ret ?_
      refine then_r ?_
      have hm : some false = some r := hm
      obtain rfl := Option.some.inj hm
      exact retV (rs := [.tmp 4]) (vs := [.bool false]) hF rfl (rv_t (by kernel_rfl) <| rv_nil) rfl ⟨rfl, hS⟩
    · replace hm := if_f hm hb
      refine wp_skip ?_
      refine then_n ?_
      exact ⟨hF.weak [0, 1] (by kernel_rfl), hS, hm⟩

noncomputable def gameroomref_PutStone_J5 (i1 : Int) (gone3 : List Int) : Option (St (List Int × Int) (List Int)) :=
  some (.next (gone3, (w64 (i1 + 1))))

noncomputable def gameroomref_PutStone_J4 (who1 : Int) (place1 : Int) (r2 : (Int × Int × List Int)) (gone1 : List Int) (i1 : Int) : Option (St (List Int × Int) (List Int)) :=
  asrt (0 ≤ i1 ∧ i1 < (r2.2.2.length : Int)) <| if ((geti (r2.2.2.set (Int.toNat place1) who1) i1) == (w64 (3 - who1))) then ((gameroomref_GroupOf_m r2.1 r2.2.1 (r2.2.2.set (Int.toNat place1) who1) i1).bind fun r3 => if ((r3.2.length : Int) == 0) then (asrt ((gone1.length : Int) + 1 ≤ bigN) <| (gameroomref_PutStone_J5 i1) (gone1 ++ ([i1] : List Int))) else ((gameroomref_PutStone_J5 i1) gone1)) else ((gameroomref_PutStone_J5 i1) gone1)

noncomputable def gameroomref_PutStone_J8 (gone2 : List Int) (out1 : List Int) (i2 : Int) : Option (St (List Int × Int) (List Int)) :=
  some (.next ((out1.set (Int.toNat (geti gone2 i2)) 0), (w64 (i2 + 1))))

noncomputable def gameroomref_PutStone_J7 (r2 : (Int × Int × List Int)) (gone2 : List Int) (out1 : List Int) (i2 : Int) : Option (St (List Int × Int) (List Int)) :=
  asrt (0 ≤ i2 ∧ i2 < (gone2.length : Int)) <| asrt (0 ≤ (geti gone2 i2) ∧ (geti gone2 i2) < (r2.2.2.length : Int)) <| (gameroomref_PutStone_J8 gone2 out1 i2)

noncomputable def gameroomref_PutStone_L2 (r2 : (Int × Int × List Int)) (gone2 : List Int) : (List Int × Int) → Option (St (List Int × Int) (List Int)) :=
  fun (x : (List Int × Int)) => match x with | (out1, i2) => if (decide (i2 < (gone2.length : Int))) then ((gameroomref_PutStone_J7 r2 gone2 out1 i2)) else (some (.done out1))

noncomputable def gameroomref_PutStone_J9 (r2 : (Int × Int × List Int)) (gone2 : List Int) (out2 : List Int) : Option (Int × Int × List Int × Int × Int) :=
  some (r2.1, r2.2.1, out2, (gone2.length : Int), 0)

noncomputable def gameroomref_PutStone_J6 (place1 : Int) (r2 : (Int × Int × List Int)) (gone2 : List Int) (out2 : List Int) : Option (Int × Int × List Int × Int × Int) :=
  (gameroomref_GroupOf_m r2.1 r2.2.1 out2 place1).bind fun r4 => if ((r4.2.length : Int) == 0) then (some (0, 0, ([] : List Int), 0, 8)) else ((gameroomref_PutStone_J9 r2 gone2 out2))

noncomputable def gameroomref_PutStone_K2 (place1 : Int) (r2 : (Int × Int × List Int)) (gone2 : List Int) : (List Int) → Option (Int × Int × List Int × Int × Int) :=
  fun (x : (List Int)) => match x with | out2 => (gameroomref_PutStone_J6 place1 r2 gone2) out2

noncomputable def gameroomref_PutStone_J3 (who1 : Int) (place1 : Int) (r2 : (Int × Int × List Int)) (gone2 : List Int) : Option (Int × Int × List Int × Int × Int) :=
  (loop (gameroomref_PutStone_L2 r2 gone2) ((r2.2.2.set (Int.toNat place1) who1), 0)).bind (gameroomref_PutStone_K2 place1 r2 gone2)

noncomputable def gameroomref_PutStone_K1 (who1 : Int) (place1 : Int) (r2 : (Int × Int × List Int)) : (List Int) → Option (Int × Int × List Int × Int × Int) :=
  fun (x : (List Int)) => match x with | gone2 => (gameroomref_PutStone_J3 who1 place1 r2) gone2

noncomputable def gameroomref_PutStone_L1 (who1 : Int) (place1 : Int) (r2 : (Int × Int × List Int)) : (List Int × Int) → Option (St (List Int × Int) (List Int)) :=
  fun (x : (List Int × Int)) => match x with | (gone1, i1) => if (decide (i1 < (r2.2.2.length : Int))) then ((gameroomref_PutStone_J4 who1 place1 r2 gone1 i1)) else (some (.done gone1))

noncomputable def gameroomref_PutStone_J2 (g1 : Int) (g2 : Int) (g3 : List Int) (who1 : Int) (place1 : Int) : Option (Int × Int × List Int × Int × Int) :=
  (gameroomref_GridOf_m g1 g2 g3).bind fun r2 => asrt (0 ≤ place1 ∧ place1 < (r2.2.2.length : Int)) <| (loop (gameroomref_PutStone_L1 who1 place1 r2) (([] : List Int), 0)).bind (gameroomref_PutStone_K1 who1 place1 r2)

noncomputable def gameroomref_PutStone_J1 (g1 : Int) (g2 : Int) (g3 : List Int) (who1 : Int) (place1 : Int) : Option (Int × Int × List Int × Int × Int) :=
  asrt (0 ≤ place1 ∧ place1 < (g3.length : Int)) <| if ((geti g3 place1) != 0) then (some (0, 0, ([] : List Int), 0, 6)) else ((gameroomref_PutStone_J2 g1 g2 g3 who1 place1))

noncomputable def gameroomref_PutStone_m (g1 : Int) (g2 : Int) (g3 : List Int) (who1 : Int) (place1 : Int) : Option (Int × Int × List Int × Int × Int) :=
  (gameroomref_within_m place1 0 (w64 ((g3.length : Int) - 1))).bind fun r1 => if (!r1) then (some (0, 0, ([] : List Int), 0, 3)) else ((gameroomref_PutStone_J1 g1 g2 g3 who1 place1))

set_option maxRecDepth 100000 in
set_option maxHeartbeats 4000000 in
theorem gameroomref_PutStone_w {g1 : Int} {g2 : Int} {A1 : Option Addr} {c1 : Nat} {n1 : Nat} {g3 : List Int} {who1 : Int} {place1 : Int} {r : (Int × Int × List Int × Int × Int)} {w0 w : World} {B : Nat} {fs : List HP} (hm : gameroomref_PutStone_m g1 g2 g3 who1 place1 = some r) (hS : Sep w0 B w (fs)) (hr_g3 : RdF w0 B fs A1 (vI g3)) (_hc_g3 : g3.length ≤ c1) (_hn_g3 : n1 = g3.length) :
    Calls Try.prog 67 #[.agg #[.int .i64 g1, .int .i64 g2, .slice A1 n1 c1], .int .i64 who1, .int .i64 place1] w fun e w' => ∃ v, e = .returned v ∧ ∃ (A11 : Option Addr) (c11 : Nat), v = .tuple #[.agg #[.int .i64 r.1, .int .i64 r.2.1, .slice A11 r.2.2.1.length c11], .int .i64 r.2.2.2.1, .int .i64 r.2.2.2.2] ∧ Sep w0 B w' (own 3 (.slice A11 r.2.2.1.length c11) (vI r.2.2.1) :: fs) := by
  obtain ⟨i3, hi3, hz3, hs3, hb3⟩ := info_parts Info3
  obtain rfl := _hn_g3
  unfold gameroomref_PutStone_m at hm
  replace hm := start_b hm
  refine enter (l := [.agg #[.int .i64 g1, .int .i64 g2, .slice A1 g3.length c1], .int .i64 who1, .int .i64 place1]) (n := 93) Try.func67 rfl rfl (by simp) (fun a hF => ?_)
  refine seqR ?_
  refine at_do (d := 3) (s := vS (Instr.box 93 (.agg #[.int .i64 g1, .int .i64 g2, .slice A1 g3.length c1]))) (v := .pointer (some ⟨w.heap.size, 0, none⟩)) (w' := w.alloc (.cells #[.int .i64 g1, .int .i64 g2, .slice A1 g3.length c1] 93)) hF (by kernel_rfl) (by kernel_rfl) (by kernel_rfl) (fun a hF => ?_)
  have hS : Sep w0 B (w.alloc (.cells #[.int .i64 g1, .int .i64 g2, .slice A1 g3.length c1] 93)) (blk w.heap.size 93 #[.int .i64 g1, .int .i64 g2, .slice A1 g3.length c1] :: (fs)) := hS.box 93 #[.int .i64 g1, .int .i64 g2, .slice A1 g3.length c1]
  generalize w.heap.size = g4 at hF hS
  generalize w.alloc (.cells #[.int .i64 g1, .int .i64 g2, .slice A1 g3.length c1] 93) = w at hS ⊢
  refine at_do (d := 6) (s := vS (Instr.alloc 93 true (.tuple #[]))) (v := .pointer (some ⟨w.heap.size, 0, none⟩)) (w' := w.alloc (.cells #[.int .i64 0, .int .i64 0, .slice none 0 0] 93)) hF (by kernel_rfl) (by kernel_rfl) (by kernel_rfl) (fun a hF => ?_)
  have hS : Sep w0 B (w.alloc (.cells #[.int .i64 0, .int .i64 0, .slice none 0 0] 93)) (blk w.heap.size 93 #[.int .i64 0, .int .i64 0, .slice none 0 0] :: (blk g4 93 #[.int .i64 g1, .int .i64 g2, .slice A1 g3.length c1] :: fs)) := hS.box 93 #[.int .i64 0, .int .i64 0, .slice none 0 0]
  generalize w.heap.size = g5 at hF hS
  generalize w.alloc (.cells #[.int .i64 0, .int .i64 0, .slice none 0 0] 93) = w at hS ⊢
  refine at_run 2 [] [] [1, 2, 3, 6] [pl 1 (.int .i64 who1), pl 2 (.int .i64 place1), pl 3 (.pointer (some ⟨g4, 0, none⟩)), pl 6 (.pointer (some ⟨g5, 0, none⟩))] hF hS (by kernel_rfl) (by kernel_rfl) ?_ (fun a w hF hS => ?_)
  · exact obs_nil
  refine at_end [1, 2, 3, 6] [pl 1 (.int .i64 who1), pl 2 (.int .i64 place1), pl 3 (.pointer (some ⟨g4, 0, none⟩)), pl 6 (.pointer (some ⟨g5, 0, none⟩))] hF rfl (by kernel_rfl) (fun hF => ?_)
  refine then_n ?_
  refine seq_cut (fun a w => Fr 93 [pl 1 (.int .i64 who1), pl 2 (.int .i64 place1), pl 3 (.pointer (some ⟨g4, 0, none⟩)), pl 6 (.pointer (some ⟨g5, 0, none⟩))] a ∧ Sep w0 B w (blk g4 93 #[.int .i64 g1, .int .i64 g2, .slice A1 g3.length c1] :: blk g5 93 #[.int .i64 0, .int .i64 0, .slice none 0 0] :: fs) ∧ ((gameroomref_PutStone_J1 g1 g2 g3 who1 place1)).bind some = some r) ?_ ?_
  · rintro a w ⟨hF, hS, hm⟩
    unfold gameroomref_PutStone_J1 at hm
    refine seq_cut (fun a w => Fr 93 [pl 1 (.int .i64 who1), pl 2 (.int .i64 place1), pl 3 (.pointer (some ⟨g4, 0, none⟩)), pl 6 (.pointer (some ⟨g5, 0, none⟩))] a ∧ Sep w0 B w (blk g4 93 #[.int .i64 g1, .int .i64 g2, .slice A1 g3.length c1] :: blk g5 93 #[.int .i64 0, .int .i64 0, .slice none 0 0] :: fs) ∧ ((gameroomref_PutStone_J2 g1 g2 g3 who1 place1)).bind some = some r) ?_ ?_
    · rintro a w ⟨hF, hS, hm⟩
      unfold gameroomref_PutStone_J2 at hm
      refine seqR ?_
      obtain ⟨r2, hr2, hm⟩ := call_b hm
      refine at_run 1 [⟨false, [], vS (Instr.loadAt 93 (.pointer (some ⟨g4, 0, none⟩))), .agg #[.int .i64 g1, .int .i64 g2, .slice A1 g3.length c1]⟩] [some (.agg #[.int .i64 g1, .int .i64 g2, .slice A1 g3.length c1])] [1, 2, 6, 32] [pl 1 (.int .i64 who1), pl 2 (.int .i64 place1), pl 6 (.pointer (some ⟨g5, 0, none⟩)), pl 32 (.agg #[.int .i64 g1, .int .i64 g2, .slice A1 g3.length c1])] hF hS (by kernel_rfl) (by kernel_rfl) ?_ (fun a w hF hS => ?_)
      · exact obs_cons (ob_loadA (cs := #[.int .i64 g1, .int .i64 g2, .slice A1 g3.length c1]) (by kernel_rfl) (by kernel_rfl) (fun _ _ hS => (hS.at_ 0 rfl).cellsAt 0 (by rfl))) <| obs_nil
      refine at_call (f := 52) (args := #[.agg #[.int .i64 g1, .int .i64 g2, .slice A1 g3.length c1]]) (d := 33) hF (by kernel_rfl) (by kernel_rfl) Try.func52 (by kernel_rfl) rfl (gameroomref_GridOf_w hr2 hS (fun _ hS => (hr_g3 _ (hS.dropN 2))) _hc_g3 rfl) (fun v a w hR hF => ?_)
      clear hS
      obtain ⟨A2, c2, rfl, hS⟩ := hR
      have hS : Sep w0 B w (own 3 (.slice A2 r2.2.2.length c2) (vI r2.2.2) :: blk g4 93 #[.int .i64 g1, .int .i64 g2, .slice A1 g3.length c1] :: blk g5 93 #[.int .i64 0, .int .i64 0, .slice none 0 0] :: fs) := hS
      refine at_do (d := 9) (s := vS (Instr.alloc 93 true (.tuple #[]))) (v := .pointer (some ⟨w.heap.size, 0, none⟩)) (w' := w.alloc (.cells #[.int .i64 0, .int .i64 0, .slice none 0 0] 93)) hF (by kernel_rfl) (by kernel_rfl) (by kernel_rfl) (fun a hF => ?_)
      have hS : Sep w0 B (w.alloc (.cells #[.int .i64 0, .int .i64 0, .slice none 0 0] 93)) (blk w.heap.size 93 #[.int .i64 0, .int .i64 0, .slice none 0 0] :: (own 3 (.slice A2 r2.2.2.length c2) (vI r2.2.2) :: blk g4 93 #[.int .i64 g1, .int .i64 g2, .slice A1 g3.length c1] :: blk g5 93 #[.int .i64 0, .int .i64 0, .slice none 0 0] :: fs)) := hS.box 93 #[.int .i64 0, .int .i64 0, .slice none 0 0]
      generalize w.heap.size = g6 at hF hS
      generalize w.alloc (.cells #[.int .i64 0, .int .i64 0, .slice none 0 0] 93) = w at hS ⊢
      obtain ⟨w, hrun, hS⟩ := run_putA (P := Try.prog) (t := 93) (us := #[.int .i64 r2.1, .int .i64 r2.2.1, .slice A2 r2.2.2.length c2]) (o := 0) (hS.at_ 0 rfl) (by kernel_rfl) (all_one (by kernel_rfl)) (Nat.le_of_ble_eq_true (by kernel_rfl))
      refine at_skip hF (by kernel_rfl) hrun ?_
      have hS : Sep w0 B w (blk g6 93 #[.int .i64 r2.1, .int .i64 r2.2.1, .slice A2 r2.2.2.length c2] :: own 3 (.slice A2 r2.2.2.length c2) (vI r2.2.2) :: blk g4 93 #[.int .i64 g1, .int .i64 g2, .slice A1 g3.length c1] :: blk g5 93 #[.int .i64 0, .int .i64 0, .slice none 0 0] :: fs) := hS
      refine at_end [1, 2, 6, 9] [pl 1 (.int .i64 who1), pl 2 (.int .i64 place1), pl 6 (.pointer (some ⟨g5, 0, none⟩)), pl 9 (.pointer (some ⟨g6, 0, none⟩))] hF rfl (by kernel_rfl) (fun hF => ?_)
      refine then_n ?_
      refine seqR ?_
      obtain ⟨hp2, hm⟩ := asrt_b hm
      refine at_run 5 [⟨false, [], vS (Instr.loadAt 34 (.pointer (some ⟨g6, 2, none⟩))), .slice A2 r2.2.2.length c2⟩, ⟨true, [], vS (Instr.indexAt 34 (.slice A2 r2.2.2.length c2) (.int .i64 place1)), .pointer (some (sAddr A2 place1))⟩] [none, some (.slice A2 r2.2.2.length c2), none, none, some (.pointer (some (sAddr A2 place1)))] [1, 2, 6, 9, 37, 38] [pl 1 (.int .i64 who1), pl 2 (.int .i64 place1), pl 6 (.pointer (some ⟨g5, 0, none⟩)), pl 9 (.pointer (some ⟨g6, 0, none⟩)), pl 37 (.int .i64 who1), pl 38 (.pointer (some (sAddr A2 place1)))] hF hS (by kernel_rfl) (by kernel_rfl) ?_ (fun a w hF hS => ?_)
      · exact obs_cons (ob_load Agg34 (fun _ _ hS => (hS.at_ 0 rfl).cell rfl)) <| obs_cons (ob_ix1 (f := (Value.int .i64)) (m := r2.2.2) Und34 hi3 hs3 (hS.at_ 1 rfl).rd rfl (fun _ => hp2)) <| obs_nil
      obtain ⟨w, hrun, hS⟩ := run_set1 (P := Try.prog) (t := 3) (x := who1) (Value.int .i64) (hS.at_ 1 rfl) hi3 hs3 rfl rfl hp2
      refine at_skip hF (by kernel_rfl) hrun ?_
      have hS : Sep w0 B w (blk g6 93 #[.int .i64 r2.1, .int .i64 r2.2.1, .slice A2 r2.2.2.length c2] :: own 3 (.slice A2 r2.2.2.length c2) (vI (r2.2.2.set (Int.toNat place1) who1)) :: blk g4 93 #[.int .i64 g1, .int .i64 g2, .slice A1 g3.length c1] :: blk g5 93 #[.int .i64 0, .int .i64 0, .slice none 0 0] :: fs) := hS
      refine at_end [1, 2, 6, 9] [pl 1 (.int .i64 who1), pl 2 (.int .i64 place1), pl 6 (.pointer (some ⟨g5, 0, none⟩)), pl 9 (.pointer (some ⟨g6, 0, none⟩))] hF rfl (by kernel_rfl) (fun hF => ?_)
      refine then_n ?_
      refine reg [] [] [1, 2, 6, 9, 10] [pl 1 (.int .i64 who1), pl 2 (.int .i64 place1), pl 6 (.pointer (some ⟨g5, 0, none⟩)), pl 9 (.pointer (some ⟨g6, 0, none⟩)), pl 10 (.slice none 0 0)] hF hS Fol (by kernel_rfl) (by kernel_rfl) (by kernel_rfl) ?_ (fun a w hF hS => ?_)
      · exact obs_nil
      refine seq_cut (fun a w => ∃ (gone2 : List Int) (A4 : Option Addr) (c4 : Nat), Fr 93 [pl 2 (.int .i64 place1), pl 6 (.pointer (some ⟨g5, 0, none⟩)), pl 9 (.pointer (some ⟨g6, 0, none⟩)), pl 10 (.slice A4 gone2.length c4)] a ∧ Sep w0 B w (blk g5 93 #[.int .i64 0, .int .i64 0, .slice none 0 0] :: blk g6 93 #[.int .i64 r2.1, .int .i64 r2.2.1, .slice A2 r2.2.2.length c2] :: own 3 (.slice A2 r2.2.2.length c2) (vI (r2.2.2.set (Int.toNat place1) who1)) :: own 3 (.slice A4 gone2.length c4) (vI gone2) :: fs) ∧ ((gameroomref_PutStone_J3 who1 place1 r2) gone2).bind some = some r) ?_ ?_
      · rintro a w ⟨gone2, A4, c4, hF, hS, hm⟩
        unfold gameroomref_PutStone_J3 at hm
        refine seq_cut (fun a w => ∃ (out2 : List Int), Fr 93 [pl 2 (.int .i64 place1), pl 6 (.pointer (some ⟨g5, 0, none⟩)), pl 9 (.pointer (some ⟨g6, 0, none⟩)), pl 10 (.slice A4 gone2.length c4)] a ∧ Sep w0 B w (blk g5 93 #[.int .i64 0, .int .i64 0, .slice none 0 0] :: blk g6 93 #[.int .i64 r2.1, .int .i64 r2.2.1, .slice A2 r2.2.2.length c2] :: own 3 (.slice A2 r2.2.2.length c2) (vI out2) :: own 3 (.slice A4 gone2.length c4) (vI gone2) :: fs) ∧ ((gameroomref_PutStone_J6 place1 r2 gone2) out2).bind some = some r) ?_ ?_
        · rintro a w ⟨out2, hF, hS, hm⟩
          unfold gameroomref_PutStone_J6 at hm
          refine seqR ?_
          obtain ⟨r4, hr4, hm⟩ := call_b hm
          refine at_run 2 [⟨false, [], vS (Instr.loadAt 93 (.pointer (some ⟨g6, 0, none⟩))), .agg #[.int .i64 r2.1, .int .i64 r2.2.1, .slice A2 r2.2.2.length c2]⟩] [some (.agg #[.int .i64 r2.1, .int .i64 r2.2.1, .slice A2 r2.2.2.length c2]), none] [6, 9, 10, 81, 82] [pl 6 (.pointer (some ⟨g5, 0, none⟩)), pl 9 (.pointer (some ⟨g6, 0, none⟩)), pl 10 (.slice A4 gone2.length c4), pl 81 (.agg #[.int .i64 r2.1, .int .i64 r2.2.1, .slice A2 r2.2.2.length c2]), pl 82 (.int .i64 place1)] hF hS (by kernel_rfl) (by kernel_rfl) ?_ (fun a w hF hS => ?_)
          · exact obs_cons (ob_loadA (cs := #[.int .i64 r2.1, .int .i64 r2.2.1, .slice A2 r2.2.2.length c2]) (by kernel_rfl) (by kernel_rfl) (fun _ _ hS => (hS.at_ 1 rfl).cellsAt 0 (by rfl))) <| obs_nil
          refine at_call (f := 66) (args := #[.agg #[.int .i64 r2.1, .int .i64 r2.2.1, .slice A2 r2.2.2.length c2], .int .i64 place1]) (d := 83) hF (by kernel_rfl) (by kernel_rfl) Try.func66 (by kernel_rfl) rfl (gameroomref_GroupOf_w hr4 hS (fun _ hS => (hS.at_ 2 rfl).rd) ((hS.at_ 2 rfl).cap1) ((hS.at_ 2 rfl).len1)) (fun v a w hR hF => ?_)
          clear hS
          obtain ⟨A9, c9, A10, c10, rfl, hS⟩ := hR
          have hS : Sep w0 B w (own 3 (.slice A9 r4.1.length c9) (vI r4.1) :: own 3 (.slice A10 r4.2.length c10) (vI r4.2) :: blk g5 93 #[.int .i64 0, .int .i64 0, .slice none 0 0] :: blk g6 93 #[.int .i64 r2.1, .int .i64 r2.2.1, .slice A2 r2.2.2.length c2] :: own 3 (.slice A2 r2.2.2.length c2) (vI out2) :: own 3 (.slice A4 gone2.length c4) (vI gone2) :: fs) := hS
          refine at_run 5 [] [] [6, 9, 10, 16] [pl 6 (.pointer (some ⟨g5, 0, none⟩)), pl 9 (.pointer (some ⟨g6, 0, none⟩)), pl 10 (.slice A4 gone2.length c4), pl 16 (.slice A10 r4.2.length c10)] hF hS (by kernel_rfl) (by kernel_rfl) ?_ (fun a w hF hS => ?_)
          · exact obs_nil
          refine at_end [6, 9, 10, 16] [pl 6 (.pointer (some ⟨g5, 0, none⟩)), pl 9 (.pointer (some ⟨g6, 0, none⟩)), pl 10 (.slice A4 gone2.length c4), pl 16 (.slice A10 r4.2.length c10)] hF rfl (by kernel_rfl) (fun hF => ?_)
          refine then_n ?_
          refine seq_cut (fun a w => Fr 93 [pl 6 (.pointer (some ⟨g5, 0, none⟩)), pl 9 (.pointer (some ⟨g6, 0, none⟩)), pl 10 (.slice A4 gone2.length c4)] a ∧ Sep w0 B w (blk g5 93 #[.int .i64 0, .int .i64 0, .slice none 0 0] :: blk g6 93 #[.int .i64 r2.1, .int .i64 r2.2.1, .slice A2 r2.2.2.length c2] :: own 3 (.slice A2 r2.2.2.length c2) (vI out2) :: own 3 (.slice A4 gone2.length c4) (vI gone2) :: fs) ∧ ((gameroomref_PutStone_J9 r2 gone2 out2)).bind some = some r) ?_ ?_
          · rintro a w ⟨hF, hS, hm⟩
            unfold gameroomref_PutStone_J9 at hm
            refine seqR ?_
            refine at_run 3 [⟨false, [], vS (Instr.loadAt 93 (.pointer (some ⟨g6, 0, none⟩))), .agg #[.int .i64 r2.1, .int .i64 r2.2.1, .slice A2 r2.2.2.length c2]⟩] [some (.agg #[.int .i64 r2.1, .int .i64 r2.2.1, .slice A2 r2.2.2.length c2]), none, none] [6, 90, 92] [pl 6 (.pointer (some ⟨g5, 0, none⟩)), pl 90 (.agg #[.int .i64 r2.1, .int .i64 r2.2.1, .slice A2 r2.2.2.length c2]), pl 92 (.int .i64 (gone2.length : Int))] hF hS (by kernel_rfl) (by kernel_rfl) ?_ (fun a w hF hS => ?_)
            · exact obs_cons (ob_loadA (cs := #[.int .i64 r2.1, .int .i64 r2.2.1, .slice A2 r2.2.2.length c2]) (by kernel_rfl) (by kernel_rfl) (fun _ _ hS => (hS.at_ 1 rfl).cellsAt 0 (by rfl))) <| obs_nil
            obtain ⟨w, hrun, hS⟩ := run_putA (P := Try.prog) (t := 93) (us := #[.int .i64 r2.1, .int .i64 r2.2.1, .slice A2 r2.2.2.length c2]) (o := 0) (hS.at_ 0 rfl) (by kernel_rfl) (all_one (by kernel_rfl)) (Nat.le_of_ble_eq_true (by kernel_rfl))
            refine at_skip hF (by kernel_rfl) hrun ?_
            have hS : Sep w0 B w (blk g5 93 #[.int .i64 r2.1, .int .i64 r2.2.1, .slice A2 r2.2.2.length c2] :: blk g6 93 #[.int .i64 r2.1, .int .i64 r2.2.1, .slice A2 r2.2.2.length c2] :: own 3 (.slice A2 r2.2.2.length c2) (vI out2) :: own 3 (.slice A4 gone2.length c4) (vI gone2) :: fs) := hS
            refine at_run 2 [] [] [6, 7, 8] [pl 6 (.pointer (some ⟨g5, 0, none⟩)), pl 7 (.int .i64 (gone2.length : Int)), pl 8 (.int .i64 0)] hF hS (by kernel_rfl) (by kernel_rfl) ?_ (fun a w hF hS => ?_)
            · exact obs_nil
            refine at_end [6, 7, 8] [pl 6 (.pointer (some ⟨g5, 0, none⟩)), pl 7 (.int .i64 (gone2.length : Int)), pl 8 (.int .i64 0)] hF rfl (by kernel_rfl) (fun hF => ?_)
            refine then_n ?_
            refine wp_ret ?_
            have hl5 := (hS.at_ 2 rfl).len1
            have hS := (hS.at_ 2 rfl).reN hl5
            have hS := (hS.at_ 0 rfl).reBlk (congrArg (fun k9 => (#[.int .i64 r2.1, .int .i64 r2.2.1, .slice A2 k9 c2] : Array Value)) hl5)
            have hS := (hS.at_ 1 rfl).reBlk (congrArg (fun k9 => (#[.int .i64 r2.1, .int .i64 r2.2.1, .slice A2 k9 c2] : Array Value)) hl5)
            have hS : Sep w0 B w (blk g5 93 #[.int .i64 r2.1, .int .i64 r2.2.1, .slice A2 out2.length c2] :: blk g6 93 #[.int .i64 r2.1, .int .i64 r2.2.1, .slice A2 out2.length c2] :: own 3 (.slice A2 out2.length c2) (vI out2) :: own 3 (.slice A4 gone2.length c4) (vI gone2) :: fs) := hS
            have hld0 := run_loadVarA (P := Try.prog) (t := 93) (cs := #[.int .i64 r2.1, .int .i64 r2.2.1, .slice A2 out2.length c2]) (by kernel_rfl) (by kernel_rfl) ((hS.at_ 0 rfl).cellsAt 0 (by rfl))
            have hS := hS.pickN 4 [2] (by decide)
            have hm : some (r2.1, r2.2.1, out2, (gone2.length : Int), 0) = some r := hm
            obtain rfl := Option.some.inj hm
            exact retV (rs := [.cell 6 93, .tmp 7, .tmp 8]) (vs := [.agg #[.int .i64 r2.1, .int .i64 r2.2.1, .slice A2 out2.length c2], .int .i64 (gone2.length : Int), .int .i64 0]) hF rfl (rv_c (by kernel_rfl) hld0 <| rv_t (by kernel_rfl) <| rv_t (by kernel_rfl) <| rv_nil) rfl ⟨_, rfl, A2, c2, rfl, hS⟩
          · refine reg [] [] [6, 9, 10, 88] [pl 6 (.pointer (some ⟨g5, 0, none⟩)), pl 9 (.pointer (some ⟨g6, 0, none⟩)), pl 10 (.slice A4 gone2.length c4), pl 88 (.bool ((r4.2.length : Int) == 0))] hF hS Fol (by kernel_rfl) (by kernel_rfl) (by kernel_rfl) ?_ (fun a w hF hS => ?_)
            · exact obs_nil
            refine cond_ev (t := 88) (b := ((r4.2.length : Int) == 0)) hF (by kernel_rfl) (fun hb => ?_) (fun hb => ?_)
            · replace hm := if_t hm hb
              refine seqR ?_
              refine at_run 1 [] [] [6, 89] [pl 6 (.pointer (some ⟨g5, 0, none⟩)), pl 89 (.agg #[.int .i64 0, .int .i64 0, .slice none 0 0])] hF hS (by kernel_rfl) (by kernel_rfl) ?_ (fun a w hF hS => ?_)
              · exact obs_nil
              obtain ⟨w, hrun, hS⟩ := run_putA (P := Try.prog) (t := 93) (us := #[.int .i64 0, .int .i64 0, .slice none 0 0]) (o := 0) (hS.at_ 2 rfl) (by kernel_rfl) (all_one (by kernel_rfl)) (Nat.le_of_ble_eq_true (by kernel_rfl))
              refine at_skip hF (by kernel_rfl) hrun ?_
              have hS : Sep w0 B w (own 3 (.slice A9 r4.1.length c9) (vI r4.1) :: own 3 (.slice A10 r4.2.length c10) (vI r4.2) :: blk g5 93 #[.int .i64 0, .int .i64 0, .slice none 0 0] :: blk g6 93 #[.int .i64 r2.1, .int .i64 r2.2.1, .slice A2 r2.2.2.length c2] :: own 3 (.slice A2 r2.2.2.length c2) (vI out2) :: own 3 (.slice A4 gone2.length c4) (vI gone2) :: fs) := hS
              refine at_run 2 [] [] [6, 7, 8] [pl 6 (.pointer (some ⟨g5, 0, none⟩)), pl 7 (.int .i64 0), pl 8 (.int .i64 8)] hF hS (by kernel_rfl) (by kernel_rfl) ?_ (fun a w hF hS => ?_)
              · exact obs_nil
              refine at_end [6, 7, 8] [pl 6 (.pointer (some ⟨g5, 0, none⟩)), pl 7 (.int .i64 0), pl 8 (.int .i64 8)] hF rfl (by kernel_rfl) (fun hF => ?_)
              refine then_n ?_
              refine wp_ret ?_
              refine then_r ?_
              have hS : Sep w0 B w (own 3 (.slice none 0 0) (vI ([] : List Int)) :: own 3 (.slice A9 r4.1.length c9) (vI r4.1) :: own 3 (.slice A10 r4.2.length c10) (vI r4.2) :: blk g5 93 #[.int .i64 0, .int .i64 0, .slice none 0 0] :: blk g6 93 #[.int .i64 r2.1, .int .i64 r2.2.1, .slice A2 r2.2.2.length c2] :: own 3 (.slice A2 r2.2.2.length c2) (vI out2) :: own 3 (.slice A4 gone2.length c4) (vI gone2) :: fs) := hS.nil 3
              have hl4 := (hS.at_ 0 rfl).len1
              have hS := (hS.at_ 0 rfl).reN hl4
              have hS : Sep w0 B w (own 3 (.slice none (([] : List Int).length) 0) (vI ([] : List Int)) :: own 3 (.slice A9 r4.1.length c9) (vI r4.1) :: own 3 (.slice A10 r4.2.length c10) (vI r4.2) :: blk g5 93 #[.int .i64 0, .int .i64 0, .slice none 0 0] :: blk g6 93 #[.int .i64 r2.1, .int .i64 r2.2.1, .slice A2 r2.2.2.length c2] :: own 3 (.slice A2 r2.2.2.length c2) (vI out2) :: own 3 (.slice A4 gone2.length c4) (vI gone2) :: fs) := hS
              have hld0 := run_loadVarA (P := Try.prog) (t := 93) (cs := #[.int .i64 0, .int .i64 0, .slice none (([] : List Int).length) 0]) (by kernel_rfl) (by kernel_rfl) ((hS.at_ 3 rfl).cellsAt 0 (by rfl))
              have hS := hS.pickN 7 [0] (by decide)
              have hm : some (0, 0, ([] : List Int), 0, 8) = some r := hm
              obtain rfl := Option.some.inj hm
              exact retV (rs := [.cell 6 93, .tmp 7, .tmp 8]) (vs := [.agg #[.int .i64 0, .int .i64 0, .slice none (([] : List Int).length) 0], .int .i64 0, .int .i64 8]) hF rfl (rv_c (by kernel_rfl) hld0 <| rv_t (by kernel_rfl) <| rv_t (by kernel_rfl) <| rv_nil) rfl ⟨_, rfl, none, 0, rfl, hS⟩
            · replace hm := if_f hm hb
              refine wp_skip ?_
              refine then_n ?_
              have hS := hS.pickN 6 [2, 3, 4, 5] (by decide)
              exact ⟨hF.weak [6, 9, 10] (by kernel_rfl), hS, hm⟩
        · refine reg [] [] [2, 6, 9, 10, 14] [pl 2 (.int .i64 place1), pl 6 (.pointer (some ⟨g5, 0, none⟩)), pl 9 (.pointer (some ⟨g6, 0, none⟩)), pl 10 (.slice A4 gone2.length c4), pl 14 (.int .i64 0)] hF hS Fol (by kernel_rfl) (by kernel_rfl) (by kernel_rfl) ?_ (fun a w hF hS => ?_)
          · exact obs_nil
          refine wp_block ?_
          refine wp_loop_model (S := (List Int × Int)) (R := (List Int)) (gameroomref_PutStone_L2 r2 gone2) (fun x => ((gameroomref_PutStone_K2 place1 r2 gone2) x).bind some) r (fun (x : (List Int × Int)) a w => Fr 93 [pl 2 (.int .i64 place1), pl 6 (.pointer (some ⟨g5, 0, none⟩)), pl 9 (.pointer (some ⟨g6, 0, none⟩)), pl 10 (.slice A4 gone2.length c4), pl 14 (.int .i64 x.2)] a ∧ Sep w0 B w (blk g5 93 #[.int .i64 0, .int .i64 0, .slice none 0 0] :: blk g6 93 #[.int .i64 r2.1, .int .i64 r2.2.1, .slice A2 r2.2.2.length c2] :: own 3 (.slice A2 r2.2.2.length c2) (vI x.1) :: own 3 (.slice A4 gone2.length c4) (vI gone2) :: fs)) (assoc_b hm) ⟨hF.weak [2, 6, 9, 10, 14] (by kernel_rfl), hS⟩ ?_
          clear hF hS hm
          rintro nn2 ⟨out1, i2⟩ a w ⟨hF, hS⟩ hm
          generalize hφ2 : stK (gameroomref_PutStone_L2 r2 gone2) nn2 (fun x => ((gameroomref_PutStone_K2 place1 r2 gone2) x).bind some) = φ2 at hm
          unfold gameroomref_PutStone_L2 at hm
          dsimp only at hF hS hm
          refine seq_cut (fun a w => Fr 93 [pl 2 (.int .i64 place1), pl 6 (.pointer (some ⟨g5, 0, none⟩)), pl 9 (.pointer (some ⟨g6, 0, none⟩)), pl 10 (.slice A4 gone2.length c4), pl 14 (.int .i64 i2)] a ∧ Sep w0 B w (blk g5 93 #[.int .i64 0, .int .i64 0, .slice none 0 0] :: blk g6 93 #[.int .i64 r2.1, .int .i64 r2.2.1, .slice A2 r2.2.2.length c2] :: own 3 (.slice A2 r2.2.2.length c2) (vI out1) :: own 3 (.slice A4 gone2.length c4) (vI gone2) :: fs) ∧ ((gameroomref_PutStone_J7 r2 gone2 out1 i2)).bind φ2 = some r) ?_ ?_
          · rintro a w ⟨hF, hS, hm⟩
            unfold gameroomref_PutStone_J7 at hm
            refine seq_cut (fun a w => Fr 93 [pl 2 (.int .i64 place1), pl 6 (.pointer (some ⟨g5, 0, none⟩)), pl 9 (.pointer (some ⟨g6, 0, none⟩)), pl 10 (.slice A4 gone2.length c4), pl 14 (.int .i64 i2)] a ∧ Sep w0 B w (blk g5 93 #[.int .i64 0, .int .i64 0, .slice none 0 0] :: blk g6 93 #[.int .i64 r2.1, .int .i64 r2.2.1, .slice A2 r2.2.2.length c2] :: own 3 (.slice A2 r2.2.2.length c2) (vI (out1.set (Int.toNat (geti gone2 i2)) 0)) :: own 3 (.slice A4 gone2.length c4) (vI gone2) :: fs) ∧ ((gameroomref_PutStone_J8 gone2 out1 i2)).bind φ2 = some r) ?_ ?_
            · rintro a w ⟨hF, hS, hm⟩
              unfold gameroomref_PutStone_J8 at hm
              refine reg1 [] [] [2, 6, 9, 10, 14] [pl 2 (.int .i64 place1), pl 6 (.pointer (some ⟨g5, 0, none⟩)), pl 9 (.pointer (some ⟨g6, 0, none⟩)), pl 10 (.slice A4 gone2.length c4), pl 14 (.int .i64 (w64 (i2 + 1)))] hF hS Fol (by kernel_rfl) (by kernel_rfl) (by kernel_rfl) ?_ (fun a w hF hS => ?_)
              · exact obs_nil
              refine then_n ?_
              rw [← hφ2] at hm
              exact ⟨((out1.set (Int.toNat (geti gone2 i2)) 0), (w64 (i2 + 1))), ⟨hF.weak [2, 6, 9, 10, 14] (by kernel_rfl), hS⟩, hm⟩
            · refine wp_block ?_
              obtain ⟨hp5, hm⟩ := asrt_b hm
              obtain ⟨hp6, hm⟩ := asrt_b hm
              refine regMix4 [0, 1, 2, 3, 4, 5, 6] [7] [⟨false, [], vS (Instr.loadAt 34 (.pointer (some ⟨g6, 2, none⟩))), .slice A2 r2.2.2.length c2⟩, ⟨true, [], vS (Instr.indexAt 34 (.slice A4 gone2.length c4) (.int .i64 i2)), .pointer (some (sAddr A4 i2))⟩, ⟨false, [], vS (Instr.loadAt 3 (.pointer (some (sAddr A4 i2)))), .int .i64 (geti gone2 i2)⟩, ⟨true, [], vS (Instr.indexAt 34 (.slice A2 r2.2.2.length c2) (.int .i64 (geti gone2 i2))), .pointer (some (sAddr A2 (geti gone2 i2)))⟩] [none, some (.slice A2 r2.2.2.length c2), none, none, some (.pointer (some (sAddr A4 i2))), some (.int .i64 (geti gone2 i2)), some (.pointer (some (sAddr A2 (geti gone2 i2))))] [2, 6, 9, 10, 14, 79] [pl 2 (.int .i64 place1), pl 6 (.pointer (some ⟨g5, 0, none⟩)), pl 9 (.pointer (some ⟨g6, 0, none⟩)), pl 10 (.slice A4 gone2.length c4), pl 14 (.int .i64 i2), pl 79 (.pointer (some (sAddr A2 (geti gone2 i2))))] hF hS Fol (by kernel_rfl) (by kernel_rfl) (by kernel_rfl) (by kernel_rfl) (by kernel_rfl) ?_ (fun a w hF hS => ?_)
              · exact obs_cons (ob_load Agg34 (fun _ _ hS => (hS.at_ 1 rfl).cell rfl)) <| obs_cons (ob_ix1 (f := (Value.int .i64)) (m := gone2) Und34 hi3 hs3 (hS.at_ 3 rfl).rd rfl (fun _ => hp5)) <| obs_cons (ob_get1 (n := gone2.length) (m := gone2) (Value.int .i64) (0 : Int) Agg3 (fun _ hS => ⟨_, (hS.at_ 3 rfl).rd⟩) (fun _ hS => rfl) (fun _ => hp5)) <| obs_cons (ob_ix1 (f := (Value.int .i64)) (m := out1) Und34 hi3 hs3 (hS.at_ 2 rfl).rd ((hS.at_ 2 rfl).len1) (fun _ => hp6)) <| obs_nil
              obtain ⟨w, hrun, hS⟩ := run_set1 (P := Try.prog) (t := 3) (x := 0) (Value.int .i64) (hS.at_ 2 rfl) hi3 hs3 rfl rfl hp6
              refine at_skip hF (by kernel_rfl) hrun ?_
              have hS : Sep w0 B w (blk g5 93 #[.int .i64 0, .int .i64 0, .slice none 0 0] :: blk g6 93 #[.int .i64 r2.1, .int .i64 r2.2.1, .slice A2 r2.2.2.length c2] :: own 3 (.slice A2 r2.2.2.length c2) (vI (out1.set (Int.toNat (geti gone2 i2)) 0)) :: own 3 (.slice A4 gone2.length c4) (vI gone2) :: fs) := hS
              refine at_end [2, 6, 9, 10, 14] [pl 2 (.int .i64 place1), pl 6 (.pointer (some ⟨g5, 0, none⟩)), pl 9 (.pointer (some ⟨g6, 0, none⟩)), pl 10 (.slice A4 gone2.length c4), pl 14 (.int .i64 i2)] hF rfl (by kernel_rfl) (fun hF => ?_)
              refine np_n ?_
              refine block_n ?_
              refine then_n ?_
              exact ⟨hF.weak [2, 6, 9, 10, 14] (by kernel_rfl), hS, hm⟩
          · refine reg [] [] [2, 6, 9, 10, 14, 70] [pl 2 (.int .i64 place1), pl 6 (.pointer (some ⟨g5, 0, none⟩)), pl 9 (.pointer (some ⟨g6, 0, none⟩)), pl 10 (.slice A4 gone2.length c4), pl 14 (.int .i64 i2), pl 70 (.bool (decide (i2 < (gone2.length : Int))))] hF hS Fol (by kernel_rfl) (by kernel_rfl) (by kernel_rfl) ?_ (fun a w hF hS => ?_)
            · exact obs_nil
            refine cond_ev (t := 70) (b := decide (i2 < (gone2.length : Int))) hF (by kernel_rfl) (fun hb => ?_) (fun hb => ?_)
            · replace hm := if_t hm hb
              refine wp_skip ?_
              refine then_n ?_
              exact ⟨hF.weak [2, 6, 9, 10, 14] (by kernel_rfl), hS, hm⟩
            · replace hm := if_f hm hb
              refine wp_exit ?_
              refine then_e (then_e (block_e (then_n ?_)))
              rw [← hφ2] at hm
              replace hm := done_b hm
              unfold gameroomref_PutStone_K2 at hm
              try dsimp only at hm
              have hm : ((gameroomref_PutStone_J6 place1 r2 gone2) out1).bind some = some r := hm
              exact ⟨out1, hF.weak [2, 6, 9, 10] (by kernel_rfl), hS, hm⟩
      · refine reg [] [] [1, 2, 6, 9, 10, 11] [pl 1 (.int .i64 who1), pl 2 (.int .i64 place1), pl 6 (.pointer (some ⟨g5, 0, none⟩)), pl 9 (.pointer (some ⟨g6, 0, none⟩)), pl 10 (.slice none 0 0), pl 11 (.int .i64 0)] hF hS Fol (by kernel_rfl) (by kernel_rfl) (by kernel_rfl) ?_ (fun a w hF hS => ?_)
        · exact obs_nil
        refine wp_block ?_
        have hS : Sep w0 B w (own 3 (.slice none 0 0) (vI ([] : List Int)) :: blk g6 93 #[.int .i64 r2.1, .int .i64 r2.2.1, .slice A2 r2.2.2.length c2] :: own 3 (.slice A2 r2.2.2.length c2) (vI (r2.2.2.set (Int.toNat place1) who1)) :: blk g4 93 #[.int .i64 g1, .int .i64 g2, .slice A1 g3.length c1] :: blk g5 93 #[.int .i64 0, .int .i64 0, .slice none 0 0] :: fs) := hS.nil 3
        have hl3 := (hS.at_ 0 rfl).len1
        have hS := (hS.at_ 0 rfl).reN hl3
        have hS : Sep w0 B w (own 3 (.slice none (([] : List Int).length) 0) (vI ([] : List Int)) :: blk g6 93 #[.int .i64 r2.1, .int .i64 r2.2.1, .slice A2 r2.2.2.length c2] :: own 3 (.slice A2 r2.2.2.length c2) (vI (r2.2.2.set (Int.toNat place1) who1)) :: blk g4 93 #[.int .i64 g1, .int .i64 g2, .slice A1 g3.length c1] :: blk g5 93 #[.int .i64 0, .int .i64 0, .slice none 0 0] :: fs) := hS
        have hF := hF.cast (t := 10) (v := .slice none 0 0) (v' := .slice none (([] : List Int).length) 0) rfl rfl (congrArg (fun k => Value.slice none k 0) hl3)
        have hS := hS.pickN 5 [4, 1, 2, 0] (by decide)
        refine wp_loop_model (S := (List Int × Int)) (R := (List Int)) (gameroomref_PutStone_L1 who1 place1 r2) (fun x => ((gameroomref_PutStone_K1 who1 place1 r2) x).bind some) r (fun (x : (List Int × Int)) a w => ∃ (A3 : Option Addr) (c3 : Nat), Fr 93 [pl 1 (.int .i64 who1), pl 2 (.int .i64 place1), pl 6 (.pointer (some ⟨g5, 0, none⟩)), pl 9 (.pointer (some ⟨g6, 0, none⟩)), pl 10 (.slice A3 x.1.length c3), pl 11 (.int .i64 x.2)] a ∧ Sep w0 B w (blk g5 93 #[.int .i64 0, .int .i64 0, .slice none 0 0] :: blk g6 93 #[.int .i64 r2.1, .int .i64 r2.2.1, .slice A2 r2.2.2.length c2] :: own 3 (.slice A2 r2.2.2.length c2) (vI (r2.2.2.set (Int.toNat place1) who1)) :: own 3 (.slice A3 x.1.length c3) (vI x.1) :: fs)) (assoc_b hm) ⟨none, 0, hF.weak [1, 2, 6, 9, 10, 11] (by kernel_rfl), hS⟩ ?_
        clear hF hS hm
        rintro nn1 ⟨gone1, i1⟩ a w ⟨A3, c3, hF, hS⟩ hm
        generalize hφ1 : stK (gameroomref_PutStone_L1 who1 place1 r2) nn1 (fun x => ((gameroomref_PutStone_K1 who1 place1 r2) x).bind some) = φ1 at hm
        unfold gameroomref_PutStone_L1 at hm
        dsimp only at hF hS hm
        refine seq_cut (fun a w => Fr 93 [pl 1 (.int .i64 who1), pl 2 (.int .i64 place1), pl 6 (.pointer (some ⟨g5, 0, none⟩)), pl 9 (.pointer (some ⟨g6, 0, none⟩)), pl 10 (.slice A3 gone1.length c3), pl 11 (.int .i64 i1)] a ∧ Sep w0 B w (blk g5 93 #[.int .i64 0, .int .i64 0, .slice none 0 0] :: blk g6 93 #[.int .i64 r2.1, .int .i64 r2.2.1, .slice A2 r2.2.2.length c2] :: own 3 (.slice A2 r2.2.2.length c2) (vI (r2.2.2.set (Int.toNat place1) who1)) :: own 3 (.slice A3 gone1.length c3) (vI gone1) :: fs) ∧ ((gameroomref_PutStone_J4 who1 place1 r2 gone1 i1)).bind φ1 = some r) ?_ ?_
        · rintro a w ⟨hF, hS, hm⟩
          unfold gameroomref_PutStone_J4 at hm
          refine seq_cut (fun a w => ∃ (gone3 : List Int) (A8 : Option Addr) (c8 : Nat), Fr 93 [pl 1 (.int .i64 who1), pl 2 (.int .i64 place1), pl 6 (.pointer (some ⟨g5, 0, none⟩)), pl 9 (.pointer (some ⟨g6, 0, none⟩)), pl 10 (.slice A8 gone3.length c8), pl 11 (.int .i64 i1)] a ∧ Sep w0 B w (blk g5 93 #[.int .i64 0, .int .i64 0, .slice none 0 0] :: blk g6 93 #[.int .i64 r2.1, .int .i64 r2.2.1, .slice A2 r2.2.2.length c2] :: own 3 (.slice A2 r2.2.2.length c2) (vI (r2.2.2.set (Int.toNat place1) who1)) :: own 3 (.slice A8 gone3.length c8) (vI gone3) :: fs) ∧ ((gameroomref_PutStone_J5 i1) gone3).bind φ1 = some r) ?_ ?_
          · rintro a w ⟨gone3, A8, c8, hF, hS, hm⟩
            unfold gameroomref_PutStone_J5 at hm
            refine reg1 [] [] [1, 2, 6, 9, 10, 11] [pl 1 (.int .i64 who1), pl 2 (.int .i64 place1), pl 6 (.pointer (some ⟨g5, 0, none⟩)), pl 9 (.pointer (some ⟨g6, 0, none⟩)), pl 10 (.slice A8 gone3.length c8), pl 11 (.int .i64 (w64 (i1 + 1)))] hF hS Fol (by kernel_rfl) (by kernel_rfl) (by kernel_rfl) ?_ (fun a w hF hS => ?_)
            · exact obs_nil
            refine then_n ?_
            rw [← hφ1] at hm
            exact ⟨(gone3, (w64 (i1 + 1))), ⟨A8, c8, hF.weak [1, 2, 6, 9, 10, 11] (by kernel_rfl), hS⟩, hm⟩
          · refine wp_block ?_
            obtain ⟨hp3, hm⟩ := asrt_b hm
            refine reg [⟨false, [], vS (Instr.loadAt 34 (.pointer (some ⟨g6, 2, none⟩))), .slice A2 r2.2.2.length c2⟩, ⟨true, [], vS (Instr.indexAt 34 (.slice A2 r2.2.2.length c2) (.int .i64 i1)), .pointer (some (sAddr A2 i1))⟩, ⟨false, [], vS (Instr.loadAt 3 (.pointer (some (sAddr A2 i1)))), .int .i64 (geti (r2.2.2.set (Int.toNat place1) who1) i1)⟩] [none, some (.slice A2 r2.2.2.length c2), none, some (.pointer (some (sAddr A2 i1))), some (.int .i64 (geti (r2.2.2.set (Int.toNat place1) who1) i1)), none, none, none] [1, 2, 6, 9, 10, 11, 53] [pl 1 (.int .i64 who1), pl 2 (.int .i64 place1), pl 6 (.pointer (some ⟨g5, 0, none⟩)), pl 9 (.pointer (some ⟨g6, 0, none⟩)), pl 10 (.slice A3 gone1.length c3), pl 11 (.int .i64 i1), pl 53 (.bool ((geti (r2.2.2.set (Int.toNat place1) who1) i1) == (w64 (3 - who1))))] hF hS Fol (by kernel_rfl) (by kernel_rfl) (by kernel_rfl) ?_ (fun a w hF hS => ?_)
            · exact obs_cons (ob_load Agg34 (fun _ _ hS => (hS.at_ 1 rfl).cell rfl)) <| obs_cons (ob_ix1 (f := (Value.int .i64)) (m := (r2.2.2.set (Int.toNat place1) who1)) Und34 hi3 hs3 (hS.at_ 2 rfl).rd ((hS.at_ 2 rfl).len1) (fun _ => hp3)) <| obs_cons (ob_get1 (n := r2.2.2.length) (m := (r2.2.2.set (Int.toNat place1) who1)) (Value.int .i64) (0 : Int) Agg3 (fun _ hS => ⟨_, (hS.at_ 2 rfl).rd⟩) (fun _ hS => ((hS.at_ 2 rfl).len1)) (fun _ => hp3)) <| obs_nil
            refine cond_ev (t := 53) (b := ((geti (r2.2.2.set (Int.toNat place1) who1) i1) == (w64 (3 - who1)))) hF (by kernel_rfl) (fun hb => ?_) (fun hb => ?_)
            · replace hm := if_t hm hb
              refine seqR ?_
              obtain ⟨r3, hr3, hm⟩ := call_b hm
              refine at_run 2 [⟨false, [], vS (Instr.loadAt 93 (.pointer (some ⟨g6, 0, none⟩))), .agg #[.int .i64 r2.1, .int .i64 r2.2.1, .slice A2 r2.2.2.length c2]⟩] [some (.agg #[.int .i64 r2.1, .int .i64 r2.2.1, .slice A2 r2.2.2.length c2]), none] [1, 2, 6, 9, 10, 11, 55, 56] [pl 1 (.int .i64 who1), pl 2 (.int .i64 place1), pl 6 (.pointer (some ⟨g5, 0, none⟩)), pl 9 (.pointer (some ⟨g6, 0, none⟩)), pl 10 (.slice A3 gone1.length c3), pl 11 (.int .i64 i1), pl 55 (.agg #[.int .i64 r2.1, .int .i64 r2.2.1, .slice A2 r2.2.2.length c2]), pl 56 (.int .i64 i1)] hF hS (by kernel_rfl) (by kernel_rfl) ?_ (fun a w hF hS => ?_)
              · exact obs_cons (ob_loadA (cs := #[.int .i64 r2.1, .int .i64 r2.2.1, .slice A2 r2.2.2.length c2]) (by kernel_rfl) (by kernel_rfl) (fun _ _ hS => (hS.at_ 1 rfl).cellsAt 0 (by rfl))) <| obs_nil
              refine at_call (f := 66) (args := #[.agg #[.int .i64 r2.1, .int .i64 r2.2.1, .slice A2 r2.2.2.length c2], .int .i64 i1]) (d := 57) hF (by kernel_rfl) (by kernel_rfl) Try.func66 (by kernel_rfl) rfl (gameroomref_GroupOf_w hr3 hS (fun _ hS => (hS.at_ 2 rfl).rd) ((hS.at_ 2 rfl).cap1) ((hS.at_ 2 rfl).len1)) (fun v a w hR hF => ?_)
              clear hS
              obtain ⟨A5, c5, A6, c6, rfl, hS⟩ := hR
              have hS : Sep w0 B w (own 3 (.slice A5 r3.1.length c5) (vI r3.1) :: own 3 (.slice A6 r3.2.length c6) (vI r3.2) :: blk g5 93 #[.int .i64 0, .int .i64 0, .slice none 0 0] :: blk g6 93 #[.int .i64 r2.1, .int .i64 r2.2.1, .slice A2 r2.2.2.length c2] :: own 3 (.slice A2 r2.2.2.length c2) (vI (r2.2.2.set (Int.toNat place1) who1)) :: own 3 (.slice A3 gone1.length c3) (vI gone1) :: fs) := hS
              refine at_run 5 [] [] [1, 2, 6, 9, 10, 11, 13] [pl 1 (.int .i64 who1), pl 2 (.int .i64 place1), pl 6 (.pointer (some ⟨g5, 0, none⟩)), pl 9 (.pointer (some ⟨g6, 0, none⟩)), pl 10 (.slice A3 gone1.length c3), pl 11 (.int .i64 i1), pl 13 (.slice A6 r3.2.length c6)] hF hS (by kernel_rfl) (by kernel_rfl) ?_ (fun a w hF hS => ?_)
              · exact obs_nil
              refine at_end [1, 2, 6, 9, 10, 11, 13] [pl 1 (.int .i64 who1), pl 2 (.int .i64 place1), pl 6 (.pointer (some ⟨g5, 0, none⟩)), pl 9 (.pointer (some ⟨g6, 0, none⟩)), pl 10 (.slice A3 gone1.length c3), pl 11 (.int .i64 i1), pl 13 (.slice A6 r3.2.length c6)] hF rfl (by kernel_rfl) (fun hF => ?_)
              refine then_n ?_
              refine reg [] [] [1, 2, 6, 9, 10, 11, 62] [pl 1 (.int .i64 who1), pl 2 (.int .i64 place1), pl 6 (.pointer (some ⟨g5, 0, none⟩)), pl 9 (.pointer (some ⟨g6, 0, none⟩)), pl 10 (.slice A3 gone1.length c3), pl 11 (.int .i64 i1), pl 62 (.bool ((r3.2.length : Int) == 0))] hF hS Fol (by kernel_rfl) (by kernel_rfl) (by kernel_rfl) ?_ (fun a w hF hS => ?_)
              · exact obs_nil
              refine cond_ev (t := 62) (b := ((r3.2.length : Int) == 0)) hF (by kernel_rfl) (fun hb => ?_) (fun hb => ?_)
              · replace hm := if_t hm hb
                refine oneR ?_
                obtain ⟨hp4, hm⟩ := asrt_b hm
                refine at_run 2 [] [] [1, 2, 6, 9, 11, 63, 64] [pl 1 (.int .i64 who1), pl 2 (.int .i64 place1), pl 6 (.pointer (some ⟨g5, 0, none⟩)), pl 9 (.pointer (some ⟨g6, 0, none⟩)), pl 11 (.int .i64 i1), pl 63 (.slice A3 gone1.length c3), pl 64 (.int .i64 i1)] hF hS (by kernel_rfl) (by kernel_rfl) ?_ (fun a w hF hS => ?_)
                · exact obs_nil
                refine at_do (d := 65) (s := vS (Instr.buildSlice 34 1 #[(0, .int .i64 i1)])) (v := .slice (some ⟨w.heap.size, 0, none⟩) 1 1) (w' := w.alloc (.cells #[.int .i64 i1] 3)) hF (by kernel_rfl) (by kernel_rfl) (by kernel_rfl) (fun a hF => ?_)
                have hS : Sep w0 B (w.alloc (.cells #[.int .i64 i1] 3)) (own 3 (.slice (some (⟨w.heap.size, 0, none⟩ : Addr)) 1 1) (vI ([i1] : List Int)) :: (own 3 (.slice A5 r3.1.length c5) (vI r3.1) :: own 3 (.slice A6 r3.2.length c6) (vI r3.2) :: blk g5 93 #[.int .i64 0, .int .i64 0, .slice none 0 0] :: blk g6 93 #[.int .i64 r2.1, .int .i64 r2.2.1, .slice A2 r2.2.2.length c2] :: own 3 (.slice A2 r2.2.2.length c2) (vI (r2.2.2.set (Int.toNat place1) who1)) :: own 3 (.slice A3 gone1.length c3) (vI gone1) :: fs)) := hS.lit 3 #[.int .i64 i1] 1 rfl (by omega)
                generalize (some (⟨w.heap.size, 0, none⟩ : Addr)) = g7 at hF hS
                generalize w.alloc (.cells #[.int .i64 i1] 3) = w at hS ⊢
                obtain ⟨A7, c7, w, hrun, hS⟩ := run_app1 (P := Try.prog) (t := 34) (m := gone1) (ys := ([i1] : List Int)) (A2 := g7) (m2 := 1) (c2 := 1) (Value.int .i64) (0 : Int) (hS.at_ 6 rfl) (hS.at_ 0 rfl).rd ((hS.at_ 0 rfl).len1) 34 Und34 hi3 hz3 hs3 (by omega) rfl (fun _ => rfl) hp4
                have hS : Sep w0 B w (own 3 (.slice g7 1 1) (vI ([i1] : List Int)) :: own 3 (.slice A5 r3.1.length c5) (vI r3.1) :: own 3 (.slice A6 r3.2.length c6) (vI r3.2) :: blk g5 93 #[.int .i64 0, .int .i64 0, .slice none 0 0] :: blk g6 93 #[.int .i64 r2.1, .int .i64 r2.2.1, .slice A2 r2.2.2.length c2] :: own 3 (.slice A2 r2.2.2.length c2) (vI (r2.2.2.set (Int.toNat place1) who1)) :: own 3 (.slice A7 ((gone1 ++ ([i1] : List Int)).length) c7) (vI (gone1 ++ ([i1] : List Int))) :: fs) := hS
                refine at_do (d := 66) hF (by kernel_rfl) (by kernel_rfl) hrun (fun a hF => ?_)
                refine at_run 1 [] [] [1, 2, 6, 9, 10, 11] [pl 1 (.int .i64 who1), pl 2 (.int .i64 place1), pl 6 (.pointer (some ⟨g5, 0, none⟩)), pl 9 (.pointer (some ⟨g6, 0, none⟩)), pl 10 (.slice A7 ((gone1 ++ ([i1] : List Int)).length) c7), pl 11 (.int .i64 i1)] hF hS (by kernel_rfl) (by kernel_rfl) ?_ (fun a w hF hS => ?_)
                · exact obs_nil
                refine at_end [1, 2, 6, 9, 10, 11] [pl 1 (.int .i64 who1), pl 2 (.int .i64 place1), pl 6 (.pointer (some ⟨g5, 0, none⟩)), pl 9 (.pointer (some ⟨g6, 0, none⟩)), pl 10 (.slice A7 ((gone1 ++ ([i1] : List Int)).length) c7), pl 11 (.int .i64 i1)] hF rfl (by kernel_rfl) (fun hF => ?_)
                refine block_n ?_
                refine then_n ?_
                have hS := hS.pickN 7 [3, 4, 5, 6] (by decide)
                exact ⟨(gone1 ++ ([i1] : List Int)), A7, c7, hF.weak [1, 2, 6, 9, 10, 11] (by kernel_rfl), hS, hm⟩
              · replace hm := if_f hm hb
                refine wp_skip ?_
                refine block_n ?_
                refine then_n ?_
                have hS := hS.pickN 6 [2, 3, 4, 5] (by decide)
                exact ⟨gone1, A3, c3, hF.weak [1, 2, 6, 9, 10, 11] (by kernel_rfl), hS, hm⟩
            · replace hm := if_f hm hb
              refine wp_skip ?_
              refine block_n ?_
              refine then_n ?_
              exact ⟨gone1, A3, c3, hF.weak [1, 2, 6, 9, 10, 11] (by kernel_rfl), hS, hm⟩
        · refine reg [⟨false, [], vS (Instr.loadAt 34 (.pointer (some ⟨g6, 2, none⟩))), .slice A2 r2.2.2.length c2⟩] [none, none, some (.slice A2 r2.2.2.length c2), none, none] [1, 2, 6, 9, 10, 11, 43] [pl 1 (.int .i64 who1), pl 2 (.int .i64 place1), pl 6 (.pointer (some ⟨g5, 0, none⟩)), pl 9 (.pointer (some ⟨g6, 0, none⟩)), pl 10 (.slice A3 gone1.length c3), pl 11 (.int .i64 i1), pl 43 (.bool (decide (i1 < (r2.2.2.length : Int))))] hF hS Fol (by kernel_rfl) (by kernel_rfl) (by kernel_rfl) ?_ (fun a w hF hS => ?_)
          · exact obs_cons (ob_load Agg34 (fun _ _ hS => (hS.at_ 1 rfl).cell rfl)) <| obs_nil
          refine cond_ev (t := 43) (b := decide (i1 < (r2.2.2.length : Int))) hF (by kernel_rfl) (fun hb => ?_) (fun hb => ?_)
          · replace hm := if_t hm hb
            refine wp_skip ?_
            refine then_n ?_
            exact ⟨hF.weak [1, 2, 6, 9, 10, 11] (by kernel_rfl), hS, hm⟩
          · replace hm := if_f hm hb
            refine wp_exit ?_
            refine then_e (then_e (block_e (then_n ?_)))
            rw [← hφ1] at hm
            replace hm := done_b hm
            unfold gameroomref_PutStone_K1 at hm
            try dsimp only at hm
            have hm : ((gameroomref_PutStone_J3 who1 place1 r2) gone1).bind some = some r := hm
            exact ⟨gone1, A3, c3, hF.weak [2, 6, 9, 10] (by kernel_rfl), hS, hm⟩
    · obtain ⟨hp1, hm⟩ := asrt_b hm
      refine reg [⟨false, [], vS (Instr.loadAt 34 (.pointer (some ⟨g4, 2, none⟩))), .slice A1 g3.length c1⟩, ⟨true, [], vS (Instr.indexAt 34 (.slice A1 g3.length c1) (.int .i64 place1)), .pointer (some (sAddr A1 place1))⟩, ⟨false, [], vS (Instr.loadAt 3 (.pointer (some (sAddr A1 place1)))), .int .i64 (geti g3 place1)⟩] [none, some (.slice A1 g3.length c1), none, some (.pointer (some (sAddr A1 place1))), some (.int .i64 (geti g3 place1)), none] [1, 2, 3, 6, 30] [pl 1 (.int .i64 who1), pl 2 (.int .i64 place1), pl 3 (.pointer (some ⟨g4, 0, none⟩)), pl 6 (.pointer (some ⟨g5, 0, none⟩)), pl 30 (.bool ((geti g3 place1) != 0))] hF hS Fol (by kernel_rfl) (by kernel_rfl) (by kernel_rfl) ?_ (fun a w hF hS => ?_)
      · exact obs_cons (ob_load Agg34 (fun _ _ hS => (hS.at_ 0 rfl).cell rfl)) <| obs_cons (ob_ix1 (f := (Value.int .i64)) (m := g3) Und34 hi3 hs3 (hr_g3 _ (hS.dropN 2)) rfl (fun _ => hp1)) <| obs_cons (ob_get1 (n := g3.length) (m := g3) (Value.int .i64) (0 : Int) Agg3 (fun _ hS => ⟨_, (hr_g3 _ (hS.dropN 2))⟩) (fun _ hS => rfl) (fun _ => hp1)) <| obs_nil
      refine cond_ev (t := 30) (b := ((geti g3 place1) != 0)) hF (by kernel_rfl) (fun hb => ?_) (fun hb => ?_)
      · replace hm := if_t hm hb
        refine seqR ?_
        refine at_run 1 [] [] [6, 31] [pl 6 (.pointer (some ⟨g5, 0, none⟩)), pl 31 (.agg #[.int .i64 0, .int .i64 0, .slice none 0 0])] hF hS (by kernel_rfl) (by kernel_rfl) ?_ (fun a w hF hS => ?_)
        · exact obs_nil
        obtain ⟨w, hrun, hS⟩ := run_putA (P := Try.prog) (t := 93) (us := #[.int .i64 0, .int .i64 0, .slice none 0 0]) (o := 0) (hS.at_ 1 rfl) (by kernel_rfl) (all_one (by kernel_rfl)) (Nat.le_of_ble_eq_true (by kernel_rfl))
        refine at_skip hF (by kernel_rfl) hrun ?_
        have hS : Sep w0 B w (blk g4 93 #[.int .i64 g1, .int .i64 g2, .slice A1 g3.length c1] :: blk g5 93 #[.int .i64 0, .int .i64 0, .slice none 0 0] :: fs) := hS
        refine at_run 2 [] [] [6, 7, 8] [pl 6 (.pointer (some ⟨g5, 0, none⟩)), pl 7 (.int .i64 0), pl 8 (.int .i64 6)] hF hS (by kernel_rfl) (by kernel_rfl) ?_ (fun a w hF hS => ?_)
        · exact obs_nil
        refine at_end [6, 7, 8] [pl 6 (.pointer (some ⟨g5, 0, none⟩)), pl 7 (.int .i64 0), pl 8 (.int .i64 6)] hF rfl (by kernel_rfl) (fun hF => ?_)
        refine then_n ?_
        refine wp_ret ?_
        refine then_r ?_
        have hS : Sep w0 B w (own 3 (.slice none 0 0) (vI ([] : List Int)) :: blk g4 93 #[.int .i64 g1, .int .i64 g2, .slice A1 g3.length c1] :: blk g5 93 #[.int .i64 0, .int .i64 0, .slice none 0 0] :: fs) := hS.nil 3
        have hl2 := (hS.at_ 0 rfl).len1
        have hS := (hS.at_ 0 rfl).reN hl2
        have hS : Sep w0 B w (own 3 (.slice none (([] : List Int).length) 0) (vI ([] : List Int)) :: blk g4 93 #[.int .i64 g1, .int .i64 g2, .slice A1 g3.length c1] :: blk g5 93 #[.int .i64 0, .int .i64 0, .slice none 0 0] :: fs) := hS
        have hld0 := run_loadVarA (P := Try.prog) (t := 93) (cs := #[.int .i64 0, .int .i64 0, .slice none (([] : List Int).length) 0]) (by kernel_rfl) (by kernel_rfl) ((hS.at_ 2 rfl).cellsAt 0 (by rfl))
        have hS := hS.pickN 3 [0] (by decide)
        have hm : some (0, 0, ([] : List Int), 0, 6) = some r := hm
        obtain rfl := Option.some.inj hm
        exact retV (rs := [.cell 6 93, .tmp 7, .tmp 8]) (vs := [.agg #[.int .i64 0, .int .i64 0, .slice none (([] : List Int).length) 0], .int .i64 0, .int .i64 6]) hF rfl (rv_c (by kernel_rfl) hld0 <| rv_t (by kernel_rfl) <| rv_t (by kernel_rfl) <| rv_nil) rfl ⟨_, rfl, none, 0, rfl, hS⟩
      · replace hm := if_f hm hb
        refine wp_skip ?_
        refine then_n ?_
        exact ⟨hF.weak [1, 2, 3, 6] (by kernel_rfl), hS, hm⟩
  · obtain ⟨r1, hr1, hm⟩ := call_b hm
    refine reg [⟨false, [], vS (Instr.loadAt 34 (.pointer (some ⟨g4, 2, none⟩))), .slice A1 g3.length c1⟩, ⟨false, [], callFunc 74 #[.int .i64 place1, .int .i64 0, .int .i64 (w64 ((g3.length : Int) - 1))], .bool r1⟩] [none, none, some (.slice A1 g3.length c1), none, none, some (.bool r1), none] [1, 2, 3, 6, 23] [pl 1 (.int .i64 who1), pl 2 (.int .i64 place1), pl 3 (.pointer (some ⟨g4, 0, none⟩)), pl 6 (.pointer (some ⟨g5, 0, none⟩)), pl 23 (.bool (!r1))] hF hS Fol (by kernel_rfl) (by kernel_rfl) (by kernel_rfl) ?_ (fun a w hF hS => ?_)
    · exact obs_cons (ob_load Agg34 (fun _ _ hS => (hS.at_ 1 rfl).cell rfl)) <| obs_cons (ob_call Try.func74 (by kernel_rfl) rfl (fun _ _ hS => gameroomref_within_w hr1 hS )) <| obs_nil
    refine cond_ev (t := 23) (b := !r1) hF (by kernel_rfl) (fun hb => ?_) (fun hb => ?_)
    · replace hm := if_t hm hb
      refine seqR ?_
      refine at_run 1 [] [] [6, 24] [pl 6 (.pointer (some ⟨g5, 0, none⟩)), pl 24 (.agg #[.int .i64 0, .int .i64 0, .slice none 0 0])] hF hS (by kernel_rfl) (by kernel_rfl) ?_ (fun a w hF hS => ?_)
      · exact obs_nil
      obtain ⟨w, hrun, hS⟩ := run_putA (P := Try.prog) (t := 93) (us := #[.int .i64 0, .int .i64 0, .slice none 0 0]) (o := 0) (hS.at_ 0 rfl) (by kernel_rfl) (all_one (by kernel_rfl)) (Nat.le_of_ble_eq_true (by kernel_rfl))
      refine at_skip hF (by kernel_rfl) hrun ?_
      have hS : Sep w0 B w (blk g5 93 #[.int .i64 0, .int .i64 0, .slice none 0 0] :: blk g4 93 #[.int .i64 g1, .int .i64 g2, .slice A1 g3.length c1] :: fs) := hS
      refine at_run 2 [] [] [6, 7, 8] [pl 6 (.pointer (some ⟨g5, 0, none⟩)), pl 7 (.int .i64 0), pl 8 (.int .i64 3)] hF hS (by kernel_rfl) (by kernel_rfl) ?_ (fun a w hF hS => ?_)
      · exact obs_nil
      refine at_end [6, 7, 8] [pl 6 (.pointer (some ⟨g5, 0, none⟩)), pl 7 (.int .i64 0), pl 8 (.int .i64 3)] hF rfl (by kernel_rfl) (fun hF => ?_)
      refine then_n ?_
      refine wp_ret ?_
      refine then_r ?_
      have hS : Sep w0 B w (own 3 (.slice none 0 0) (vI ([] : List Int)) :: blk g5 93 #[.int .i64 0, .int .i64 0, .slice none 0 0] :: blk g4 93 #[.int .i64 g1, .int .i64 g2, .slice A1 g3.length c1] :: fs) := hS.nil 3
      have hl1 := (hS.at_ 0 rfl).len1
      have hS := (hS.at_ 0 rfl).reN hl1
      have hS : Sep w0 B w (own 3 (.slice none (([] : List Int).length) 0) (vI ([] : List Int)) :: blk g5 93 #[.int .i64 0, .int .i64 0, .slice none 0 0] :: blk g4 93 #[.int .i64 g1, .int .i64 g2, .slice A1 g3.length c1] :: fs) := hS
      have hld0 := run_loadVarA (P := Try.prog) (t := 93) (cs := #[.int .i64 0, .int .i64 0, .slice none (([] : List Int).length) 0]) (by kernel_rfl) (by kernel_rfl) ((hS.at_ 1 rfl).cellsAt 0 (by rfl))
      have hS := hS.pickN 3 [0] (by decide)
      have hm : some (0, 0, ([] : List Int), 0, 3) = some r := hm
      obtain rfl := Option.some.inj hm
      exact retV (rs := [.cell 6 93, .tmp 7, .tmp 8]) (vs := [.agg #[.int .i64 0, .int .i64 0, .slice none (([] : List Int).length) 0], .int .i64 0, .int .i64 3]) hF rfl (rv_c (by kernel_rfl) hld0 <| rv_t (by kernel_rfl) <| rv_t (by kernel_rfl) <| rv_nil) rfl ⟨_, rfl, none, 0, rfl, hS⟩
    · replace hm := if_f hm hb
      refine wp_skip ?_
      refine then_n ?_
      have hS := hS.pickN 2 [1, 0] (by decide)
      exact ⟨hF.weak [1, 2, 3, 6] (by kernel_rfl), hS, hm⟩

noncomputable def gameroomref_sameInts_J4 (i1 : Int) : Option (St Int (Fl Unit Bool)) :=
  some (.next (w64 (i1 + 1)))

noncomputable def gameroomref_sameInts_J3 (a1 : List Int) (b1 : List Int) (i1 : Int) : Option (St Int (Fl Unit Bool)) :=
  asrt (0 ≤ i1 ∧ i1 < (a1.length : Int)) <| asrt (0 ≤ i1 ∧ i1 < (b1.length : Int)) <| if ((geti a1 i1) != (geti b1 i1)) then (some (.done (.ret false))) else ((gameroomref_sameInts_J4 i1))

noncomputable def gameroomref_sameInts_J2 : Option Bool :=
  some true

noncomputable def gameroomref_sameInts_K1 : (Fl Unit Bool) → Option Bool :=
  fun (x : (Fl Unit Bool)) => match x with | .go _ => gameroomref_sameInts_J2 | .ret x => some x

noncomputable def gameroomref_sameInts_L1 (a1 : List Int) (b1 : List Int) : Int → Option (St Int (Fl Unit Bool)) :=
  fun (x : Int) => match x with | i1 => if (decide (i1 < (a1.length : Int))) then ((gameroomref_sameInts_J3 a1 b1 i1)) else (some (.done (.go ())))

noncomputable def gameroomref_sameInts_J1 (a1 : List Int) (b1 : List Int) : Option Bool :=
  (loop (gameroomref_sameInts_L1 a1 b1) 0).bind gameroomref_sameInts_K1

noncomputable def gameroomref_sameInts_m (a1 : List Int) (b1 : List Int) : Option Bool :=
  if ((a1.length : Int) != (b1.length : Int)) then (some false) else ((gameroomref_sameInts_J1 a1 b1))

set_option maxRecDepth 100000 in
set_option maxHeartbeats 4000000 in
theorem gameroomref_sameInts_w {A1 : Option Addr} {c1 : Nat} {n1 : Nat} {a1 : List Int} {A2 : Option Addr} {c2 : Nat} {n2 : Nat} {b1 : List Int} {r : Bool} {w0 w : World} {B : Nat} {fs : List HP} (hm : gameroomref_sameInts_m a1 b1 = some r) (hS : Sep w0 B w (fs)) (hr_a1 : RdF w0 B fs A1 (vI a1)) (_hc_a1 : a1.length ≤ c1) (_hn_a1 : n1 = a1.length) (hr_b1 : RdF w0 B fs A2 (vI b1)) (_hc_b1 : b1.length ≤ c2) (_hn_b1 : n2 = b1.length) :
    Calls Try.prog 103 #[.slice A1 n1 c1, .slice A2 n2 c2] w fun e w' => e = .returned (.bool r) ∧ Sep w0 B w' (fs) := by
  obtain ⟨i3, hi3, hz3, hs3, hb3⟩ := info_parts Info3
  obtain rfl := _hn_a1
  obtain rfl := _hn_b1
  unfold gameroomref_sameInts_m at hm
  replace hm := start_b hm
  refine enter (l := [.slice A1 a1.length c1, .slice A2 b1.length c2]) (n := 26) Try.func103 rfl rfl (by simp) (fun a hF => ?_)
  refine reg [] [] [0, 1] [pl 0 (.slice A1 a1.length c1), pl 1 (.slice A2 b1.length c2)] hF hS Fol (by kernel_rfl) (by kernel_rfl) (by kernel_rfl) ?_ (fun a w hF hS => ?_)
  · exact obs_nil
  refine seq_cut (fun a w => Fr 26 [pl 0 (.slice A1 a1.length c1), pl 1 (.slice A2 b1.length c2)] a ∧ Sep w0 B w (fs) ∧ ((gameroomref_sameInts_J1 a1 b1)).bind some = some r) ?_ ?_
  · rintro a w ⟨hF, hS, hm⟩
    unfold gameroomref_sameInts_J1 at hm
    refine seq_cut (fun a w => Fr 26 [] a ∧ Sep w0 B w (fs) ∧ (gameroomref_sameInts_J2).bind some = some r) ?_ ?_
    · rintro a w ⟨hF, hS, hm⟩
      unfold gameroomref_sameInts_J2 at hm
      refine reg [] [] [4] [pl 4 (.bool true)] hF hS Fol (by kernel_rfl) (by kernel_rfl) (by kernel_rfl) ?_ (fun a w hF hS => ?_)
      · exact obs_nil
      refine wp_ret ?_
      have hm : some true = some r := hm
      obtain rfl := Option.some.inj hm
      exact retV (rs := [.tmp 4]) (vs := [.bool true]) hF rfl (rv_t (by kernel_rfl) <| rv_nil) rfl ⟨rfl, hS⟩
    · refine reg [] [] [0, 1, 5] [pl 0 (.slice A1 a1.length c1), pl 1 (.slice A2 b1.length c2), pl 5 (.int .i64 0)] hF hS Fol (by kernel_rfl) (by kernel_rfl) (by kernel_rfl) ?_ (fun a w hF hS => ?_)
      · exact obs_nil
      refine wp_block ?_
      refine wp_loop_model (S := Int) (R := (Fl Unit Bool)) (gameroomref_sameInts_L1 a1 b1) (fun x => (gameroomref_sameInts_K1 x).bind some) r (fun (x : Int) a w => Fr 26 [pl 0 (.slice A1 a1.length c1), pl 1 (.slice A2 b1.length c2), pl 5 (.int .i64 x)] a ∧ Sep w0 B w (fs)) (assoc_b hm) ⟨hF.weak [0, 1, 5] (by kernel_rfl), hS⟩ ?_
      clear hF hS hm
      rintro nn1 i1 a w ⟨hF, hS⟩ hm
      generalize hφ1 : stK (gameroomref_sameInts_L1 a1 b1) nn1 (fun x => (gameroomref_sameInts_K1 x).bind some) = φ1 at hm
      unfold gameroomref_sameInts_L1 at hm
      dsimp only at hm
      refine seq_cut (fun a w => Fr 26 [pl 0 (.slice A1 a1.length c1), pl 1 (.slice A2 b1.length c2), pl 5 (.int .i64 i1)] a ∧ Sep w0 B w (fs) ∧ ((gameroomref_sameInts_J3 a1 b1 i1)).bind φ1 = some r) ?_ ?_
      · rintro a w ⟨hF, hS, hm⟩
        unfold gameroomref_sameInts_J3 at hm
        refine seq_cut (fun a w => Fr 26 [pl 0 (.slice A1 a1.length c1), pl 1 (.slice A2 b1.length c2), pl 5 (.int .i64 i1)] a ∧ Sep w0 B w (fs) ∧ ((gameroomref_sameInts_J4 i1)).bind φ1 = some r) ?_ ?_
        · rintro a w ⟨hF, hS, hm⟩
          unfold gameroomref_sameInts_J4 at hm
          refine reg1 [] [] [0, 1, 5] [pl 0 (.slice A1 a1.length c1), pl 1 (.slice A2 b1.length c2), pl 5 (.int .i64 (w64 (i1 + 1)))] hF hS Fol (by kernel_rfl) (by kernel_rfl) (by kernel_rfl) ?_ (fun a w hF hS => ?_)
          · exact obs_nil
          refine then_n ?_
          rw [← hφ1] at hm
          exact ⟨(w64 (i1 + 1)), ⟨hF.weak [0, 1, 5] (by kernel_rfl), hS⟩, hm⟩
        · refine wp_block ?_
          obtain ⟨hp1, hm⟩ := asrt_b hm
          obtain ⟨hp2, hm⟩ := asrt_b hm
          refine reg [⟨true, [], vS (Instr.indexAt 34 (.slice A1 a1.length c1) (.int .i64 i1)), .pointer (some (sAddr A1 i1))⟩, ⟨false, [], vS (Instr.loadAt 3 (.pointer (some (sAddr A1 i1)))), .int .i64 (geti a1 i1)⟩, ⟨true, [], vS (Instr.indexAt 34 (.slice A2 b1.length c2) (.int .i64 i1)), .pointer (some (sAddr A2 i1))⟩, ⟨false, [], vS (Instr.loadAt 3 (.pointer (some (sAddr A2 i1)))), .int .i64 (geti b1 i1)⟩] [none, none, some (.pointer (some (sAddr A1 i1))), some (.int .i64 (geti a1 i1)), none, none, some (.pointer (some (sAddr A2 i1))), some (.int .i64 (geti b1 i1)), none] [0, 1, 5, 25] [pl 0 (.slice A1 a1.length c1), pl 1 (.slice A2 b1.length c2), pl 5 (.int .i64 i1), pl 25 (.bool ((geti a1 i1) != (geti b1 i1)))] hF hS Fol (by kernel_rfl) (by kernel_rfl) (by kernel_rfl) ?_ (fun a w hF hS => ?_)
          · exact obs_cons (ob_ix1 (f := (Value.int .i64)) (m := a1) Und34 hi3 hs3 (hr_a1 _ (hS.dropN 0)) rfl (fun _ => hp1)) <| obs_cons (ob_get1 (n := a1.length) (m := a1) (Value.int .i64) (0 : Int) Agg3 (fun _ hS => ⟨_, (hr_a1 _ (hS.dropN 0))⟩) (fun _ hS => rfl) (fun _ => hp1)) <| obs_cons (ob_ix1 (f := (Value.int .i64)) (m := b1) Und34 hi3 hs3 (hr_b1 _ (hS.dropN 0)) rfl (fun _ => hp2)) <| obs_cons (ob_get1 (n := b1.length) (m := b1) (Value.int .i64) (0 : Int) Agg3 (fun _ hS => ⟨_, (hr_b1 _ (hS.dropN 0))⟩) (fun _ hS => rfl) (fun _ => hp2)) <| obs_nil
          refine cond_ev (t := 25) (b := ((geti a1 i1) != (geti b1 i1))) hF (by kernel_rfl) (fun hb => ?_) (fun hb => ?_)
          · replace hm := if_t hm hb
            refine reg [] [] [4] [pl 4 (.bool false)] hF hS Fol (by kernel_rfl) (by kernel_rfl) (by kernel_rfl) ?_ (fun a w hF hS => ?_)
            · exact obs_nil
            refine wp_ret ?_
            refine block_r (then_r (then_r (block_r (then_r ?_))))
            rw [← hφ1] at hm
            replace hm := done_b hm
            unfold gameroomref_sameInts_K1 at hm
            try dsimp only at hm
            have hm : some false = some r := hm
            obtain rfl := Option.some.inj hm
            exact retV (rs := [.tmp 4]) (vs := [.bool false]) hF rfl (rv_t (by kernel_rfl) <| rv_nil) rfl ⟨rfl, hS⟩
          · replace hm := if_f hm hb
            refine wp_skip ?_
            refine block_n ?_
            refine then_n ?_
            exact ⟨hF.weak [0, 1, 5] (by kernel_rfl), hS, hm⟩
      · refine reg [] [] [0, 1, 5, 14] [pl 0 (.slice A1 a1.length c1), pl 1 (.slice A2 b1.length c2), pl 5 (.int .i64 i1), pl 14 (.bool (decide (i1 < (a1.length : Int))))] hF hS Fol (by kernel_rfl) (by kernel_rfl) (by kernel_rfl) ?_ (fun a w hF hS => ?_)
        · exact obs_nil
        refine cond_ev (t := 14) (b := decide (i1 < (a1.length : Int))) hF (by kernel_rfl) (fun hb => ?_) (fun hb => ?_)
        · replace hm := if_t hm hb
          refine wp_skip ?_
          refine then_n ?_
          exact ⟨hF.weak [0, 1, 5] (by kernel_rfl), hS, hm⟩
        · replace hm := if_f hm hb
          refine wp_exit ?_
          refine then_e (then_e (block_e (then_n ?_)))
          rw [← hφ1] at hm
          replace hm := done_b hm
          unfold gameroomref_sameInts_K1 at hm
          try dsimp only at hm
          have hm : (gameroomref_sameInts_J2).bind some = some r := hm
          exact ⟨hF.weak [] (by kernel_rfl), hS, hm⟩
  · refine reg [] [] [0, 1, 10] [pl 0 (.slice A1 a1.length c1), pl 1 (.slice A2 b1.length c2), pl 10 (.bool ((a1.length : Int) != (b1.length : Int)))] hF hS Fol (by kernel_rfl) (by kernel_rfl) (by kernel_rfl) ?_ (fun a w hF hS => ?_)
    · exact obs_nil
    refine cond_ev (t := 10) (b := ((a1.length : Int) != (b1.length : Int))) hF (by kernel_rfl) (fun hb => ?_) (fun hb => ?_)
    · replace hm := if_t hm hb
      refine reg [] [] [4] [pl 4 (.bool false)] hF hS Fol (by kernel_rfl) (by kernel_rfl) (by kernel_rfl) ?_ (fun a w hF hS => ?_)
      · exact obs_nil
      refine wp_ret ?_
      refine then_r ?_
      have hm : some false = some r := hm
      obtain rfl := Option.some.inj hm
      exact retV (rs := [.tmp 4]) (vs := [.bool false]) hF rfl (rv_t (by kernel_rfl) <| rv_nil) rfl ⟨rfl, hS⟩
    · replace hm := if_f hm hb
      refine wp_skip ?_
      refine then_n ?_
      exact ⟨hF.weak [0, 1] (by kernel_rfl), hS, hm⟩

noncomputable def gameroomref_SameGrid_m (a1 : Int) (a2 : Int) (a3 : List Int) (b1 : Int) (b2 : Int) (b3 : List Int) : Option Bool :=
  ((if ((a1 == b1) && (a2 == b2)) then gameroomref_sameInts_m a3 b3 else some false)).bind fun r1 => some (((a1 == b1) && (a2 == b2)) && r1)

set_option maxRecDepth 100000 in
set_option maxHeartbeats 4000000 in
theorem gameroomref_SameGrid_w {a1 : Int} {a2 : Int} {A1 : Option Addr} {c1 : Nat} {n1 : Nat} {a3 : List Int} {b1 : Int} {b2 : Int} {A2 : Option Addr} {c2 : Nat} {n2 : Nat} {b3 : List Int} {r : Bool} {w0 w : World} {B : Nat} {fs : List HP} (hm : gameroomref_SameGrid_m a1 a2 a3 b1 b2 b3 = some r) (hS : Sep w0 B w (fs)) (hr_a3 : RdF w0 B fs A1 (vI a3)) (_hc_a3 : a3.length ≤ c1) (_hn_a3 : n1 = a3.length) (hr_b3 : RdF w0 B fs A2 (vI b3)) (_hc_b3 : b3.length ≤ c2) (_hn_b3 : n2 = b3.length) :
    Calls Try.prog 68 #[.agg #[.int .i64 a1, .int .i64 a2, .slice A1 n1 c1], .agg #[.int .i64 b1, .int .i64 b2, .slice A2 n2 c2]] w fun e w' => e = .returned (.bool r) ∧ Sep w0 B w' (fs) := by
  obtain ⟨i3, hi3, hz3, hs3, hb3⟩ := info_parts Info3
  obtain rfl := _hn_a3
  obtain rfl := _hn_b3
  unfold gameroomref_SameGrid_m at hm
  replace hm := start_b hm
  refine enter (l := [.agg #[.int .i64 a1, .int .i64 a2, .slice A1 a3.length c1], .agg #[.int .i64 b1, .int .i64 b2, .slice A2 b3.length c2]]) (n := 24) Try.func68 rfl rfl (by simp) (fun a hF => ?_)
  refine seqR ?_
  refine at_do (d := 2) (s := vS (Instr.box 93 (.agg #[.int .i64 a1, .int .i64 a2, .slice A1 a3.length c1]))) (v := .pointer (some ⟨w.heap.size, 0, none⟩)) (w' := w.alloc (.cells #[.int .i64 a1, .int .i64 a2, .slice A1 a3.length c1] 93)) hF (by kernel_rfl) (by kernel_rfl) (by kernel_rfl) (fun a hF => ?_)
  have hS : Sep w0 B (w.alloc (.cells #[.int .i64 a1, .int .i64 a2, .slice A1 a3.length c1] 93)) (blk w.heap.size 93 #[.int .i64 a1, .int .i64 a2, .slice A1 a3.length c1] :: (fs)) := hS.box 93 #[.int .i64 a1, .int .i64 a2, .slice A1 a3.length c1]
  generalize w.heap.size = g1 at hF hS
  generalize w.alloc (.cells #[.int .i64 a1, .int .i64 a2, .slice A1 a3.length c1] 93) = w at hS ⊢
  refine at_do (d := 3) (s := vS (Instr.box 93 (.agg #[.int .i64 b1, .int .i64 b2, .slice A2 b3.length c2]))) (v := .pointer (some ⟨w.heap.size, 0, none⟩)) (w' := w.alloc (.cells #[.int .i64 b1, .int .i64 b2, .slice A2 b3.length c2] 93)) hF (by kernel_rfl) (by kernel_rfl) (by kernel_rfl) (fun a hF => ?_)
  have hS : Sep w0 B (w.alloc (.cells #[.int .i64 b1, .int .i64 b2, .slice A2 b3.length c2] 93)) (blk w.heap.size 93 #[.int .i64 b1, .int .i64 b2, .slice A2 b3.length c2] :: (blk g1 93 #[.int .i64 a1, .int .i64 a2, .slice A1 a3.length c1] :: fs)) := hS.box 93 #[.int .i64 b1, .int .i64 b2, .slice A2 b3.length c2]
  generalize w.heap.size = g2 at hF hS
  generalize w.alloc (.cells #[.int .i64 b1, .int .i64 b2, .slice A2 b3.length c2] 93) = w at hS ⊢
  refine at_run 1 [] [] [2, 3] [pl 2 (.pointer (some ⟨g1, 0, none⟩)), pl 3 (.pointer (some ⟨g2, 0, none⟩))] hF hS (by kernel_rfl) (by kernel_rfl) ?_ (fun a w hF hS => ?_)
  · exact obs_nil
  refine at_end [2, 3] [pl 2 (.pointer (some ⟨g1, 0, none⟩)), pl 3 (.pointer (some ⟨g2, 0, none⟩))] hF rfl (by kernel_rfl) (fun hF => ?_)
  refine then_n ?_
  obtain ⟨r1, hr1, hm⟩ := call_b hm
  refine reg [⟨false, [], vS (Instr.loadAt 3 (.pointer (some ⟨g1, 0, none⟩))), .int .i64 a1⟩, ⟨false, [], vS (Instr.loadAt 3 (.pointer (some ⟨g2, 0, none⟩))), .int .i64 b1⟩, ⟨false, [((a1 == b1), true)], vS (Instr.loadAt 3 (.pointer (some ⟨g1, 1, none⟩))), .int .i64 a2⟩, ⟨false, [((a1 == b1), true)], vS (Instr.loadAt 3 (.pointer (some ⟨g2, 1, none⟩))), .int .i64 b2⟩, ⟨false, [((a1 == b1) && (a2 == b2), true)], vS (Instr.loadAt 34 (.pointer (some ⟨g1, 2, none⟩))), .slice A1 a3.length c1⟩, ⟨false, [((a1 == b1) && (a2 == b2), true)], vS (Instr.loadAt 34 (.pointer (some ⟨g2, 2, none⟩))), .slice A2 b3.length c2⟩, ⟨false, [((a1 == b1) && (a2 == b2), true)], callFunc 103 #[.slice A1 a3.length c1, .slice A2 b3.length c2], .bool r1⟩] [none, some (.int .i64 a1), none, some (.int .i64 b1), none, none, none, some (.int .i64 a2), none, some (.int .i64 b2), none, none, none, none, some (.slice A1 a3.length c1), none, some (.slice A2 b3.length c2), some (.bool r1), none, none] [4] [pl 4 (.bool (((a1 == b1) && (a2 == b2)) && r1))] hF hS Fol (by kernel_rfl) (by kernel_rfl) (by kernel_rfl) ?_ (fun a w hF hS => ?_)
  · exact obs_cons (ob_load Agg3 (fun _ _ hS => (hS.at_ 1 rfl).cell rfl)) <| obs_cons (ob_load Agg3 (fun _ _ hS => (hS.at_ 0 rfl).cell rfl)) <| obs_cons (ob_load Agg3 (fun _ _ hS => (hS.at_ 1 rfl).cell rfl)) <| obs_cons (ob_load Agg3 (fun _ _ hS => (hS.at_ 0 rfl).cell rfl)) <| obs_cons (ob_load Agg34 (fun _ _ hS => (hS.at_ 1 rfl).cell rfl)) <| obs_cons (ob_load Agg34 (fun _ _ hS => (hS.at_ 0 rfl).cell rfl)) <| obs_cons (ob_call Try.func103 (by kernel_rfl) rfl (fun hy _ hS => gameroomref_sameInts_w (ite_some hr1 (by rw [show ((a1 == b1) && (a2 == b2)) = true from hy ((a1 == b1) && (a2 == b2), true) (by simp)]; try rfl)) hS (fun _ hS => (hr_a3 _ (hS.dropN 2))) _hc_a3 rfl (fun _ hS => (hr_b3 _ (hS.dropN 2))) _hc_b3 rfl)) <| obs_nil
  refine wp_ret ?_
  have hS := hS.pickN 2 [] (by decide)
  have hm : some (((a1 == b1) && (a2 == b2)) && r1) = some r := hm
  obtain rfl := Option.some.inj hm
  exact retV (rs := [.tmp 4]) (vs := [.bool (((a1 == b1) && (a2 == b2)) && r1)]) hF rfl (rv_t (by kernel_rfl) <| rv_nil) rfl ⟨rfl, hS⟩

noncomputable def gameroomlaw_StonesPuts_J3 (g1 : Int) (g2 : Int) (g3 : List Int) (who1 : Int) (place1 : Int) (r4 : (Int × Int × List Int × Int × Int)) : Option Bool :=
  (gameroomref_PutStone_m g1 g2 g3 who1 place1).bind fun r11 => ((if ((r4.2.2.2.2 == r11.2.2.2.2) && (r4.2.2.2.1 == r11.2.2.2.1)) then gameroomref_SameGrid_m r4.1 r4.2.1 r4.2.2.1 r11.1 r11.2.1 r11.2.2.1 else some false)).bind fun r12 => some (((r4.2.2.2.2 == r11.2.2.2.2) && (r4.2.2.2.1 == r11.2.2.2.1)) && r12)

noncomputable def gameroomlaw_StonesPuts_J2 (g1 : Int) (g2 : Int) (g3 : List Int) (who1 : Int) (place1 : Int) (r4 : (Int × Int × List Int × Int × Int)) : Option Bool :=
  if ((who1 != 1) && (who1 != 2)) then (((if (r4.2.2.2.2 == 4) then gameroomlaw_noGrid_m r4.1 r4.2.1 r4.2.2.1 else some false)).bind fun r10 => some (((r4.2.2.2.2 == 4) && r10) && (r4.2.2.2.1 == 0))) else ((gameroomlaw_StonesPuts_J3 g1 g2 g3 who1 place1 r4))

noncomputable def gameroomlaw_StonesPuts_J1 (g1 : Int) (g2 : Int) (g3 : List Int) (who1 : Int) (place1 : Int) (r2 : (List Int × List Int × Int)) (r4 : (Int × Int × List Int × Int × Int)) : Option Bool :=
  if ((decide (place1 < 0)) || (decide ((g3.length : Int) ≤ place1))) then (if (((r2.2.2 != 3) || (decide ((0 : Int) < (r2.1.length : Int)))) || (decide ((0 : Int) < (r2.2.1.length : Int)))) then (some false) else ((gameroomlaw_StonesPuts_J2 g1 g2 g3 who1 place1 r4))) else (asrt (0 ≤ place1 ∧ place1 < (g3.length : Int)) <| if ((geti g3 place1) == 0) then (if (((r2.2.2 != 10) || (decide ((0 : Int) < (r2.1.length : Int)))) || (decide ((0 : Int) < (r2.2.1.length : Int)))) then (some false) else ((gameroomlaw_StonesPuts_J2 g1 g2 g3 who1 place1 r4))) else ((gameroomref_GroupOf_m g1 g2 g3 place1).bind fun r7 => ((if (!(r2.2.2 != 0)) then gameroomlaw_sameInts_m r2.1 r7.1 else some false)).bind fun r8 => ((if (!((r2.2.2 != 0) || (!r8))) then gameroomlaw_sameInts_m r2.2.1 r7.2 else some false)).bind fun r9 => if (((r2.2.2 != 0) || (!r8)) || (!r9)) then (some false) else ((gameroomlaw_StonesPuts_J2 g1 g2 g3 who1 place1 r4))))

noncomputable def gameroomlaw_StonesPuts_m (g1 : Int) (g2 : Int) (g3 : List Int) (who1 : Int) (place1 : Int) : Option Bool :=
  (gameroomref_GridOf_m g1 g2 g3).bind fun r1 => (stones_Group_m r1.1 r1.2.1 r1.2.2 place1).bind fun r2 => (gameroomref_GridOf_m g1 g2 g3).bind fun r3 => (stones_Put_m r3.1 r3.2.1 r3.2.2 who1 place1).bind fun r4 => (gameroomref_GridMay_m g1 g2 g3).bind fun r5 => if (!r5) then (((if ((((r2.2.2 == 12) && (r4.2.2.2.2 == 12)) && ((r2.1.length : Int) == 0)) && ((r2.2.1.length : Int) == 0)) then gameroomlaw_noGrid_m r4.1 r4.2.1 r4.2.2.1 else some false)).bind fun r6 => some ((((((r2.2.2 == 12) && (r4.2.2.2.2 == 12)) && ((r2.1.length : Int) == 0)) && ((r2.2.1.length : Int) == 0)) && r6) && (r4.2.2.2.1 == 0))) else ((gameroomlaw_StonesPuts_J1 g1 g2 g3 who1 place1 r2 r4))

set_option maxRecDepth 100000 in
set_option maxHeartbeats 4000000 in
theorem gameroomlaw_StonesPuts_w {g1 : Int} {g2 : Int} {A1 : Option Addr} {c1 : Nat} {n1 : Nat} {g3 : List Int} {who1 : Int} {place1 : Int} {r : Bool} {w0 w : World} {B : Nat} {fs : List HP} (hm : gameroomlaw_StonesPuts_m g1 g2 g3 who1 place1 = some r) (hS : Sep w0 B w (fs)) (hr_g3 : RdF w0 B fs A1 (vI g3)) (_hc_g3 : g3.length ≤ c1) (_hn_g3 : n1 = g3.length) :
    Calls Try.prog 12 #[.agg #[.int .i64 g1, .int .i64 g2, .slice A1 n1 c1], .int .i64 who1, .int .i64 place1] w fun e w' => e = .returned (.bool r) ∧ Sep w0 B w' (fs) := by
  obtain ⟨i3, hi3, hz3, hs3, hb3⟩ := info_parts Info3
  obtain rfl := _hn_g3
  unfold gameroomlaw_StonesPuts_m at hm
  replace hm := start_b hm
  refine enter (l := [.agg #[.int .i64 g1, .int .i64 g2, .slice A1 g3.length c1], .int .i64 who1, .int .i64 place1]) (n := 158) Try.func12 rfl rfl (by simp) (fun a hF => ?_)
  refine seqR ?_
  refine at_do (d := 3) (s := vS (Instr.box 93 (.agg #[.int .i64 g1, .int .i64 g2, .slice A1 g3.length c1]))) (v := .pointer (some ⟨w.heap.size, 0, none⟩)) (w' := w.alloc (.cells #[.int .i64 g1, .int .i64 g2, .slice A1 g3.length c1] 93)) hF (by kernel_rfl) (by kernel_rfl) (by kernel_rfl) (fun a hF => ?_)
  have hS : Sep w0 B (w.alloc (.cells #[.int .i64 g1, .int .i64 g2, .slice A1 g3.length c1] 93)) (blk w.heap.size 93 #[.int .i64 g1, .int .i64 g2, .slice A1 g3.length c1] :: (fs)) := hS.box 93 #[.int .i64 g1, .int .i64 g2, .slice A1 g3.length c1]
  generalize w.heap.size = g4 at hF hS
  generalize w.alloc (.cells #[.int .i64 g1, .int .i64 g2, .slice A1 g3.length c1] 93) = w at hS ⊢
  refine at_run 1 [] [] [1, 2, 3] [pl 1 (.int .i64 who1), pl 2 (.int .i64 place1), pl 3 (.pointer (some ⟨g4, 0, none⟩))] hF hS (by kernel_rfl) (by kernel_rfl) ?_ (fun a w hF hS => ?_)
  · exact obs_nil
  refine at_end [1, 2, 3] [pl 1 (.int .i64 who1), pl 2 (.int .i64 place1), pl 3 (.pointer (some ⟨g4, 0, none⟩))] hF rfl (by kernel_rfl) (fun hF => ?_)
  refine then_n ?_
  refine seqR ?_
  obtain ⟨r1, hr1, hm⟩ := call_b hm
  obtain ⟨r2, hr2, hm⟩ := call_b hm
  refine at_run 1 [⟨false, [], vS (Instr.loadAt 93 (.pointer (some ⟨g4, 0, none⟩))), .agg #[.int .i64 g1, .int .i64 g2, .slice A1 g3.length c1]⟩] [some (.agg #[.int .i64 g1, .int .i64 g2, .slice A1 g3.length c1])] [1, 2, 3, 19] [pl 1 (.int .i64 who1), pl 2 (.int .i64 place1), pl 3 (.pointer (some ⟨g4, 0, none⟩)), pl 19 (.agg #[.int .i64 g1, .int .i64 g2, .slice A1 g3.length c1])] hF hS (by kernel_rfl) (by kernel_rfl) ?_ (fun a w hF hS => ?_)
  · exact obs_cons (ob_loadA (cs := #[.int .i64 g1, .int .i64 g2, .slice A1 g3.length c1]) (by kernel_rfl) (by kernel_rfl) (fun _ _ hS => (hS.at_ 0 rfl).cellsAt 0 (by rfl))) <| obs_nil
  refine at_call (f := 52) (args := #[.agg #[.int .i64 g1, .int .i64 g2, .slice A1 g3.length c1]]) (d := 20) hF (by kernel_rfl) (by kernel_rfl) Try.func52 (by kernel_rfl) rfl (gameroomref_GridOf_w hr1 hS (fun _ hS => (hr_g3 _ (hS.dropN 1))) _hc_g3 rfl) (fun v a w hR hF => ?_)
  clear hS
  obtain ⟨A2, c2, rfl, hS⟩ := hR
  have hS : Sep w0 B w (own 3 (.slice A2 r1.2.2.length c2) (vI r1.2.2) :: blk g4 93 #[.int .i64 g1, .int .i64 g2, .slice A1 g3.length c1] :: fs) := hS
  refine at_run 1 [] [] [1, 2, 3, 20, 21] [pl 1 (.int .i64 who1), pl 2 (.int .i64 place1), pl 3 (.pointer (some ⟨g4, 0, none⟩)), pl 20 (.agg #[.int .i64 r1.1, .int .i64 r1.2.1, .slice A2 r1.2.2.length c2]), pl 21 (.int .i64 place1)] hF hS (by kernel_rfl) (by kernel_rfl) ?_ (fun a w hF hS => ?_)
  · exact obs_nil
  refine at_call (f := 63) (args := #[.agg #[.int .i64 r1.1, .int .i64 r1.2.1, .slice A2 r1.2.2.length c2], .int .i64 place1]) (d := 22) hF (by kernel_rfl) (by kernel_rfl) Try.func63 (by kernel_rfl) rfl (stones_Group_w hr2 hS (fun _ hS => (hS.at_ 0 rfl).rd) ((hS.at_ 0 rfl).cap1) rfl) (fun v a w hR hF => ?_)
  clear hS
  obtain ⟨A3, c3, A4, c4, rfl, hS⟩ := hR
  have hS : Sep w0 B w (own 3 (.slice A3 r2.1.length c3) (vI r2.1) :: own 3 (.slice A4 r2.2.1.length c4) (vI r2.2.1) :: own 3 (.slice A2 r1.2.2.length c2) (vI r1.2.2) :: blk g4 93 #[.int .i64 g1, .int .i64 g2, .slice A1 g3.length c1] :: fs) := hS
  refine at_run 7 [] [] [1, 2, 3, 7, 8, 9] [pl 1 (.int .i64 who1), pl 2 (.int .i64 place1), pl 3 (.pointer (some ⟨g4, 0, none⟩)), pl 7 (.slice A3 r2.1.length c3), pl 8 (.slice A4 r2.2.1.length c4), pl 9 (.int .i64 r2.2.2)] hF hS (by kernel_rfl) (by kernel_rfl) ?_ (fun a w hF hS => ?_)
  · exact obs_nil
  refine at_end [1, 2, 3, 7, 8, 9] [pl 1 (.int .i64 who1), pl 2 (.int .i64 place1), pl 3 (.pointer (some ⟨g4, 0, none⟩)), pl 7 (.slice A3 r2.1.length c3), pl 8 (.slice A4 r2.2.1.length c4), pl 9 (.int .i64 r2.2.2)] hF rfl (by kernel_rfl) (fun hF => ?_)
  refine then_n ?_
  refine seqR ?_
  obtain ⟨r3, hr3, hm⟩ := call_b hm
  obtain ⟨r4, hr4, hm⟩ := call_b hm
  refine at_run 1 [⟨false, [], vS (Instr.loadAt 93 (.pointer (some ⟨g4, 0, none⟩))), .agg #[.int .i64 g1, .int .i64 g2, .slice A1 g3.length c1]⟩] [some (.agg #[.int .i64 g1, .int .i64 g2, .slice A1 g3.length c1])] [1, 2, 3, 7, 8, 9, 27] [pl 1 (.int .i64 who1), pl 2 (.int .i64 place1), pl 3 (.pointer (some ⟨g4, 0, none⟩)), pl 7 (.slice A3 r2.1.length c3), pl 8 (.slice A4 r2.2.1.length c4), pl 9 (.int .i64 r2.2.2), pl 27 (.agg #[.int .i64 g1, .int .i64 g2, .slice A1 g3.length c1])] hF hS (by kernel_rfl) (by kernel_rfl) ?_ (fun a w hF hS => ?_)
  · exact obs_cons (ob_loadA (cs := #[.int .i64 g1, .int .i64 g2, .slice A1 g3.length c1]) (by kernel_rfl) (by kernel_rfl) (fun _ _ hS => (hS.at_ 3 rfl).cellsAt 0 (by rfl))) <| obs_nil
  refine at_call (f := 52) (args := #[.agg #[.int .i64 g1, .int .i64 g2, .slice A1 g3.length c1]]) (d := 28) hF (by kernel_rfl) (by kernel_rfl) Try.func52 (by kernel_rfl) rfl (gameroomref_GridOf_w hr3 hS (fun _ hS => (hr_g3 _ (hS.dropN 4))) _hc_g3 rfl) (fun v a w hR hF => ?_)
  clear hS
  obtain ⟨A5, c5, rfl, hS⟩ := hR
  have hS : Sep w0 B w (own 3 (.slice A5 r3.2.2.length c5) (vI r3.2.2) :: own 3 (.slice A3 r2.1.length c3) (vI r2.1) :: own 3 (.slice A4 r2.2.1.length c4) (vI r2.2.1) :: own 3 (.slice A2 r1.2.2.length c2) (vI r1.2.2) :: blk g4 93 #[.int .i64 g1, .int .i64 g2, .slice A1 g3.length c1] :: fs) := hS
  refine at_run 2 [] [] [1, 2, 3, 7, 8, 9, 28, 29, 30] [pl 1 (.int .i64 who1), pl 2 (.int .i64 place1), pl 3 (.pointer (some ⟨g4, 0, none⟩)), pl 7 (.slice A3 r2.1.length c3), pl 8 (.slice A4 r2.2.1.length c4), pl 9 (.int .i64 r2.2.2), pl 28 (.agg #[.int .i64 r3.1, .int .i64 r3.2.1, .slice A5 r3.2.2.length c5]), pl 29 (.int .i64 who1), pl 30 (.int .i64 place1)] hF hS (by kernel_rfl) (by kernel_rfl) ?_ (fun a w hF hS => ?_)
  · exact obs_nil
  refine at_call (f := 64) (args := #[.agg #[.int .i64 r3.1, .int .i64 r3.2.1, .slice A5 r3.2.2.length c5], .int .i64 who1, .int .i64 place1]) (d := 31) hF (by kernel_rfl) (by kernel_rfl) Try.func64 (by kernel_rfl) rfl (stones_Put_w hr4 hS (fun _ hS => (hS.at_ 0 rfl).rd) ((hS.at_ 0 rfl).cap1) rfl) (fun v a w hR hF => ?_)
  clear hS
  obtain ⟨A6, c6, rfl, hS⟩ := hR
  have hS : Sep w0 B w (own 3 (.slice A6 r4.2.2.1.length c6) (vI r4.2.2.1) :: own 3 (.slice A5 r3.2.2.length c5) (vI r3.2.2) :: own 3 (.slice A3 r2.1.length c3) (vI r2.1) :: own 3 (.slice A4 r2.2.1.length c4) (vI r2.2.1) :: own 3 (.slice A2 r1.2.2.length c2) (vI r1.2.2) :: blk g4 93 #[.int .i64 g1, .int .i64 g2, .slice A1 g3.length c1] :: fs) := hS
  refine at_run 4 [] [] [1, 2, 3, 7, 8, 9, 32, 33, 34] [pl 1 (.int .i64 who1), pl 2 (.int .i64 place1), pl 3 (.pointer (some ⟨g4, 0, none⟩)), pl 7 (.slice A3 r2.1.length c3), pl 8 (.slice A4 r2.2.1.length c4), pl 9 (.int .i64 r2.2.2), pl 32 (.agg #[.int .i64 r4.1, .int .i64 r4.2.1, .slice A6 r4.2.2.1.length c6]), pl 33 (.int .i64 r4.2.2.2.1), pl 34 (.int .i64 r4.2.2.2.2)] hF hS (by kernel_rfl) (by kernel_rfl) ?_ (fun a w hF hS => ?_)
  · exact obs_nil
  refine at_do (d := 10) (s := vS (Instr.alloc 93 true (.tuple #[]))) (v := .pointer (some ⟨w.heap.size, 0, none⟩)) (w' := w.alloc (.cells #[.int .i64 0, .int .i64 0, .slice none 0 0] 93)) hF (by kernel_rfl) (by kernel_rfl) (by kernel_rfl) (fun a hF => ?_)
  have hS : Sep w0 B (w.alloc (.cells #[.int .i64 0, .int .i64 0, .slice none 0 0] 93)) (blk w.heap.size 93 #[.int .i64 0, .int .i64 0, .slice none 0 0] :: (own 3 (.slice A6 r4.2.2.1.length c6) (vI r4.2.2.1) :: own 3 (.slice A5 r3.2.2.length c5) (vI r3.2.2) :: own 3 (.slice A3 r2.1.length c3) (vI r2.1) :: own 3 (.slice A4 r2.2.1.length c4) (vI r2.2.1) :: own 3 (.slice A2 r1.2.2.length c2) (vI r1.2.2) :: blk g4 93 #[.int .i64 g1, .int .i64 g2, .slice A1 g3.length c1] :: fs)) := hS.box 93 #[.int .i64 0, .int .i64 0, .slice none 0 0]
  generalize w.heap.size = g5 at hF hS
  generalize w.alloc (.cells #[.int .i64 0, .int .i64 0, .slice none 0 0] 93) = w at hS ⊢
  obtain ⟨w, hrun, hS⟩ := run_putA (P := Try.prog) (t := 93) (us := #[.int .i64 r4.1, .int .i64 r4.2.1, .slice A6 r4.2.2.1.length c6]) (o := 0) (hS.at_ 0 rfl) (by kernel_rfl) (all_one (by kernel_rfl)) (Nat.le_of_ble_eq_true (by kernel_rfl))
  refine at_skip hF (by kernel_rfl) hrun ?_
  have hS : Sep w0 B w (blk g5 93 #[.int .i64 r4.1, .int .i64 r4.2.1, .slice A6 r4.2.2.1.length c6] :: own 3 (.slice A6 r4.2.2.1.length c6) (vI r4.2.2.1) :: own 3 (.slice A5 r3.2.2.length c5) (vI r3.2.2) :: own 3 (.slice A3 r2.1.length c3) (vI r2.1) :: own 3 (.slice A4 r2.2.1.length c4) (vI r2.2.1) :: own 3 (.slice A2 r1.2.2.length c2) (vI r1.2.2) :: blk g4 93 #[.int .i64 g1, .int .i64 g2, .slice A1 g3.length c1] :: fs) := hS
  refine at_run 2 [] [] [1, 2, 3, 7, 8, 9, 10, 11, 12] [pl 1 (.int .i64 who1), pl 2 (.int .i64 place1), pl 3 (.pointer (some ⟨g4, 0, none⟩)), pl 7 (.slice A3 r2.1.length c3), pl 8 (.slice A4 r2.2.1.length c4), pl 9 (.int .i64 r2.2.2), pl 10 (.pointer (some ⟨g5, 0, none⟩)), pl 11 (.int .i64 r4.2.2.2.1), pl 12 (.int .i64 r4.2.2.2.2)] hF hS (by kernel_rfl) (by kernel_rfl) ?_ (fun a w hF hS => ?_)
  · exact obs_nil
  refine at_end [1, 2, 3, 7, 8, 9, 10, 11, 12] [pl 1 (.int .i64 who1), pl 2 (.int .i64 place1), pl 3 (.pointer (some ⟨g4, 0, none⟩)), pl 7 (.slice A3 r2.1.length c3), pl 8 (.slice A4 r2.2.1.length c4), pl 9 (.int .i64 r2.2.2), pl 10 (.pointer (some ⟨g5, 0, none⟩)), pl 11 (.int .i64 r4.2.2.2.1), pl 12 (.int .i64 r4.2.2.2.2)] hF rfl (by kernel_rfl) (fun hF => ?_)
  refine then_n ?_
  refine seq_cut (fun a w => Fr 158 [pl 1 (.int .i64 who1), pl 2 (.int .i64 place1), pl 3 (.pointer (some ⟨g4, 0, none⟩)), pl 7 (.slice A3 r2.1.length c3), pl 8 (.slice A4 r2.2.1.length c4), pl 9 (.int .i64 r2.2.2), pl 10 (.pointer (some ⟨g5, 0, none⟩)), pl 11 (.int .i64 r4.2.2.2.1), pl 12 (.int .i64 r4.2.2.2.2)] a ∧ Sep w0 B w (blk g4 93 #[.int .i64 g1, .int .i64 g2, .slice A1 g3.length c1] :: own 3 (.slice A3 r2.1.length c3) (vI r2.1) :: own 3 (.slice A4 r2.2.1.length c4) (vI r2.2.1) :: blk g5 93 #[.int .i64 r4.1, .int .i64 r4.2.1, .slice A6 r4.2.2.1.length c6] :: own 3 (.slice A6 r4.2.2.1.length c6) (vI r4.2.2.1) :: fs) ∧ ((gameroomlaw_StonesPuts_J1 g1 g2 g3 who1 place1 r2 r4)).bind some = some r) ?_ ?_
  · rintro a w ⟨hF, hS, hm⟩
    unfold gameroomlaw_StonesPuts_J1 at hm
    refine seq_cut (fun a w => Fr 158 [pl 1 (.int .i64 who1), pl 2 (.int .i64 place1), pl 3 (.pointer (some ⟨g4, 0, none⟩)), pl 10 (.pointer (some ⟨g5, 0, none⟩)), pl 11 (.int .i64 r4.2.2.2.1), pl 12 (.int .i64 r4.2.2.2.2)] a ∧ Sep w0 B w (blk g4 93 #[.int .i64 g1, .int .i64 g2, .slice A1 g3.length c1] :: blk g5 93 #[.int .i64 r4.1, .int .i64 r4.2.1, .slice A6 r4.2.2.1.length c6] :: own 3 (.slice A6 r4.2.2.1.length c6) (vI r4.2.2.1) :: fs) ∧ ((gameroomlaw_StonesPuts_J2 g1 g2 g3 who1 place1 r4)).bind some = some r) ?_ ?_
    · rintro a w ⟨hF, hS, hm⟩
      unfold gameroomlaw_StonesPuts_J2 at hm
      refine seq_cut (fun a w => Fr 158 [pl 1 (.int .i64 who1), pl 2 (.int .i64 place1), pl 3 (.pointer (some ⟨g4, 0, none⟩)), pl 10 (.pointer (some ⟨g5, 0, none⟩)), pl 11 (.int .i64 r4.2.2.2.1), pl 12 (.int .i64 r4.2.2.2.2)] a ∧ Sep w0 B w (blk g4 93 #[.int .i64 g1, .int .i64 g2, .slice A1 g3.length c1] :: blk g5 93 #[.int .i64 r4.1, .int .i64 r4.2.1, .slice A6 r4.2.2.1.length c6] :: own 3 (.slice A6 r4.2.2.1.length c6) (vI r4.2.2.1) :: fs) ∧ ((gameroomlaw_StonesPuts_J3 g1 g2 g3 who1 place1 r4)).bind some = some r) ?_ ?_
      · rintro a w ⟨hF, hS, hm⟩
        unfold gameroomlaw_StonesPuts_J3 at hm
        refine seqR ?_
        obtain ⟨r11, hr11, hm⟩ := call_b hm
        refine at_run 3 [⟨false, [], vS (Instr.loadAt 93 (.pointer (some ⟨g4, 0, none⟩))), .agg #[.int .i64 g1, .int .i64 g2, .slice A1 g3.length c1]⟩] [some (.agg #[.int .i64 g1, .int .i64 g2, .slice A1 g3.length c1]), none, none] [10, 11, 12, 138, 139, 140] [pl 10 (.pointer (some ⟨g5, 0, none⟩)), pl 11 (.int .i64 r4.2.2.2.1), pl 12 (.int .i64 r4.2.2.2.2), pl 138 (.agg #[.int .i64 g1, .int .i64 g2, .slice A1 g3.length c1]), pl 139 (.int .i64 who1), pl 140 (.int .i64 place1)] hF hS (by kernel_rfl) (by kernel_rfl) ?_ (fun a w hF hS => ?_)
        · exact obs_cons (ob_loadA (cs := #[.int .i64 g1, .int .i64 g2, .slice A1 g3.length c1]) (by kernel_rfl) (by kernel_rfl) (fun _ _ hS => (hS.at_ 0 rfl).cellsAt 0 (by rfl))) <| obs_nil
        refine at_call (f := 67) (args := #[.agg #[.int .i64 g1, .int .i64 g2, .slice A1 g3.length c1], .int .i64 who1, .int .i64 place1]) (d := 141) hF (by kernel_rfl) (by kernel_rfl) Try.func67 (by kernel_rfl) rfl (gameroomref_PutStone_w hr11 hS (fun _ hS => (hr_g3 _ (hS.dropN 3))) _hc_g3 rfl) (fun v a w hR hF => ?_)
        clear hS
        obtain ⟨A9, c9, rfl, hS⟩ := hR
        have hS : Sep w0 B w (own 3 (.slice A9 r11.2.2.1.length c9) (vI r11.2.2.1) :: blk g4 93 #[.int .i64 g1, .int .i64 g2, .slice A1 g3.length c1] :: blk g5 93 #[.int .i64 r4.1, .int .i64 r4.2.1, .slice A6 r4.2.2.1.length c6] :: own 3 (.slice A6 r4.2.2.1.length c6) (vI r4.2.2.1) :: fs) := hS
        refine at_run 4 [] [] [10, 11, 12, 142, 143, 144] [pl 10 (.pointer (some ⟨g5, 0, none⟩)), pl 11 (.int .i64 r4.2.2.2.1), pl 12 (.int .i64 r4.2.2.2.2), pl 142 (.agg #[.int .i64 r11.1, .int .i64 r11.2.1, .slice A9 r11.2.2.1.length c9]), pl 143 (.int .i64 r11.2.2.2.1), pl 144 (.int .i64 r11.2.2.2.2)] hF hS (by kernel_rfl) (by kernel_rfl) ?_ (fun a w hF hS => ?_)
        · exact obs_nil
        refine at_do (d := 15) (s := vS (Instr.alloc 93 true (.tuple #[]))) (v := .pointer (some ⟨w.heap.size, 0, none⟩)) (w' := w.alloc (.cells #[.int .i64 0, .int .i64 0, .slice none 0 0] 93)) hF (by kernel_rfl) (by kernel_rfl) (by kernel_rfl) (fun a hF => ?_)
        have hS : Sep w0 B (w.alloc (.cells #[.int .i64 0, .int .i64 0, .slice none 0 0] 93)) (blk w.heap.size 93 #[.int .i64 0, .int .i64 0, .slice none 0 0] :: (own 3 (.slice A9 r11.2.2.1.length c9) (vI r11.2.2.1) :: blk g4 93 #[.int .i64 g1, .int .i64 g2, .slice A1 g3.length c1] :: blk g5 93 #[.int .i64 r4.1, .int .i64 r4.2.1, .slice A6 r4.2.2.1.length c6] :: own 3 (.slice A6 r4.2.2.1.length c6) (vI r4.2.2.1) :: fs)) := hS.box 93 #[.int .i64 0, .int .i64 0, .slice none 0 0]
        generalize w.heap.size = g6 at hF hS
        generalize w.alloc (.cells #[.int .i64 0, .int .i64 0, .slice none 0 0] 93) = w at hS ⊢
        obtain ⟨w, hrun, hS⟩ := run_putA (P := Try.prog) (t := 93) (us := #[.int .i64 r11.1, .int .i64 r11.2.1, .slice A9 r11.2.2.1.length c9]) (o := 0) (hS.at_ 0 rfl) (by kernel_rfl) (all_one (by kernel_rfl)) (Nat.le_of_ble_eq_true (by kernel_rfl))
        refine at_skip hF (by kernel_rfl) hrun ?_
        have hS : Sep w0 B w (blk g6 93 #[.int .i64 r11.1, .int .i64 r11.2.1, .slice A9 r11.2.2.1.length c9] :: own 3 (.slice A9 r11.2.2.1.length c9) (vI r11.2.2.1) :: blk g4 93 #[.int .i64 g1, .int .i64 g2, .slice A1 g3.length c1] :: blk g5 93 #[.int .i64 r4.1, .int .i64 r4.2.1, .slice A6 r4.2.2.1.length c6] :: own 3 (.slice A6 r4.2.2.1.length c6) (vI r4.2.2.1) :: fs) := hS
        refine at_run 2 [] [] [10, 11, 12, 15, 16, 17] [pl 10 (.pointer (some ⟨g5, 0, none⟩)), pl 11 (.int .i64 r4.2.2.2.1), pl 12 (.int .i64 r4.2.2.2.2), pl 15 (.pointer (some ⟨g6, 0, none⟩)), pl 16 (.int .i64 r11.2.2.2.1), pl 17 (.int .i64 r11.2.2.2.2)] hF hS (by kernel_rfl) (by kernel_rfl) ?_ (fun a w hF hS => ?_)
        · exact obs_nil
        refine at_end [10, 11, 12, 15, 16, 17] [pl 10 (.pointer (some ⟨g5, 0, none⟩)), pl 11 (.int .i64 r4.2.2.2.1), pl 12 (.int .i64 r4.2.2.2.2), pl 15 (.pointer (some ⟨g6, 0, none⟩)), pl 16 (.int .i64 r11.2.2.2.1), pl 17 (.int .i64 r11.2.2.2.2)] hF rfl (by kernel_rfl) (fun hF => ?_)
        refine then_n ?_
        obtain ⟨r12, hr12, hm⟩ := call_b hm
        refine reg [⟨false, [((r4.2.2.2.2 == r11.2.2.2.2) && (r4.2.2.2.1 == r11.2.2.2.1), true)], vS (Instr.loadAt 93 (.pointer (some ⟨g5, 0, none⟩))), .agg #[.int .i64 r4.1, .int .i64 r4.2.1, .slice A6 r4.2.2.1.length c6]⟩, ⟨false, [((r4.2.2.2.2 == r11.2.2.2.2) && (r4.2.2.2.1 == r11.2.2.2.1), true)], vS (Instr.loadAt 93 (.pointer (some ⟨g6, 0, none⟩))), .agg #[.int .i64 r11.1, .int .i64 r11.2.1, .slice A9 r11.2.2.1.length c9]⟩, ⟨false, [((r4.2.2.2.2 == r11.2.2.2.2) && (r4.2.2.2.1 == r11.2.2.2.1), true)], callFunc 68 #[.agg #[.int .i64 r4.1, .int .i64 r4.2.1, .slice A6 r4.2.2.1.length c6], .agg #[.int .i64 r11.1, .int .i64 r11.2.1, .slice A9 r11.2.2.1.length c9]], .bool r12⟩] [none, none, none, none, none, none, none, none, none, some (.agg #[.int .i64 r4.1, .int .i64 r4.2.1, .slice A6 r4.2.2.1.length c6]), some (.agg #[.int .i64 r11.1, .int .i64 r11.2.1, .slice A9 r11.2.2.1.length c9]), some (.bool r12), none, none] [6] [pl 6 (.bool (((r4.2.2.2.2 == r11.2.2.2.2) && (r4.2.2.2.1 == r11.2.2.2.1)) && r12))] hF hS Fol (by kernel_rfl) (by kernel_rfl) (by kernel_rfl) ?_ (fun a w hF hS => ?_)
        · exact obs_cons (ob_loadA (cs := #[.int .i64 r4.1, .int .i64 r4.2.1, .slice A6 r4.2.2.1.length c6]) (by kernel_rfl) (by kernel_rfl) (fun _ _ hS => (hS.at_ 3 rfl).cellsAt 0 (by rfl))) <| obs_cons (ob_loadA (cs := #[.int .i64 r11.1, .int .i64 r11.2.1, .slice A9 r11.2.2.1.length c9]) (by kernel_rfl) (by kernel_rfl) (fun _ _ hS => (hS.at_ 0 rfl).cellsAt 0 (by rfl))) <| obs_cons (ob_call Try.func68 (by kernel_rfl) rfl (fun hy _ hS => gameroomref_SameGrid_w (ite_some hr12 (by rw [show ((r4.2.2.2.2 == r11.2.2.2.2) && (r4.2.2.2.1 == r11.2.2.2.1)) = true from hy ((r4.2.2.2.2 == r11.2.2.2.2) && (r4.2.2.2.1 == r11.2.2.2.1), true) (by simp)]; try rfl)) hS (fun _ hS => (hS.at_ 4 rfl).rd) ((hS.at_ 4 rfl).cap1) rfl (fun _ hS => (hS.at_ 1 rfl).rd) ((hS.at_ 1 rfl).cap1) rfl)) <| obs_nil
        refine wp_ret ?_
        have hS := hS.pickN 5 [] (by decide)
        have hm : some (((r4.2.2.2.2 == r11.2.2.2.2) && (r4.2.2.2.1 == r11.2.2.2.1)) && r12) = some r := hm
        obtain rfl := Option.some.inj hm
        exact retV (rs := [.tmp 6]) (vs := [.bool (((r4.2.2.2.2 == r11.2.2.2.2) && (r4.2.2.2.1 == r11.2.2.2.1)) && r12)]) hF rfl (rv_t (by kernel_rfl) <| rv_nil) rfl ⟨rfl, hS⟩
      · refine reg [] [] [1, 2, 3, 10, 11, 12, 126] [pl 1 (.int .i64 who1), pl 2 (.int .i64 place1), pl 3 (.pointer (some ⟨g4, 0, none⟩)), pl 10 (.pointer (some ⟨g5, 0, none⟩)), pl 11 (.int .i64 r4.2.2.2.1), pl 12 (.int .i64 r4.2.2.2.2), pl 126 (.bool ((who1 != 1) && (who1 != 2)))] hF hS Fol (by kernel_rfl) (by kernel_rfl) (by kernel_rfl) ?_ (fun a w hF hS => ?_)
        · exact obs_nil
        refine cond_ev (t := 126) (b := (who1 != 1) && (who1 != 2)) hF (by kernel_rfl) (fun hb => ?_) (fun hb => ?_)
        · replace hm := if_t hm hb
          obtain ⟨r10, hr10, hm⟩ := call_b hm
          refine reg [⟨false, [((r4.2.2.2.2 == 4), true)], vS (Instr.loadAt 93 (.pointer (some ⟨g5, 0, none⟩))), .agg #[.int .i64 r4.1, .int .i64 r4.2.1, .slice A6 r4.2.2.1.length c6]⟩, ⟨false, [((r4.2.2.2.2 == 4), true)], callFunc 65 #[.agg #[.int .i64 r4.1, .int .i64 r4.2.1, .slice A6 r4.2.2.1.length c6]], .bool r10⟩] [none, none, none, some (.agg #[.int .i64 r4.1, .int .i64 r4.2.1, .slice A6 r4.2.2.1.length c6]), some (.bool r10), none, none, none, none, none, none] [6] [pl 6 (.bool (((r4.2.2.2.2 == 4) && r10) && (r4.2.2.2.1 == 0)))] hF hS Fol (by kernel_rfl) (by kernel_rfl) (by kernel_rfl) ?_ (fun a w hF hS => ?_)
          · exact obs_cons (ob_loadA (cs := #[.int .i64 r4.1, .int .i64 r4.2.1, .slice A6 r4.2.2.1.length c6]) (by kernel_rfl) (by kernel_rfl) (fun _ _ hS => (hS.at_ 1 rfl).cellsAt 0 (by rfl))) <| obs_cons (ob_call Try.func65 (by kernel_rfl) rfl (fun hy _ hS => gameroomlaw_noGrid_w (ite_some hr10 (by rw [show (r4.2.2.2.2 == 4) = true from hy ((r4.2.2.2.2 == 4), true) (by simp)]; try rfl)) hS (fun _ hS => (hS.at_ 2 rfl).rd) ((hS.at_ 2 rfl).cap1) rfl)) <| obs_nil
          refine wp_ret ?_
          refine then_r ?_
          have hS := hS.pickN 3 [] (by decide)
          have hm : some (((r4.2.2.2.2 == 4) && r10) && (r4.2.2.2.1 == 0)) = some r := hm
          obtain rfl := Option.some.inj hm
          exact retV (rs := [.tmp 6]) (vs := [.bool (((r4.2.2.2.2 == 4) && r10) && (r4.2.2.2.1 == 0))]) hF rfl (rv_t (by kernel_rfl) <| rv_nil) rfl ⟨rfl, hS⟩
        · replace hm := if_f hm hb
          refine wp_skip ?_
          refine then_n ?_
          exact ⟨hF.weak [1, 2, 3, 10, 11, 12] (by kernel_rfl), hS, hm⟩
    · refine reg [⟨false, [(decide (place1 < 0), false)], vS (Instr.loadAt 34 (.pointer (some ⟨g4, 2, none⟩))), .slice A1 g3.length c1⟩] [none, none, none, none, none, some (.slice A1 g3.length c1), none, none, none] [1, 2, 3, 7, 8, 9, 10, 11, 12, 70] [pl 1 (.int .i64 who1), pl 2 (.int .i64 place1), pl 3 (.pointer (some ⟨g4, 0, none⟩)), pl 7 (.slice A3 r2.1.length c3), pl 8 (.slice A4 r2.2.1.length c4), pl 9 (.int .i64 r2.2.2), pl 10 (.pointer (some ⟨g5, 0, none⟩)), pl 11 (.int .i64 r4.2.2.2.1), pl 12 (.int .i64 r4.2.2.2.2), pl 70 (.bool ((decide (place1 < 0)) || (decide ((g3.length : Int) ≤ place1))))] hF hS Fol (by kernel_rfl) (by kernel_rfl) (by kernel_rfl) ?_ (fun a w hF hS => ?_)
      · exact obs_cons (ob_load Agg34 (fun _ _ hS => (hS.at_ 0 rfl).cell rfl)) <| obs_nil
      refine cond_ev (t := 70) (b := (decide (place1 < 0)) || (decide ((g3.length : Int) ≤ place1))) hF (by kernel_rfl) (fun hb => ?_) (fun hb => ?_)
      · replace hm := if_t hm hb
        refine reg [] [] [1, 2, 3, 10, 11, 12, 82] [pl 1 (.int .i64 who1), pl 2 (.int .i64 place1), pl 3 (.pointer (some ⟨g4, 0, none⟩)), pl 10 (.pointer (some ⟨g5, 0, none⟩)), pl 11 (.int .i64 r4.2.2.2.1), pl 12 (.int .i64 r4.2.2.2.2), pl 82 (.bool (((r2.2.2 != 3) || (decide ((0 : Int) < (r2.1.length : Int)))) || (decide ((0 : Int) < (r2.2.1.length : Int)))))] hF hS Fol (by kernel_rfl) (by kernel_rfl) (by kernel_rfl) ?_ (fun a w hF hS => ?_)
        · exact obs_nil
        refine cond_ev (t := 82) (b := ((r2.2.2 != 3) || (decide ((0 : Int) < (r2.1.length : Int)))) || (decide ((0 : Int) < (r2.2.1.length : Int)))) hF (by kernel_rfl) (fun hb => ?_) (fun hb => ?_)
        · replace hm := if_t hm hb
          refine reg [] [] [6] [pl 6 (.bool false)] hF hS Fol (by kernel_rfl) (by kernel_rfl) (by kernel_rfl) ?_ (fun a w hF hS => ?_)
          · exact obs_nil
          refine wp_ret ?_
          refine then_r ?_
          have hS := hS.pickN 5 [] (by decide)
          have hm : some false = some r := hm
          obtain rfl := Option.some.inj hm
          exact retV (rs := [.tmp 6]) (vs := [.bool false]) hF rfl (rv_t (by kernel_rfl) <| rv_nil) rfl ⟨rfl, hS⟩
        · replace hm := if_f hm hb
          refine wp_skip ?_
          refine then_n ?_
          have hS := hS.pickN 5 [0, 3, 4] (by decide)
          exact ⟨hF.weak [1, 2, 3, 10, 11, 12] (by kernel_rfl), hS, hm⟩
      · replace hm := if_f hm hb
        obtain ⟨hp1, hm⟩ := asrt_b hm
        refine reg [⟨false, [], vS (Instr.loadAt 34 (.pointer (some ⟨g4, 2, none⟩))), .slice A1 g3.length c1⟩, ⟨true, [], vS (Instr.indexAt 34 (.slice A1 g3.length c1) (.int .i64 place1)), .pointer (some (sAddr A1 place1))⟩, ⟨false, [], vS (Instr.loadAt 3 (.pointer (some (sAddr A1 place1)))), .int .i64 (geti g3 place1)⟩] [none, some (.slice A1 g3.length c1), none, some (.pointer (some (sAddr A1 place1))), some (.int .i64 (geti g3 place1)), none] [1, 2, 3, 7, 8, 9, 10, 11, 12, 88] [pl 1 (.int .i64 who1), pl 2 (.int .i64 place1), pl 3 (.pointer (some ⟨g4, 0, none⟩)), pl 7 (.slice A3 r2.1.length c3), pl 8 (.slice A4 r2.2.1.length c4), pl 9 (.int .i64 r2.2.2), pl 10 (.pointer (some ⟨g5, 0, none⟩)), pl 11 (.int .i64 r4.2.2.2.1), pl 12 (.int .i64 r4.2.2.2.2), pl 88 (.bool ((geti g3 place1) == 0))] hF hS Fol (by kernel_rfl) (by kernel_rfl) (by kernel_rfl) ?_ (fun a w hF hS => ?_)
        · exact obs_cons (ob_load Agg34 (fun _ _ hS => (hS.at_ 0 rfl).cell rfl)) <| obs_cons (ob_ix1 (f := (Value.int .i64)) (m := g3) Und34 hi3 hs3 (hr_g3 _ (hS.dropN 5)) rfl (fun _ => hp1)) <| obs_cons (ob_get1 (n := g3.length) (m := g3) (Value.int .i64) (0 : Int) Agg3 (fun _ hS => ⟨_, (hr_g3 _ (hS.dropN 5))⟩) (fun _ hS => rfl) (fun _ => hp1)) <| obs_nil
        refine cond_ev (t := 88) (b := ((geti g3 place1) == 0)) hF (by kernel_rfl) (fun hb => ?_) (fun hb => ?_)
        · replace hm := if_t hm hb
          refine reg [] [] [1, 2, 3, 10, 11, 12, 100] [pl 1 (.int .i64 who1), pl 2 (.int .i64 place1), pl 3 (.pointer (some ⟨g4, 0, none⟩)), pl 10 (.pointer (some ⟨g5, 0, none⟩)), pl 11 (.int .i64 r4.2.2.2.1), pl 12 (.int .i64 r4.2.2.2.2), pl 100 (.bool (((r2.2.2 != 10) || (decide ((0 : Int) < (r2.1.length : Int)))) || (decide ((0 : Int) < (r2.2.1.length : Int)))))] hF hS Fol (by kernel_rfl) (by kernel_rfl) (by kernel_rfl) ?_ (fun a w hF hS => ?_)
          · exact obs_nil
          refine cond_ev (t := 100) (b := ((r2.2.2 != 10) || (decide ((0 : Int) < (r2.1.length : Int)))) || (decide ((0 : Int) < (r2.2.1.length : Int)))) hF (by kernel_rfl) (fun hb => ?_) (fun hb => ?_)
          · replace hm := if_t hm hb
            refine reg [] [] [6] [pl 6 (.bool false)] hF hS Fol (by kernel_rfl) (by kernel_rfl) (by kernel_rfl) ?_ (fun a w hF hS => ?_)
            · exact obs_nil
            refine wp_ret ?_
            refine then_r ?_
            have hS := hS.pickN 5 [] (by decide)
            have hm : some false = some r := hm
            obtain rfl := Option.some.inj hm
            exact retV (rs := [.tmp 6]) (vs := [.bool false]) hF rfl (rv_t (by kernel_rfl) <| rv_nil) rfl ⟨rfl, hS⟩
          · replace hm := if_f hm hb
            refine wp_skip ?_
            refine then_n ?_
            have hS := hS.pickN 5 [0, 3, 4] (by decide)
            exact ⟨hF.weak [1, 2, 3, 10, 11, 12] (by kernel_rfl), hS, hm⟩
        · replace hm := if_f hm hb
          refine seqR ?_
          obtain ⟨r7, hr7, hm⟩ := call_b hm
          refine at_run 2 [⟨false, [], vS (Instr.loadAt 93 (.pointer (some ⟨g4, 0, none⟩))), .agg #[.int .i64 g1, .int .i64 g2, .slice A1 g3.length c1]⟩] [some (.agg #[.int .i64 g1, .int .i64 g2, .slice A1 g3.length c1]), none] [1, 2, 3, 7, 8, 9, 10, 11, 12, 102, 103] [pl 1 (.int .i64 who1), pl 2 (.int .i64 place1), pl 3 (.pointer (some ⟨g4, 0, none⟩)), pl 7 (.slice A3 r2.1.length c3), pl 8 (.slice A4 r2.2.1.length c4), pl 9 (.int .i64 r2.2.2), pl 10 (.pointer (some ⟨g5, 0, none⟩)), pl 11 (.int .i64 r4.2.2.2.1), pl 12 (.int .i64 r4.2.2.2.2), pl 102 (.agg #[.int .i64 g1, .int .i64 g2, .slice A1 g3.length c1]), pl 103 (.int .i64 place1)] hF hS (by kernel_rfl) (by kernel_rfl) ?_ (fun a w hF hS => ?_)
          · exact obs_cons (ob_loadA (cs := #[.int .i64 g1, .int .i64 g2, .slice A1 g3.length c1]) (by kernel_rfl) (by kernel_rfl) (fun _ _ hS => (hS.at_ 0 rfl).cellsAt 0 (by rfl))) <| obs_nil
          refine at_call (f := 66) (args := #[.agg #[.int .i64 g1, .int .i64 g2, .slice A1 g3.length c1], .int .i64 place1]) (d := 104) hF (by kernel_rfl) (by kernel_rfl) Try.func66 (by kernel_rfl) rfl (gameroomref_GroupOf_w hr7 hS (fun _ hS => (hr_g3 _ (hS.dropN 5))) _hc_g3 rfl) (fun v a w hR hF => ?_)
          clear hS
          obtain ⟨A7, c7, A8, c8, rfl, hS⟩ := hR
          have hS : Sep w0 B w (own 3 (.slice A7 r7.1.length c7) (vI r7.1) :: own 3 (.slice A8 r7.2.length c8) (vI r7.2) :: blk g4 93 #[.int .i64 g1, .int .i64 g2, .slice A1 g3.length c1] :: own 3 (.slice A3 r2.1.length c3) (vI r2.1) :: own 3 (.slice A4 r2.2.1.length c4) (vI r2.2.1) :: blk g5 93 #[.int .i64 r4.1, .int .i64 r4.2.1, .slice A6 r4.2.2.1.length c6] :: own 3 (.slice A6 r4.2.2.1.length c6) (vI r4.2.2.1) :: fs) := hS
          refine at_run 5 [] [] [1, 2, 3, 7, 8, 9, 10, 11, 12, 13, 14] [pl 1 (.int .i64 who1), pl 2 (.int .i64 place1), pl 3 (.pointer (some ⟨g4, 0, none⟩)), pl 7 (.slice A3 r2.1.length c3), pl 8 (.slice A4 r2.2.1.length c4), pl 9 (.int .i64 r2.2.2), pl 10 (.pointer (some ⟨g5, 0, none⟩)), pl 11 (.int .i64 r4.2.2.2.1), pl 12 (.int .i64 r4.2.2.2.2), pl 13 (.slice A7 r7.1.length c7), pl 14 (.slice A8 r7.2.length c8)] hF hS (by kernel_rfl) (by kernel_rfl) ?_ (fun a w hF hS => ?_)
          · exact obs_nil
          refine at_end [1, 2, 3, 7, 8, 9, 10, 11, 12, 13, 14] [pl 1 (.int .i64 who1), pl 2 (.int .i64 place1), pl 3 (.pointer (some ⟨g4, 0, none⟩)), pl 7 (.slice A3 r2.1.length c3), pl 8 (.slice A4 r2.2.1.length c4), pl 9 (.int .i64 r2.2.2), pl 10 (.pointer (some ⟨g5, 0, none⟩)), pl 11 (.int .i64 r4.2.2.2.1), pl 12 (.int .i64 r4.2.2.2.2), pl 13 (.slice A7 r7.1.length c7), pl 14 (.slice A8 r7.2.length c8)] hF rfl (by kernel_rfl) (fun hF => ?_)
          refine then_n ?_
          obtain ⟨r8, hr8, hm⟩ := call_b hm
          obtain ⟨r9, hr9, hm⟩ := call_b hm
          refine reg [⟨false, [((r2.2.2 != 0), false)], callFunc 27 #[.slice A3 r2.1.length c3, .slice A7 r7.1.length c7], .bool r8⟩, ⟨false, [((r2.2.2 != 0) || (!r8), false)], callFunc 27 #[.slice A4 r2.2.1.length c4, .slice A8 r7.2.length c8], .bool r9⟩] [none, none, none, none, none, some (.bool r8), none, none, none, none, none, some (.bool r9), none, none] [1, 2, 3, 10, 11, 12, 120] [pl 1 (.int .i64 who1), pl 2 (.int .i64 place1), pl 3 (.pointer (some ⟨g4, 0, none⟩)), pl 10 (.pointer (some ⟨g5, 0, none⟩)), pl 11 (.int .i64 r4.2.2.2.1), pl 12 (.int .i64 r4.2.2.2.2), pl 120 (.bool (((r2.2.2 != 0) || (!r8)) || (!r9)))] hF hS Fol (by kernel_rfl) (by kernel_rfl) (by kernel_rfl) ?_ (fun a w hF hS => ?_)
          · exact obs_cons (ob_call Try.func27 (by kernel_rfl) rfl (fun hy _ hS => gameroomlaw_sameInts_w (ite_some hr8 (by rw [show (r2.2.2 != 0) = false from hy ((r2.2.2 != 0), false) (by simp)]; try rfl)) hS (fun _ hS => (hS.at_ 3 rfl).rd) ((hS.at_ 3 rfl).cap1) rfl (fun _ hS => (hS.at_ 0 rfl).rd) ((hS.at_ 0 rfl).cap1) rfl)) <| obs_cons (ob_call Try.func27 (by kernel_rfl) rfl (fun hy _ hS => gameroomlaw_sameInts_w (ite_some hr9 (by rw [show ((r2.2.2 != 0) || (!r8)) = false from hy ((r2.2.2 != 0) || (!r8), false) (by simp)]; try rfl)) hS (fun _ hS => (hS.at_ 4 rfl).rd) ((hS.at_ 4 rfl).cap1) rfl (fun _ hS => (hS.at_ 1 rfl).rd) ((hS.at_ 1 rfl).cap1) rfl)) <| obs_nil
          refine cond_ev (t := 120) (b := ((r2.2.2 != 0) || (!r8)) || (!r9)) hF (by kernel_rfl) (fun hb => ?_) (fun hb => ?_)
          · replace hm := if_t hm hb
            refine reg [] [] [6] [pl 6 (.bool false)] hF hS Fol (by kernel_rfl) (by kernel_rfl) (by kernel_rfl) ?_ (fun a w hF hS => ?_)
            · exact obs_nil
            refine wp_ret ?_
            refine then_r ?_
            have hS := hS.pickN 7 [] (by decide)
            have hm : some false = some r := hm
            obtain rfl := Option.some.inj hm
            exact retV (rs := [.tmp 6]) (vs := [.bool false]) hF rfl (rv_t (by kernel_rfl) <| rv_nil) rfl ⟨rfl, hS⟩
          · replace hm := if_f hm hb
            refine wp_skip ?_
            refine then_n ?_
            have hS := hS.pickN 7 [2, 5, 6] (by decide)
            exact ⟨hF.weak [1, 2, 3, 10, 11, 12] (by kernel_rfl), hS, hm⟩
  · obtain ⟨r5, hr5, hm⟩ := call_b hm
    refine reg [⟨false, [], vS (Instr.loadAt 93 (.pointer (some ⟨g4, 0, none⟩))), .agg #[.int .i64 g1, .int .i64 g2, .slice A1 g3.length c1]⟩, ⟨false, [], callFunc 53 #[.agg #[.int .i64 g1, .int .i64 g2, .slice A1 g3.length c1]], .bool r5⟩] [some (.agg #[.int .i64 g1, .int .i64 g2, .slice A1 g3.length c1]), some (.bool r5), none] [1, 2, 3, 7, 8, 9, 10, 11, 12, 37] [pl 1 (.int .i64 who1), pl 2 (.int .i64 place1), pl 3 (.pointer (some ⟨g4, 0, none⟩)), pl 7 (.slice A3 r2.1.length c3), pl 8 (.slice A4 r2.2.1.length c4), pl 9 (.int .i64 r2.2.2), pl 10 (.pointer (some ⟨g5, 0, none⟩)), pl 11 (.int .i64 r4.2.2.2.1), pl 12 (.int .i64 r4.2.2.2.2), pl 37 (.bool (!r5))] hF hS Fol (by kernel_rfl) (by kernel_rfl) (by kernel_rfl) ?_ (fun a w hF hS => ?_)
    · exact obs_cons (ob_loadA (cs := #[.int .i64 g1, .int .i64 g2, .slice A1 g3.length c1]) (by kernel_rfl) (by kernel_rfl) (fun _ _ hS => (hS.at_ 6 rfl).cellsAt 0 (by rfl))) <| obs_cons (ob_call Try.func53 (by kernel_rfl) rfl (fun _ _ hS => gameroomref_GridMay_w hr5 hS (fun _ hS => (hr_g3 _ (hS.dropN 7))) _hc_g3 rfl)) <| obs_nil
    refine cond_ev (t := 37) (b := !r5) hF (by kernel_rfl) (fun hb => ?_) (fun hb => ?_)
    · replace hm := if_t hm hb
      obtain ⟨r6, hr6, hm⟩ := call_b hm
      refine reg [⟨false, [((((r2.2.2 == 12) && (r4.2.2.2.2 == 12)) && ((r2.1.length : Int) == 0)) && ((r2.2.1.length : Int) == 0), true)], vS (Instr.loadAt 93 (.pointer (some ⟨g5, 0, none⟩))), .agg #[.int .i64 r4.1, .int .i64 r4.2.1, .slice A6 r4.2.2.1.length c6]⟩, ⟨false, [((((r2.2.2 == 12) && (r4.2.2.2.2 == 12)) && ((r2.1.length : Int) == 0)) && ((r2.2.1.length : Int) == 0), true)], callFunc 65 #[.agg #[.int .i64 r4.1, .int .i64 r4.2.1, .slice A6 r4.2.2.1.length c6]], .bool r6⟩] [none, none, none, none, none, none, none, none, none, none, none, none, none, none, none, none, none, some (.agg #[.int .i64 r4.1, .int .i64 r4.2.1, .slice A6 r4.2.2.1.length c6]), some (.bool r6), none, none, none, none, none, none] [6] [pl 6 (.bool ((((((r2.2.2 == 12) && (r4.2.2.2.2 == 12)) && ((r2.1.length : Int) == 0)) && ((r2.2.1.length : Int) == 0)) && r6) && (r4.2.2.2.1 == 0)))] hF hS Fol (by kernel_rfl) (by kernel_rfl) (by kernel_rfl) ?_ (fun a w hF hS => ?_)
      · exact obs_cons (ob_loadA (cs := #[.int .i64 r4.1, .int .i64 r4.2.1, .slice A6 r4.2.2.1.length c6]) (by kernel_rfl) (by kernel_rfl) (fun _ _ hS => (hS.at_ 0 rfl).cellsAt 0 (by rfl))) <| obs_cons (ob_call Try.func65 (by kernel_rfl) rfl (fun hy _ hS => gameroomlaw_noGrid_w (ite_some hr6 (by rw [show ((((r2.2.2 == 12) && (r4.2.2.2.2 == 12)) && ((r2.1.length : Int) == 0)) && ((r2.2.1.length : Int) == 0)) = true from hy ((((r2.2.2 == 12) && (r4.2.2.2.2 == 12)) && ((r2.1.length : Int) == 0)) && ((r2.2.1.length : Int) == 0), true) (by simp)]; try rfl)) hS (fun _ hS => (hS.at_ 1 rfl).rd) ((hS.at_ 1 rfl).cap1) rfl)) <| obs_nil
      refine wp_ret ?_
      refine then_r ?_
      have hS := hS.pickN 7 [] (by decide)
      have hm : some ((((((r2.2.2 == 12) && (r4.2.2.2.2 == 12)) && ((r2.1.length : Int) == 0)) && ((r2.2.1.length : Int) == 0)) && r6) && (r4.2.2.2.1 == 0)) = some r := hm
      obtain rfl := Option.some.inj hm
      exact retV (rs := [.tmp 6]) (vs := [.bool ((((((r2.2.2 == 12) && (r4.2.2.2.2 == 12)) && ((r2.1.length : Int) == 0)) && ((r2.2.1.length : Int) == 0)) && r6) && (r4.2.2.2.1 == 0))]) hF rfl (rv_t (by kernel_rfl) <| rv_nil) rfl ⟨rfl, hS⟩
    · replace hm := if_f hm hb
      refine wp_skip ?_
      refine then_n ?_
      have hS := hS.pickN 7 [6, 3, 4, 0, 1] (by decide)
      exact ⟨hF.weak [1, 2, 3, 7, 8, 9, 10, 11, 12] (by kernel_rfl), hS, hm⟩

end Go.Proofs.Ytgafnmnacolgbaa
