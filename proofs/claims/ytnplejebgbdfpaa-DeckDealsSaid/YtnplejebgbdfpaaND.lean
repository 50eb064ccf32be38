/-
  Models and walks, printed by our own program (wip/gen).
-/
import Derived.Test.YtnplejebgbdfpaaFA
import Derived.Test.YtnplejebgbdfpaaNA
namespace Go.Proofs.Ytnplejebgbdfpaa
open Go Go.GL Go.RowKit


noncomputable def deck_riffle_J1 (out1 : List Int) : Option (List Int) :=
  some out1

noncomputable def deck_riffle_K1 : (List Int) → Option (List Int) :=
  fun (x : (List Int)) => match x with | out1 => deck_riffle_J1 out1

noncomputable def deck_riffle_J3 (z1 : Int) (out3 : List Int) : Option (St (List Int × Int) (List Int)) :=
  some (.next (out3, (w64 (z1 + 1))))

noncomputable def deck_riffle_J2 (l1 : List Int) (in1 : Bool) (out2 : List Int) (z1 : Int) : Option (St (List Int × Int) (List Int)) :=
  if in1 then (asrt (0 ≤ (w64 ((w64 (Int.tdiv (l1.length : Int) 2)) + z1)) ∧ (w64 ((w64 (Int.tdiv (l1.length : Int) 2)) + z1)) < (l1.length : Int)) <| asrt (0 ≤ z1 ∧ z1 < (l1.length : Int)) <| asrt ((out2.length : Int) + ([geti l1 (w64 ((w64 (Int.tdiv (l1.length : Int) 2)) + z1)), geti l1 z1]).length ≤ bigN) <| (deck_riffle_J3 z1) (out2 ++ ([geti l1 (w64 ((w64 (Int.tdiv (l1.length : Int) 2)) + z1)), geti l1 z1]))) else (asrt (0 ≤ z1 ∧ z1 < (l1.length : Int)) <| asrt (0 ≤ (w64 ((w64 (Int.tdiv (l1.length : Int) 2)) + z1)) ∧ (w64 ((w64 (Int.tdiv (l1.length : Int) 2)) + z1)) < (l1.length : Int)) <| asrt ((out2.length : Int) + ([geti l1 z1, geti l1 (w64 ((w64 (Int.tdiv (l1.length : Int) 2)) + z1))]).length ≤ bigN) <| (deck_riffle_J3 z1) (out2 ++ ([geti l1 z1, geti l1 (w64 ((w64 (Int.tdiv (l1.length : Int) 2)) + z1))])))

noncomputable def deck_riffle_L1 (l1 : List Int) (in1 : Bool) : (List Int × Int) → Option (St (List Int × Int) (List Int)) :=
  fun (x : (List Int × Int)) => match x with | (out2, z1) => if (decide (z1 < (w64 (Int.tdiv (l1.length : Int) 2)))) then ((deck_riffle_J2 l1 in1 out2 z1)) else (some (.done out2))

noncomputable def deck_riffle_m (l1 : List Int) (in1 : Bool) : Option (List Int) :=
  asrt (0 ≤ (l1.length : Int) ∧ (l1.length : Int) ≤ bigN) <| (loop (deck_riffle_L1 l1 in1) (([] : List Int), 0)).bind deck_riffle_K1

def deck_riffle_post (r : (List Int)) (v : Value) (w0 w' : World) : Prop := ∃ (A0 : Option Addr) (c0 : Nat), v = .slice A0 r.length c0 ∧ Sep w0 w0.heap.size w' [own 3 (.slice A0 r.length c0) (vI r)]

set_option maxRecDepth 100000 in
set_option maxHeartbeats 4000000 in
theorem deck_riffle_w {A1 : Option Addr} {c1 : Nat} {l1 : List Int} {in1 : Bool} {r : (List Int)} {w0 : World} (hm : deck_riffle_m l1 in1 = some r) (hr_l1 : Rd w0 w0.heap.size A1 (vI l1)) (_hc_l1 : l1.length ≤ c1) :
    Calls Try.prog 62 #[.slice A1 l1.length c1, .bool in1] w0 fun e w' => ∃ v, e = .returned v ∧ deck_riffle_post r v w0 w' := by
  obtain ⟨i3, hi3, hz3, hs3, hb3⟩ := info_parts Info3
  unfold deck_riffle_m at hm
  replace hm := start_b hm
  refine enterS (l := [.slice A1 l1.length c1, .bool in1]) (n := 47) Try.func62 rfl rfl (by simp) (fun a w hF hS => ?_)
  refine reg [] [] [0, 1] [pl 0 (.slice A1 l1.length c1), pl 1 (.bool in1)] hF hS Fol (by kernel_rfl) (by kernel_rfl) (by kernel_rfl) ?_ (fun a w hF hS => ?_)
  · exact obs_nil
  refine reg [] [] [0, 1, 5] [pl 0 (.slice A1 l1.length c1), pl 1 (.bool in1), pl 5 (.int .i64 (w64 (Int.tdiv (l1.length : Int) 2)))] hF hS Fol (by kernel_rfl) (by kernel_rfl) (by kernel_rfl) ?_ (fun a w hF hS => ?_)
  · exact obs_nil
  obtain ⟨hp1, hm⟩ := asrt_b hm
  refine seqR ?_
  refine at_run 2 [] [] [0, 1, 5, 12] [pl 0 (.slice A1 l1.length c1), pl 1 (.bool in1), pl 5 (.int .i64 (w64 (Int.tdiv (l1.length : Int) 2))), pl 12 (.int .i64 (l1.length : Int))] hF hS (by kernel_rfl) (by kernel_rfl) ?_ (fun a w hF hS => ?_)
  · exact obs_nil
  obtain ⟨A2, c2, w, hrun, hS⟩ := run_mk0I (P := Try.prog) (t := 22) hS .i64 .i64 Und22 hi3 hz3 hs3 hb3 hp1
  refine at_do (d := 13) hF (by kernel_rfl) (by kernel_rfl) hrun (fun a hF => ?_)
  refine at_run 1 [] [] [0, 1, 5, 6] [pl 0 (.slice A1 l1.length c1), pl 1 (.bool in1), pl 5 (.int .i64 (w64 (Int.tdiv (l1.length : Int) 2))), pl 6 (.slice A2 ([] : List Int).length c2)] hF hS (by kernel_rfl) (by kernel_rfl) ?_ (fun a w hF hS => ?_)
  · exact obs_nil
  refine at_end [0, 1, 5, 6] [pl 0 (.slice A1 l1.length c1), pl 1 (.bool in1), pl 5 (.int .i64 (w64 (Int.tdiv (l1.length : Int) 2))), pl 6 (.slice A2 ([] : List Int).length c2)] hF rfl (by kernel_rfl) (fun hF => ?_)
  refine then_n ?_
  refine seq_cut (fun a w => ∃ (out1 : List Int) (A3 : Option Addr) (c3 : Nat), Fr 47 [pl 6 (.slice A3 out1.length c3)] a ∧ Sep w0 w0.heap.size w [own 3 (.slice A3 out1.length c3) (vI out1)] ∧ (deck_riffle_J1 out1).bind some = some r) ?_ ?_
  · rintro a w ⟨out1, A3, c3, hF, hS, hm⟩
    unfold deck_riffle_J1 at hm
    refine reg [] [] [4] [pl 4 (.slice A3 out1.length c3)] hF hS Fol (by kernel_rfl) (by kernel_rfl) (by kernel_rfl) ?_ (fun a w hF hS => ?_)
    · exact obs_nil
    refine wp_ret ?_
    have hm : some out1 = some r := hm
    obtain rfl := Option.some.inj hm
    exact ret1 (t := 4) (v := .slice A3 out1.length c3) hF rfl (by kernel_rfl) ⟨_, rfl, A3, c3, rfl, hS⟩
  · refine reg [] [] [0, 1, 5, 6, 14, 15] [pl 0 (.slice A1 l1.length c1), pl 1 (.bool in1), pl 5 (.int .i64 (w64 (Int.tdiv (l1.length : Int) 2))), pl 6 (.slice A2 ([] : List Int).length c2), pl 14 (.int .i64 (w64 (Int.tdiv (l1.length : Int) 2))), pl 15 (.int .i64 0)] hF hS Fol (by kernel_rfl) (by kernel_rfl) (by kernel_rfl) ?_ (fun a w hF hS => ?_)
    · exact obs_nil
    refine wp_block ?_
    refine wp_loop_model (S := (List Int × Int)) (R := (List Int)) (deck_riffle_L1 l1 in1) (fun x => (deck_riffle_K1 x).bind some) r (fun (x : (List Int × Int)) a w => ∃ (A4 : Option Addr) (c4 : Nat), Fr 47 [pl 0 (.slice A1 l1.length c1), pl 1 (.bool in1), pl 5 (.int .i64 (w64 (Int.tdiv (l1.length : Int) 2))), pl 6 (.slice A4 x.1.length c4), pl 14 (.int .i64 (w64 (Int.tdiv (l1.length : Int) 2))), pl 15 (.int .i64 x.2)] a ∧ Sep w0 w0.heap.size w [own 3 (.slice A4 x.1.length c4) (vI x.1)]) (assoc_b hm) ⟨A2, c2, hF.weak [0, 1, 5, 6, 14, 15] (by kernel_rfl), hS⟩ ?_
    clear hF hS hm
    rintro nn1 ⟨out2, z1⟩ a w ⟨A4, c4, hF, hS⟩ hm
    generalize hφ1 : stK (deck_riffle_L1 l1 in1) nn1 (fun x => (deck_riffle_K1 x).bind some) = φ1 at hm
    unfold deck_riffle_L1 at hm
    dsimp only at hF hS hm
    refine reg [] [] [0, 1, 5, 6, 14, 15, 16] [pl 0 (.slice A1 l1.length c1), pl 1 (.bool in1), pl 5 (.int .i64 (w64 (Int.tdiv (l1.length : Int) 2))), pl 6 (.slice A4 out2.length c4), pl 14 (.int .i64 (w64 (Int.tdiv (l1.length : Int) 2))), pl 15 (.int .i64 z1), pl 16 (.bool (decide (z1 < (w64 (Int.tdiv (l1.length : Int) 2)))))] hF hS Fol (by kernel_rfl) (by kernel_rfl) (by kernel_rfl) ?_ (fun a w hF hS => ?_)
    · exact obs_nil
    refine seq_cut (fun a w => Fr 47 [pl 0 (.slice A1 l1.length c1), pl 1 (.bool in1), pl 5 (.int .i64 (w64 (Int.tdiv (l1.length : Int) 2))), pl 6 (.slice A4 out2.length c4), pl 14 (.int .i64 (w64 (Int.tdiv (l1.length : Int) 2))), pl 15 (.int .i64 z1)] a ∧ Sep w0 w0.heap.size w [own 3 (.slice A4 out2.length c4) (vI out2)] ∧ ((deck_riffle_J2 l1 in1 out2 z1)).bind φ1 = some r) ?_ ?_
    · rintro a w ⟨hF, hS, hm⟩
      unfold deck_riffle_J2 at hm
      refine seq_cut (fun a w => ∃ (out3 : List Int) (A5 : Option Addr) (c5 : Nat), Fr 47 [pl 0 (.slice A1 l1.length c1), pl 1 (.bool in1), pl 5 (.int .i64 (w64 (Int.tdiv (l1.length : Int) 2))), pl 6 (.slice A5 out3.length c5), pl 14 (.int .i64 (w64 (Int.tdiv (l1.length : Int) 2))), pl 15 (.int .i64 z1)] a ∧ Sep w0 w0.heap.size w [own 3 (.slice A5 out3.length c5) (vI out3)] ∧ ((deck_riffle_J3 z1) out3).bind φ1 = some r) ?_ ?_
      · rintro a w ⟨out3, A5, c5, hF, hS, hm⟩
        unfold deck_riffle_J3 at hm
        refine reg1 [] [] [0, 1, 5, 6, 14, 15] [pl 0 (.slice A1 l1.length c1), pl 1 (.bool in1), pl 5 (.int .i64 (w64 (Int.tdiv (l1.length : Int) 2))), pl 6 (.slice A5 out3.length c5), pl 14 (.int .i64 (w64 (Int.tdiv (l1.length : Int) 2))), pl 15 (.int .i64 (w64 (z1 + 1)))] hF hS Fol (by kernel_rfl) (by kernel_rfl) (by kernel_rfl) ?_ (fun a w hF hS => ?_)
        · exact obs_nil
        refine then_n ?_
        rw [← hφ1] at hm
        exact ⟨(out3, (w64 (z1 + 1))), ⟨A5, c5, hF.weak [0, 1, 5, 6, 14, 15] (by kernel_rfl), hS⟩, hm⟩
      · refine wp_block ?_
        refine reg [] [] [0, 1, 5, 6, 7, 14, 15] [pl 0 (.slice A1 l1.length c1), pl 1 (.bool in1), pl 5 (.int .i64 (w64 (Int.tdiv (l1.length : Int) 2))), pl 6 (.slice A4 out2.length c4), pl 7 (.int .i64 z1), pl 14 (.int .i64 (w64 (Int.tdiv (l1.length : Int) 2))), pl 15 (.int .i64 z1)] hF hS Fol (by kernel_rfl) (by kernel_rfl) (by kernel_rfl) ?_ (fun a w hF hS => ?_)
        · exact obs_nil
        refine reg [] [] [0, 1, 5, 6, 7, 14, 15, 18] [pl 0 (.slice A1 l1.length c1), pl 1 (.bool in1), pl 5 (.int .i64 (w64 (Int.tdiv (l1.length : Int) 2))), pl 6 (.slice A4 out2.length c4), pl 7 (.int .i64 z1), pl 14 (.int .i64 (w64 (Int.tdiv (l1.length : Int) 2))), pl 15 (.int .i64 z1), pl 18 (.bool in1)] hF hS Fol (by kernel_rfl) (by kernel_rfl) (by kernel_rfl) ?_ (fun a w hF hS => ?_)
        · exact obs_nil
        refine cond_ev (t := 18) (b := in1) hF (by kernel_rfl) (fun hb => ?_) (fun hb => ?_)
        · replace hm := if_t hm hb
          obtain ⟨hp2, hm⟩ := asrt_b hm
          obtain ⟨hp3, hm⟩ := asrt_b hm
          obtain ⟨hp4, hm⟩ := asrt_b hm
          refine regMix2 [0, 1, 2, 3, 4, 5, 6, 7, 8, 9, 10] [11, 12, 13] [⟨true, [], vS (Instr.indexAt 22 (.slice A1 l1.length c1) (.int .i64 (w64 ((w64 (Int.tdiv (l1.length : Int) 2)) + z1)))), .pointer (some (sAddr A1 (w64 ((w64 (Int.tdiv (l1.length : Int) 2)) + z1))))⟩, ⟨false, [], vS (Instr.loadAt 3 (.pointer (some (sAddr A1 (w64 ((w64 (Int.tdiv (l1.length : Int) 2)) + z1)))))), .int .i64 (geti l1 (w64 ((w64 (Int.tdiv (l1.length : Int) 2)) + z1)))⟩, ⟨true, [], vS (Instr.indexAt 22 (.slice A1 l1.length c1) (.int .i64 z1)), .pointer (some (sAddr A1 z1))⟩, ⟨false, [], vS (Instr.loadAt 3 (.pointer (some (sAddr A1 z1)))), .int .i64 (geti l1 z1)⟩] [none, none, none, none, none, some (.pointer (some (sAddr A1 (w64 ((w64 (Int.tdiv (l1.length : Int) 2)) + z1))))), some (.int .i64 (geti l1 (w64 ((w64 (Int.tdiv (l1.length : Int) 2)) + z1)))), none, none, some (.pointer (some (sAddr A1 z1))), some (.int .i64 (geti l1 z1))] [0, 1, 5, 14, 15, 19, 25, 29] [pl 0 (.slice A1 l1.length c1), pl 1 (.bool in1), pl 5 (.int .i64 (w64 (Int.tdiv (l1.length : Int) 2))), pl 14 (.int .i64 (w64 (Int.tdiv (l1.length : Int) 2))), pl 15 (.int .i64 z1), pl 19 (.slice A4 out2.length c4), pl 25 (.int .i64 (geti l1 (w64 ((w64 (Int.tdiv (l1.length : Int) 2)) + z1)))), pl 29 (.int .i64 (geti l1 z1))] hF hS Fol (by kernel_rfl) (by kernel_rfl) (by kernel_rfl) (by kernel_rfl) (by kernel_rfl) ?_ (fun a w hF hS => ?_)
          · exact obs_cons (ob_ixI Und22 hi3 hs3 (hr_l1.sep hS) (fun _ => hp2)) <| obs_cons (ob_geti Agg3 (fun _ hS => ⟨_, (hr_l1.sep hS)⟩) (fun _ => hp2)) <| obs_cons (ob_ixI Und22 hi3 hs3 (hr_l1.sep hS) (fun _ => hp3)) <| obs_cons (ob_geti Agg3 (fun _ hS => ⟨_, (hr_l1.sep hS)⟩) (fun _ => hp3)) <| obs_nil
          refine at_do (d := 30) (s := vS (Instr.buildSlice 22 2 #[(0, .int .i64 (geti l1 (w64 ((w64 (Int.tdiv (l1.length : Int) 2)) + z1)))), (1, .int .i64 (geti l1 z1))])) (v := .slice (some ⟨w.heap.size, 0, none⟩) 2 2) (w' := w.alloc (.cells #[.int .i64 (geti l1 (w64 ((w64 (Int.tdiv (l1.length : Int) 2)) + z1))), .int .i64 (geti l1 z1)] 3)) hF (by kernel_rfl) (by kernel_rfl) (by kernel_rfl) (fun a hF => ?_)
          have hS : Sep w0 w0.heap.size (w.alloc (.cells #[.int .i64 (geti l1 (w64 ((w64 (Int.tdiv (l1.length : Int) 2)) + z1))), .int .i64 (geti l1 z1)] 3)) (own 3 (.slice (some (⟨w.heap.size, 0, none⟩ : Addr)) ([geti l1 (w64 ((w64 (Int.tdiv (l1.length : Int) 2)) + z1)), geti l1 z1]).length 2) (vI ([geti l1 (w64 ((w64 (Int.tdiv (l1.length : Int) 2)) + z1)), geti l1 z1])) :: [own 3 (.slice A4 out2.length c4) (vI out2)]) := hS.lit 3 #[.int .i64 (geti l1 (w64 ((w64 (Int.tdiv (l1.length : Int) 2)) + z1))), .int .i64 (geti l1 z1)] 2 rfl (by omega)
          generalize (some (⟨w.heap.size, 0, none⟩ : Addr)) = g1 at hF hS
          generalize w.alloc (.cells #[.int .i64 (geti l1 (w64 ((w64 (Int.tdiv (l1.length : Int) 2)) + z1))), .int .i64 (geti l1 z1)] 3) = w at hS ⊢
          obtain ⟨A6, c6, w, hrun, hS⟩ := run_appI (P := Try.prog) (t := 22) (xs := out2) (ys := [geti l1 (w64 ((w64 (Int.tdiv (l1.length : Int) 2)) + z1)), geti l1 z1]) (m := ([geti l1 (w64 ((w64 (Int.tdiv (l1.length : Int) 2)) + z1)), geti l1 z1]).length) (c := 2) (hS.at_ 1 rfl) (hS.at_ 0 rfl).rd (by rfl) 22 Und22 hi3 hz3 hs3 hb3 hp4
          have hS : Sep w0 w0.heap.size w [own 3 (.slice g1 ([geti l1 (w64 ((w64 (Int.tdiv (l1.length : Int) 2)) + z1)), geti l1 z1]).length 2) (vI ([geti l1 (w64 ((w64 (Int.tdiv (l1.length : Int) 2)) + z1)), geti l1 z1])), own 3 (.slice A6 (out2 ++ ([geti l1 (w64 ((w64 (Int.tdiv (l1.length : Int) 2)) + z1)), geti l1 z1])).length c6) (vI (out2 ++ ([geti l1 (w64 ((w64 (Int.tdiv (l1.length : Int) 2)) + z1)), geti l1 z1])))] := hS
          refine at_do (d := 31) hF (by kernel_rfl) (by kernel_rfl) hrun (fun a hF => ?_)
          refine at_run 1 [] [] [0, 1, 5, 6, 14, 15] [pl 0 (.slice A1 l1.length c1), pl 1 (.bool in1), pl 5 (.int .i64 (w64 (Int.tdiv (l1.length : Int) 2))), pl 6 (.slice A6 (out2 ++ ([geti l1 (w64 ((w64 (Int.tdiv (l1.length : Int) 2)) + z1)), geti l1 z1])).length c6), pl 14 (.int .i64 (w64 (Int.tdiv (l1.length : Int) 2))), pl 15 (.int .i64 z1)] hF hS (by kernel_rfl) (by kernel_rfl) ?_ (fun a w hF hS => ?_)
          · exact obs_nil
          refine at_end [0, 1, 5, 6, 14, 15] [pl 0 (.slice A1 l1.length c1), pl 1 (.bool in1), pl 5 (.int .i64 (w64 (Int.tdiv (l1.length : Int) 2))), pl 6 (.slice A6 (out2 ++ ([geti l1 (w64 ((w64 (Int.tdiv (l1.length : Int) 2)) + z1)), geti l1 z1])).length c6), pl 14 (.int .i64 (w64 (Int.tdiv (l1.length : Int) 2))), pl 15 (.int .i64 z1)] hF rfl (by kernel_rfl) (fun hF => ?_)
          refine np_n ?_
          refine block_n ?_
          refine then_n ?_
          have hS := hS.pick [1] (by decide)
          exact ⟨(out2 ++ ([geti l1 (w64 ((w64 (Int.tdiv (l1.length : Int) 2)) + z1)), geti l1 z1])), A6, c6, hF.weak [0, 1, 5, 6, 14, 15] (by kernel_rfl), hS, hm⟩
        · replace hm := if_f hm hb
          obtain ⟨hp5, hm⟩ := asrt_b hm
          obtain ⟨hp6, hm⟩ := asrt_b hm
          obtain ⟨hp7, hm⟩ := asrt_b hm
          refine regMix2 [0, 1, 2, 3, 4, 5, 6, 7, 8, 9, 10] [11, 12, 13] [⟨true, [], vS (Instr.indexAt 22 (.slice A1 l1.length c1) (.int .i64 z1)), .pointer (some (sAddr A1 z1))⟩, ⟨false, [], vS (Instr.loadAt 3 (.pointer (some (sAddr A1 z1)))), .int .i64 (geti l1 z1)⟩, ⟨true, [], vS (Instr.indexAt 22 (.slice A1 l1.length c1) (.int .i64 (w64 ((w64 (Int.tdiv (l1.length : Int) 2)) + z1)))), .pointer (some (sAddr A1 (w64 ((w64 (Int.tdiv (l1.length : Int) 2)) + z1))))⟩, ⟨false, [], vS (Instr.loadAt 3 (.pointer (some (sAddr A1 (w64 ((w64 (Int.tdiv (l1.length : Int) 2)) + z1)))))), .int .i64 (geti l1 (w64 ((w64 (Int.tdiv (l1.length : Int) 2)) + z1)))⟩] [none, none, none, some (.pointer (some (sAddr A1 z1))), some (.int .i64 (geti l1 z1)), none, none, none, none, some (.pointer (some (sAddr A1 (w64 ((w64 (Int.tdiv (l1.length : Int) 2)) + z1))))), some (.int .i64 (geti l1 (w64 ((w64 (Int.tdiv (l1.length : Int) 2)) + z1))))] [0, 1, 5, 14, 15, 32, 36, 42] [pl 0 (.slice A1 l1.length c1), pl 1 (.bool in1), pl 5 (.int .i64 (w64 (Int.tdiv (l1.length : Int) 2))), pl 14 (.int .i64 (w64 (Int.tdiv (l1.length : Int) 2))), pl 15 (.int .i64 z1), pl 32 (.slice A4 out2.length c4), pl 36 (.int .i64 (geti l1 z1)), pl 42 (.int .i64 (geti l1 (w64 ((w64 (Int.tdiv (l1.length : Int) 2)) + z1))))] hF hS Fol (by kernel_rfl) (by kernel_rfl) (by kernel_rfl) (by kernel_rfl) (by kernel_rfl) ?_ (fun a w hF hS => ?_)
          · exact obs_cons (ob_ixI Und22 hi3 hs3 (hr_l1.sep hS) (fun _ => hp5)) <| obs_cons (ob_geti Agg3 (fun _ hS => ⟨_, (hr_l1.sep hS)⟩) (fun _ => hp5)) <| obs_cons (ob_ixI Und22 hi3 hs3 (hr_l1.sep hS) (fun _ => hp6)) <| obs_cons (ob_geti Agg3 (fun _ hS => ⟨_, (hr_l1.sep hS)⟩) (fun _ => hp6)) <| obs_nil
          refine at_do (d := 43) (s := vS (Instr.buildSlice 22 2 #[(0, .int .i64 (geti l1 z1)), (1, .int .i64 (geti l1 (w64 ((w64 (Int.tdiv (l1.length : Int) 2)) + z1))))])) (v := .slice (some ⟨w.heap.size, 0, none⟩) 2 2) (w' := w.alloc (.cells #[.int .i64 (geti l1 z1), .int .i64 (geti l1 (w64 ((w64 (Int.tdiv (l1.length : Int) 2)) + z1)))] 3)) hF (by kernel_rfl) (by kernel_rfl) (by kernel_rfl) (fun a hF => ?_)
          have hS : Sep w0 w0.heap.size (w.alloc (.cells #[.int .i64 (geti l1 z1), .int .i64 (geti l1 (w64 ((w64 (Int.tdiv (l1.length : Int) 2)) + z1)))] 3)) (own 3 (.slice (some (⟨w.heap.size, 0, none⟩ : Addr)) ([geti l1 z1, geti l1 (w64 ((w64 (Int.tdiv (l1.length : Int) 2)) + z1))]).length 2) (vI ([geti l1 z1, geti l1 (w64 ((w64 (Int.tdiv (l1.length : Int) 2)) + z1))])) :: [own 3 (.slice A4 out2.length c4) (vI out2)]) := hS.lit 3 #[.int .i64 (geti l1 z1), .int .i64 (geti l1 (w64 ((w64 (Int.tdiv (l1.length : Int) 2)) + z1)))] 2 rfl (by omega)
          generalize (some (⟨w.heap.size, 0, none⟩ : Addr)) = g2 at hF hS
          generalize w.alloc (.cells #[.int .i64 (geti l1 z1), .int .i64 (geti l1 (w64 ((w64 (Int.tdiv (l1.length : Int) 2)) + z1)))] 3) = w at hS ⊢
          obtain ⟨A7, c7, w, hrun, hS⟩ := run_appI (P := Try.prog) (t := 22) (xs := out2) (ys := [geti l1 z1, geti l1 (w64 ((w64 (Int.tdiv (l1.length : Int) 2)) + z1))]) (m := ([geti l1 z1, geti l1 (w64 ((w64 (Int.tdiv (l1.length : Int) 2)) + z1))]).length) (c := 2) (hS.at_ 1 rfl) (hS.at_ 0 rfl).rd (by rfl) 22 Und22 hi3 hz3 hs3 hb3 hp7
          have hS : Sep w0 w0.heap.size w [own 3 (.slice g2 ([geti l1 z1, geti l1 (w64 ((w64 (Int.tdiv (l1.length : Int) 2)) + z1))]).length 2) (vI ([geti l1 z1, geti l1 (w64 ((w64 (Int.tdiv (l1.length : Int) 2)) + z1))])), own 3 (.slice A7 (out2 ++ ([geti l1 z1, geti l1 (w64 ((w64 (Int.tdiv (l1.length : Int) 2)) + z1))])).length c7) (vI (out2 ++ ([geti l1 z1, geti l1 (w64 ((w64 (Int.tdiv (l1.length : Int) 2)) + z1))])))] := hS
          refine at_do (d := 44) hF (by kernel_rfl) (by kernel_rfl) hrun (fun a hF => ?_)
          refine at_run 1 [] [] [0, 1, 5, 6, 14, 15] [pl 0 (.slice A1 l1.length c1), pl 1 (.bool in1), pl 5 (.int .i64 (w64 (Int.tdiv (l1.length : Int) 2))), pl 6 (.slice A7 (out2 ++ ([geti l1 z1, geti l1 (w64 ((w64 (Int.tdiv (l1.length : Int) 2)) + z1))])).length c7), pl 14 (.int .i64 (w64 (Int.tdiv (l1.length : Int) 2))), pl 15 (.int .i64 z1)] hF hS (by kernel_rfl) (by kernel_rfl) ?_ (fun a w hF hS => ?_)
          · exact obs_nil
          refine at_end [0, 1, 5, 6, 14, 15] [pl 0 (.slice A1 l1.length c1), pl 1 (.bool in1), pl 5 (.int .i64 (w64 (Int.tdiv (l1.length : Int) 2))), pl 6 (.slice A7 (out2 ++ ([geti l1 z1, geti l1 (w64 ((w64 (Int.tdiv (l1.length : Int) 2)) + z1))])).length c7), pl 14 (.int .i64 (w64 (Int.tdiv (l1.length : Int) 2))), pl 15 (.int .i64 z1)] hF rfl (by kernel_rfl) (fun hF => ?_)
          refine np_n ?_
          refine block_n ?_
          refine then_n ?_
          have hS := hS.pick [1] (by decide)
          exact ⟨(out2 ++ ([geti l1 z1, geti l1 (w64 ((w64 (Int.tdiv (l1.length : Int) 2)) + z1))])), A7, c7, hF.weak [0, 1, 5, 6, 14, 15] (by kernel_rfl), hS, hm⟩
    · refine cond_ev (t := 16) (b := decide (z1 < (w64 (Int.tdiv (l1.length : Int) 2)))) hF (by kernel_rfl) (fun hb => ?_) (fun hb => ?_)
      · replace hm := if_t hm hb
        refine wp_skip ?_
        refine then_n ?_
        exact ⟨hF.weak [0, 1, 5, 6, 14, 15] (by kernel_rfl), hS, hm⟩
      · replace hm := if_f hm hb
        refine wp_exit ?_
        refine then_e (then_e (block_e (then_n ?_)))
        rw [← hφ1] at hm
        have hm : (deck_riffle_J1 out2).bind some = some r := hm
        exact ⟨out2, A4, c4, hF.weak [6] (by kernel_rfl), hS, hm⟩

noncomputable def deck_Riffle_J1 (l1 : List Int) (in1 : Bool) : Option (List Int × Int) :=
  (deck_riffle_m l1 in1).bind fun r1 => some (r1, 0)

noncomputable def deck_Riffle_m (l1 : List Int) (in1 : Bool) : Option (List Int × Int) :=
  if (((bAnd (l1.length : Int) 1) == 1) || (decide ((104 : Int) < (l1.length : Int)))) then (some (([] : List Int), 2)) else ((deck_Riffle_J1 l1 in1))

def deck_Riffle_post (r : (List Int × Int)) (v : Value) (w0 w' : World) : Prop := ∃ (A0 : Option Addr) (c0 : Nat), v = .tuple #[.slice A0 r.1.length c0, .int .i64 r.2] ∧ Sep w0 w0.heap.size w' [own 3 (.slice A0 r.1.length c0) (vI r.1)]

set_option maxRecDepth 100000 in
set_option maxHeartbeats 4000000 in
theorem deck_Riffle_w {A1 : Option Addr} {c1 : Nat} {l1 : List Int} {in1 : Bool} {r : (List Int × Int)} {w0 : World} (hm : deck_Riffle_m l1 in1 = some r) (hr_l1 : Rd w0 w0.heap.size A1 (vI l1)) (_hc_l1 : l1.length ≤ c1) :
    Calls Try.prog 32 #[.slice A1 l1.length c1, .bool in1] w0 fun e w' => ∃ v, e = .returned v ∧ deck_Riffle_post r v w0 w' := by
  unfold deck_Riffle_m at hm
  replace hm := start_b hm
  refine enterS (l := [.slice A1 l1.length c1, .bool in1]) (n := 18) Try.func32 rfl rfl (by simp) (fun a w hF hS => ?_)
  refine reg [] [] [0, 1] [pl 0 (.slice A1 l1.length c1), pl 1 (.bool in1)] hF hS Fol (by kernel_rfl) (by kernel_rfl) (by kernel_rfl) ?_ (fun a w hF hS => ?_)
  · exact obs_nil
  refine seq_cut (fun a w => Fr 18 [pl 0 (.slice A1 l1.length c1), pl 1 (.bool in1)] a ∧ Sep w0 w0.heap.size w [] ∧ ((deck_Riffle_J1 l1 in1)).bind some = some r) ?_ ?_
  · rintro a w ⟨hF, hS, hm⟩
    unfold deck_Riffle_J1 at hm
    obtain ⟨r1, hr1, hm⟩ := call_b hm
    refine seqR ?_
    refine at_run 2 [] [] [15, 16] [pl 15 (.slice A1 l1.length c1), pl 16 (.bool in1)] hF hS (by kernel_rfl) (by kernel_rfl) ?_ (fun a w hF hS => ?_)
    · exact obs_nil
    refine at_call (f := 62) (args := #[.slice A1 l1.length c1, .bool in1]) (d := 17) hF (by kernel_rfl) (by kernel_rfl) Try.func62 (by kernel_rfl) rfl (deck_riffle_w hr1 (hr_l1.sep hS) _hc_l1) (fun v a w hR hF => ?_)
    obtain ⟨A2, c2, rfl, hS'⟩ := hR
    have hS : Sep w0 w0.heap.size w [own 3 (.slice A2 r1.length c2) (vI r1)] := hS.merge hS'
    refine at_run 2 [] [] [4, 5] [pl 4 (.slice A2 r1.length c2), pl 5 (.int .i64 0)] hF hS (by kernel_rfl) (by kernel_rfl) ?_ (fun a w hF hS => ?_)
    · exact obs_nil
    refine at_end [4, 5] [pl 4 (.slice A2 r1.length c2), pl 5 (.int .i64 0)] hF rfl (by kernel_rfl) (fun hF => ?_)
    refine then_n ?_
    refine wp_ret ?_
    have hm : some (r1, 0) = some r := hm
    obtain rfl := Option.some.inj hm
    exact ret2 (t := 4) (u := 5) (v := .slice A2 r1.length c2) (v' := .int .i64 0) hF rfl (by kernel_rfl) (by kernel_rfl) ⟨_, rfl, A2, c2, rfl, hS⟩
  · refine reg [] [] [0, 1, 14] [pl 0 (.slice A1 l1.length c1), pl 1 (.bool in1), pl 14 (.bool (((bAnd (l1.length : Int) 1) == 1) || (decide ((104 : Int) < (l1.length : Int)))))] hF hS Fol (by kernel_rfl) (by kernel_rfl) (by kernel_rfl) ?_ (fun a w hF hS => ?_)
    · exact obs_nil
    refine cond_ev (t := 14) (b := ((bAnd (l1.length : Int) 1) == 1) || (decide ((104 : Int) < (l1.length : Int)))) hF (by kernel_rfl) (fun hb => ?_) (fun hb => ?_)
    · replace hm := if_t hm hb
      refine reg [] [] [4, 5] [pl 4 (.slice none 0 0), pl 5 (.int .i64 2)] hF hS Fol (by kernel_rfl) (by kernel_rfl) (by kernel_rfl) ?_ (fun a w hF hS => ?_)
      · exact obs_nil
      refine wp_ret ?_
      refine then_r ?_
      have hS := hS.nil 3
      have hm : some (([] : List Int), 2) = some r := hm
      obtain rfl := Option.some.inj hm
      exact ret2 (t := 4) (u := 5) (v := .slice none 0 0) (v' := .int .i64 2) hF rfl (by kernel_rfl) (by kernel_rfl) ⟨_, rfl, none, 0, rfl, hS⟩
    · replace hm := if_f hm hb
      refine wp_skip ?_
      refine then_n ?_
      exact ⟨hF.weak [0, 1] (by kernel_rfl), hS, hm⟩

noncomputable def deck_Cut_J1 (l1 : List Int) (n1 : Int) : Option (List Int × Int) :=
  asrt (0 ≤ n1 ∧ n1 ≤ (l1.length : Int) ∧ (l1.length : Int) ≤ (l1.length : Int)) <| asrt (0 ≤ (0 : Int) ∧ (0 : Int) ≤ n1 ∧ n1 ≤ (l1.length : Int)) <| (slices_Concat_m ([(cut l1 n1 (l1.length : Int)), (cut l1 (0 : Int) n1)] : List (List Int))).bind fun r1 => some (r1, 0)

noncomputable def deck_Cut_m (l1 : List Int) (n1 : Int) : Option (List Int × Int) :=
  if (decide ((104 : Int) < (l1.length : Int))) then (some (([] : List Int), 2)) else (if ((decide (n1 < 0)) || (decide ((l1.length : Int) < n1))) then (some (([] : List Int), 3)) else ((deck_Cut_J1 l1 n1)))

def deck_Cut_post (r : (List Int × Int)) (v : Value) (w0 w' : World) : Prop := ∃ (A0 : Option Addr) (c0 : Nat), v = .tuple #[.slice A0 r.1.length c0, .int .i64 r.2] ∧ Sep w0 w0.heap.size w' [own 3 (.slice A0 r.1.length c0) (vI r.1)]

set_option maxRecDepth 100000 in
set_option maxHeartbeats 4000000 in
theorem deck_Cut_w {A1 : Option Addr} {c1 : Nat} {l1 : List Int} {n1 : Int} {r : (List Int × Int)} {w0 : World} (hm : deck_Cut_m l1 n1 = some r) (hr_l1 : Rd w0 w0.heap.size A1 (vI l1)) (_hc_l1 : l1.length ≤ c1) :
    Calls Try.prog 33 #[.slice A1 l1.length c1, .int .i64 n1] w0 fun e w' => ∃ v, e = .returned v ∧ deck_Cut_post r v w0 w' := by
  obtain ⟨i3, hi3, hz3, hs3, hb3⟩ := info_parts Info3
  obtain ⟨i22, hi22, hz22, hs22, hb22⟩ := info_parts Info22
  unfold deck_Cut_m at hm
  replace hm := start_b hm
  refine enterS (l := [.slice A1 l1.length c1, .int .i64 n1]) (n := 27) Try.func33 rfl rfl (by simp) (fun a w hF hS => ?_)
  refine reg [] [] [0, 1] [pl 0 (.slice A1 l1.length c1), pl 1 (.int .i64 n1)] hF hS Fol (by kernel_rfl) (by kernel_rfl) (by kernel_rfl) ?_ (fun a w hF hS => ?_)
  · exact obs_nil
  refine seq_cut (fun a w => Fr 27 [pl 0 (.slice A1 l1.length c1), pl 1 (.int .i64 n1)] a ∧ Sep w0 w0.heap.size w [] ∧ ((deck_Cut_J1 l1 n1)).bind some = some r) ?_ ?_
  · rintro a w ⟨hF, hS, hm⟩
    unfold deck_Cut_J1 at hm
    refine wp_seq ?_
    obtain ⟨hp1, hm⟩ := asrt_b hm
    obtain ⟨hp2, hm⟩ := asrt_b hm
    obtain ⟨r1, hr1, hm⟩ := call_b hm
    refine regMix2 [0, 1, 2, 3, 4, 5] [6, 7, 8, 9] [⟨true, [], vS (Instr.sliceAt 22 (.slice A1 l1.length c1) (some (.int .i64 n1)) none none), .slice (cutAddr A1 c1 n1) (cut l1 n1 (l1.length : Int)).length (c1 - Int.toNat n1)⟩, ⟨true, [], vS (Instr.sliceAt 22 (.slice A1 l1.length c1) none (some (.int .i64 n1)) none), .slice (cutAddr A1 c1 (0 : Int)) (cut l1 (0 : Int) n1).length (c1 - Int.toNat (0 : Int))⟩] [none, none, some (.slice (cutAddr A1 c1 n1) (cut l1 n1 (l1.length : Int)).length (c1 - Int.toNat n1)), none, none, some (.slice (cutAddr A1 c1 (0 : Int)) (cut l1 (0 : Int) n1).length (c1 - Int.toNat (0 : Int)))] [21, 24] [pl 21 (.slice (cutAddr A1 c1 n1) (cut l1 n1 (l1.length : Int)).length (c1 - Int.toNat n1)), pl 24 (.slice (cutAddr A1 c1 (0 : Int)) (cut l1 (0 : Int) n1).length (c1 - Int.toNat (0 : Int)))] hF hS Fol (by kernel_rfl) (by kernel_rfl) (by kernel_rfl) (by kernel_rfl) (by kernel_rfl) ?_ (fun a w hF hS => ?_)
    · exact obs_cons (ob_cut (k := .i64) (k' := .i64) Und22 hi3 hs3 (.inl rfl) (.inr ⟨rfl, rfl⟩) (fun _ => hp1) _hc_l1) <| obs_cons (ob_cut (k := .i64) (k' := .i64) Und22 hi3 hs3 (.inr ⟨rfl, rfl⟩) (.inl rfl) (fun _ => hp2) _hc_l1) <| obs_nil
    refine at_do (d := 25) (s := vS (Instr.buildSlice 23 2 #[(0, .slice (cutAddr A1 c1 n1) (cut l1 n1 (l1.length : Int)).length (c1 - Int.toNat n1)), (1, .slice (cutAddr A1 c1 (0 : Int)) (cut l1 (0 : Int) n1).length (c1 - Int.toNat (0 : Int)))])) (v := .slice (some ⟨w.heap.size, 0, none⟩) 2 2) (w' := w.alloc (.cells #[.slice (cutAddr A1 c1 n1) (cut l1 n1 (l1.length : Int)).length (c1 - Int.toNat n1), .slice (cutAddr A1 c1 (0 : Int)) (cut l1 (0 : Int) n1).length (c1 - Int.toNat (0 : Int))] 22)) hF (by kernel_rfl) (by kernel_rfl) (by kernel_rfl) (fun a hF => ?_)
    have hS : Sep w0 w0.heap.size (w.alloc (.cells #[.slice (cutAddr A1 c1 n1) (cut l1 n1 (l1.length : Int)).length (c1 - Int.toNat n1), .slice (cutAddr A1 c1 (0 : Int)) (cut l1 (0 : Int) n1).length (c1 - Int.toNat (0 : Int))] 22)) (own 22 (.slice (some (⟨w.heap.size, 0, none⟩ : Addr)) 2 2) [.slice (cutAddr A1 c1 n1) (cut l1 n1 (l1.length : Int)).length (c1 - Int.toNat n1), .slice (cutAddr A1 c1 (0 : Int)) (cut l1 (0 : Int) n1).length (c1 - Int.toNat (0 : Int))] :: []) := hS.lit 22 #[.slice (cutAddr A1 c1 n1) (cut l1 n1 (l1.length : Int)).length (c1 - Int.toNat n1), .slice (cutAddr A1 c1 (0 : Int)) (cut l1 (0 : Int) n1).length (c1 - Int.toNat (0 : Int))] 2 rfl (by omega)
    generalize (some (⟨w.heap.size, 0, none⟩ : Addr)) = g1 at hF hS
    generalize w.alloc (.cells #[.slice (cutAddr A1 c1 n1) (cut l1 n1 (l1.length : Int)).length (c1 - Int.toNat n1), .slice (cutAddr A1 c1 (0 : Int)) (cut l1 (0 : Int) n1).length (c1 - Int.toNat (0 : Int))] 22) = w at hS ⊢
    refine at_call (f := 74) (args := #[.slice g1 ([(cut l1 n1 (l1.length : Int)), (cut l1 (0 : Int) n1)] : List (List Int)).length 2]) (d := 26) hF (by kernel_rfl) (by kernel_rfl) Try.func74 (by kernel_rfl) rfl (slices_Concat_w hr1 (rdLit (hd := ([((cutAddr A1 c1 n1), (c1 - Int.toNat n1)), ((cutAddr A1 c1 (0 : Int)), (c1 - Int.toNat (0 : Int)))] : List Hd)) (m := ([(cut l1 n1 (l1.length : Int)), (cut l1 (0 : Int) n1)] : List (List Int))) hS 0 rfl ⟨⟨(Rd.cutI (hr_l1.sep hS) hp1 _hc_l1), (cap_cut hp1 _hc_l1)⟩, ⟨(Rd.cutI (hr_l1.sep hS) hp2 _hc_l1), (cap_cut hp2 _hc_l1)⟩, trivial⟩) (Nat.le_refl _)) (fun v a w hR hF => ?_)
    obtain ⟨A2, c2, rfl, hS'⟩ := hR
    have hS : Sep w0 w0.heap.size w [own 3 (.slice A2 r1.length c2) (vI r1), own 22 (.slice g1 2 2) [.slice (cutAddr A1 c1 n1) (cut l1 n1 (l1.length : Int)).length (c1 - Int.toNat n1), .slice (cutAddr A1 c1 (0 : Int)) (cut l1 (0 : Int) n1).length (c1 - Int.toNat (0 : Int))]] := hS.merge hS'
    refine at_run 2 [] [] [4, 5] [pl 4 (.slice A2 r1.length c2), pl 5 (.int .i64 0)] hF hS (by kernel_rfl) (by kernel_rfl) ?_ (fun a w hF hS => ?_)
    · exact obs_nil
    refine at_end [4, 5] [pl 4 (.slice A2 r1.length c2), pl 5 (.int .i64 0)] hF rfl (by kernel_rfl) (fun hF => ?_)
    refine np_n ?_
    refine then_n ?_
    refine wp_ret ?_
    have hS := hS.pick [0] (by decide)
    have hm : some (r1, 0) = some r := hm
    obtain rfl := Option.some.inj hm
    exact ret2 (t := 4) (u := 5) (v := .slice A2 r1.length c2) (v' := .int .i64 0) hF rfl (by kernel_rfl) (by kernel_rfl) ⟨_, rfl, A2, c2, rfl, hS⟩
  · refine wp_block ?_
    refine reg [] [] [0, 1, 6] [pl 0 (.slice A1 l1.length c1), pl 1 (.int .i64 n1), pl 6 (.bool (decide ((104 : Int) < (l1.length : Int))))] hF hS Fol (by kernel_rfl) (by kernel_rfl) (by kernel_rfl) ?_ (fun a w hF hS => ?_)
    · exact obs_nil
    refine cond_ev (t := 6) (b := decide ((104 : Int) < (l1.length : Int))) hF (by kernel_rfl) (fun hb => ?_) (fun hb => ?_)
    · replace hm := if_t hm hb
      refine reg [] [] [4, 5] [pl 4 (.slice none 0 0), pl 5 (.int .i64 2)] hF hS Fol (by kernel_rfl) (by kernel_rfl) (by kernel_rfl) ?_ (fun a w hF hS => ?_)
      · exact obs_nil
      refine wp_ret ?_
      refine block_r (then_r ?_)
      have hS := hS.nil 3
      have hm : some (([] : List Int), 2) = some r := hm
      obtain rfl := Option.some.inj hm
      exact ret2 (t := 4) (u := 5) (v := .slice none 0 0) (v' := .int .i64 2) hF rfl (by kernel_rfl) (by kernel_rfl) ⟨_, rfl, none, 0, rfl, hS⟩
    · replace hm := if_f hm hb
      refine reg [] [] [0, 1, 10] [pl 0 (.slice A1 l1.length c1), pl 1 (.int .i64 n1), pl 10 (.bool ((decide (n1 < 0)) || (decide ((l1.length : Int) < n1))))] hF hS Fol (by kernel_rfl) (by kernel_rfl) (by kernel_rfl) ?_ (fun a w hF hS => ?_)
      · exact obs_nil
      refine cond_ev (t := 10) (b := (decide (n1 < 0)) || (decide ((l1.length : Int) < n1))) hF (by kernel_rfl) (fun hb => ?_) (fun hb => ?_)
      · replace hm := if_t hm hb
        refine reg [] [] [4, 5] [pl 4 (.slice none 0 0), pl 5 (.int .i64 3)] hF hS Fol (by kernel_rfl) (by kernel_rfl) (by kernel_rfl) ?_ (fun a w hF hS => ?_)
        · exact obs_nil
        refine wp_ret ?_
        refine block_r (then_r ?_)
        have hS := hS.nil 3
        have hm : some (([] : List Int), 3) = some r := hm
        obtain rfl := Option.some.inj hm
        exact ret2 (t := 4) (u := 5) (v := .slice none 0 0) (v' := .int .i64 3) hF rfl (by kernel_rfl) (by kernel_rfl) ⟨_, rfl, none, 0, rfl, hS⟩
      · replace hm := if_f hm hb
        refine wp_skip ?_
        refine block_n ?_
        refine then_n ?_
        exact ⟨hF.weak [0, 1] (by kernel_rfl), hS, hm⟩

noncomputable def deck_sorted_J1 (l1 : List Int) : Option (List Int) :=
  some l1

noncomputable def deck_sorted_K1 : (List Int) → Option (List Int) :=
  fun (x : (List Int)) => match x with | l1 => deck_sorted_J1 l1

noncomputable def deck_sorted_J3 (z1 : Int) (l3 : List Int) : Option (St (List Int × Int) (List Int)) :=
  some (.next (l3, (w64 (z1 + 1))))

noncomputable def deck_sorted_J2 (l2 : List Int) (z1 : Int) : Option (St (List Int × Int) (List Int)) :=
  asrt (0 ≤ z1 ∧ z1 < (l2.length : Int)) <| (deck_sorted_J3 z1) (l2.set (Int.toNat z1) z1)

noncomputable def deck_sorted_L1 (n1 : Int) : (List Int × Int) → Option (St (List Int × Int) (List Int)) :=
  fun (x : (List Int × Int)) => match x with | (l2, z1) => if (decide (z1 < ((List.replicate (Int.toNat n1) (0 : Int)).length : Int))) then ((deck_sorted_J2 l2 z1)) else (some (.done l2))

noncomputable def deck_sorted_m (n1 : Int) : Option (List Int) :=
  asrt (0 ≤ n1 ∧ n1 ≤ bigN) <| (loop (deck_sorted_L1 n1) ((List.replicate (Int.toNat n1) (0 : Int)), 0)).bind deck_sorted_K1

def deck_sorted_post (r : (List Int)) (v : Value) (w0 w' : World) : Prop := ∃ (A0 : Option Addr) (c0 : Nat), v = .slice A0 r.length c0 ∧ Sep w0 w0.heap.size w' [own 3 (.slice A0 r.length c0) (vI r)]

set_option maxRecDepth 100000 in
set_option maxHeartbeats 4000000 in
theorem deck_sorted_w {n1 : Int} {r : (List Int)} {w0 : World} (hm : deck_sorted_m n1 = some r) :
    Calls Try.prog 61 #[.int .i64 n1] w0 fun e w' => ∃ v, e = .returned v ∧ deck_sorted_post r v w0 w' := by
  obtain ⟨i3, hi3, hz3, hs3, hb3⟩ := info_parts Info3
  unfold deck_sorted_m at hm
  replace hm := start_b hm
  refine enterS (l := [.int .i64 n1]) (n := 18) Try.func61 rfl rfl (by simp) (fun a w hF hS => ?_)
  refine reg [] [] [0] [pl 0 (.int .i64 n1)] hF hS Fol (by kernel_rfl) (by kernel_rfl) (by kernel_rfl) ?_ (fun a w hF hS => ?_)
  · exact obs_nil
  obtain ⟨hp1, hm⟩ := asrt_b hm
  refine seqR ?_
  refine at_run 1 [] [] [5] [pl 5 (.int .i64 n1)] hF hS (by kernel_rfl) (by kernel_rfl) ?_ (fun a w hF hS => ?_)
  · exact obs_nil
  obtain ⟨A1, c1, w, hrun, hS⟩ := run_mkI (P := Try.prog) (t := 22) hS .i64 .i64 Und22 hi3 hz3 hs3 hb3 hp1
  refine at_do (d := 6) hF (by kernel_rfl) (by kernel_rfl) hrun (fun a hF => ?_)
  refine at_run 1 [] [] [3] [pl 3 (.slice A1 (List.replicate (Int.toNat n1) (0 : Int)).length c1)] hF hS (by kernel_rfl) (by kernel_rfl) ?_ (fun a w hF hS => ?_)
  · exact obs_nil
  refine at_end [3] [pl 3 (.slice A1 (List.replicate (Int.toNat n1) (0 : Int)).length c1)] hF rfl (by kernel_rfl) (fun hF => ?_)
  refine then_n ?_
  refine seq_cut (fun a w => ∃ (l1 : List Int) (A2 : Option Addr) (c2 : Nat), Fr 18 [pl 3 (.slice A2 l1.length c2)] a ∧ Sep w0 w0.heap.size w [own 3 (.slice A2 l1.length c2) (vI l1)] ∧ (deck_sorted_J1 l1).bind some = some r) ?_ ?_
  · rintro a w ⟨l1, A2, c2, hF, hS, hm⟩
    unfold deck_sorted_J1 at hm
    refine reg [] [] [2] [pl 2 (.slice A2 l1.length c2)] hF hS Fol (by kernel_rfl) (by kernel_rfl) (by kernel_rfl) ?_ (fun a w hF hS => ?_)
    · exact obs_nil
    refine wp_ret ?_
    have hm : some l1 = some r := hm
    obtain rfl := Option.some.inj hm
    exact ret1 (t := 2) (v := .slice A2 l1.length c2) hF rfl (by kernel_rfl) ⟨_, rfl, A2, c2, rfl, hS⟩
  · refine reg [] [] [3, 8, 9] [pl 3 (.slice A1 (List.replicate (Int.toNat n1) (0 : Int)).length c1), pl 8 (.int .i64 ((List.replicate (Int.toNat n1) (0 : Int)).length : Int)), pl 9 (.int .i64 0)] hF hS Fol (by kernel_rfl) (by kernel_rfl) (by kernel_rfl) ?_ (fun a w hF hS => ?_)
    · exact obs_nil
    refine wp_block ?_
    refine wp_loop_model (S := (List Int × Int)) (R := (List Int)) (deck_sorted_L1 n1) (fun x => (deck_sorted_K1 x).bind some) r (fun (x : (List Int × Int)) a w => ∃ (A3 : Option Addr) (c3 : Nat), Fr 18 [pl 3 (.slice A3 x.1.length c3), pl 8 (.int .i64 ((List.replicate (Int.toNat n1) (0 : Int)).length : Int)), pl 9 (.int .i64 x.2)] a ∧ Sep w0 w0.heap.size w [own 3 (.slice A3 x.1.length c3) (vI x.1)]) (assoc_b hm) ⟨A1, c1, hF.weak [3, 8, 9] (by kernel_rfl), hS⟩ ?_
    clear hF hS hm
    rintro nn1 ⟨l2, z1⟩ a w ⟨A3, c3, hF, hS⟩ hm
    generalize hφ1 : stK (deck_sorted_L1 n1) nn1 (fun x => (deck_sorted_K1 x).bind some) = φ1 at hm
    unfold deck_sorted_L1 at hm
    dsimp only at hF hS hm
    refine reg [] [] [3, 8, 9, 10] [pl 3 (.slice A3 l2.length c3), pl 8 (.int .i64 ((List.replicate (Int.toNat n1) (0 : Int)).length : Int)), pl 9 (.int .i64 z1), pl 10 (.bool (decide (z1 < ((List.replicate (Int.toNat n1) (0 : Int)).length : Int))))] hF hS Fol (by kernel_rfl) (by kernel_rfl) (by kernel_rfl) ?_ (fun a w hF hS => ?_)
    · exact obs_nil
    refine seq_cut (fun a w => Fr 18 [pl 3 (.slice A3 l2.length c3), pl 8 (.int .i64 ((List.replicate (Int.toNat n1) (0 : Int)).length : Int)), pl 9 (.int .i64 z1)] a ∧ Sep w0 w0.heap.size w [own 3 (.slice A3 l2.length c3) (vI l2)] ∧ ((deck_sorted_J2 l2 z1)).bind φ1 = some r) ?_ ?_
    · rintro a w ⟨hF, hS, hm⟩
      unfold deck_sorted_J2 at hm
      refine seq_cut (fun a w => ∃ (l3 : List Int) (A4 : Option Addr) (c4 : Nat), Fr 18 [pl 3 (.slice A4 l3.length c4), pl 8 (.int .i64 ((List.replicate (Int.toNat n1) (0 : Int)).length : Int)), pl 9 (.int .i64 z1)] a ∧ Sep w0 w0.heap.size w [own 3 (.slice A4 l3.length c4) (vI l3)] ∧ ((deck_sorted_J3 z1) l3).bind φ1 = some r) ?_ ?_
      · rintro a w ⟨l3, A4, c4, hF, hS, hm⟩
        unfold deck_sorted_J3 at hm
        refine reg1 [] [] [3, 8, 9] [pl 3 (.slice A4 l3.length c4), pl 8 (.int .i64 ((List.replicate (Int.toNat n1) (0 : Int)).length : Int)), pl 9 (.int .i64 (w64 (z1 + 1)))] hF hS Fol (by kernel_rfl) (by kernel_rfl) (by kernel_rfl) ?_ (fun a w hF hS => ?_)
        · exact obs_nil
        refine then_n ?_
        rw [← hφ1] at hm
        exact ⟨(l3, (w64 (z1 + 1))), ⟨A4, c4, hF.weak [3, 8, 9] (by kernel_rfl), hS⟩, hm⟩
      · refine wp_block ?_
        refine reg [] [] [3, 4, 8, 9] [pl 3 (.slice A3 l2.length c3), pl 4 (.int .i64 z1), pl 8 (.int .i64 ((List.replicate (Int.toNat n1) (0 : Int)).length : Int)), pl 9 (.int .i64 z1)] hF hS Fol (by kernel_rfl) (by kernel_rfl) (by kernel_rfl) ?_ (fun a w hF hS => ?_)
        · exact obs_nil
        obtain ⟨hp2, hm⟩ := asrt_b hm
        refine oneR ?_
        refine at_run 4 [⟨true, [], vS (Instr.indexAt 22 (.slice A3 l2.length c3) (.int .i64 z1)), .pointer (some (sAddr A3 z1))⟩] [none, none, none, some (.pointer (some (sAddr A3 z1)))] [3, 8, 9, 14, 15] [pl 3 (.slice A3 l2.length c3), pl 8 (.int .i64 ((List.replicate (Int.toNat n1) (0 : Int)).length : Int)), pl 9 (.int .i64 z1), pl 14 (.int .i64 z1), pl 15 (.pointer (some (sAddr A3 z1)))] hF hS (by kernel_rfl) (by kernel_rfl) ?_ (fun a w hF hS => ?_)
        · exact obs_cons (ob_ixI Und22 hi3 hs3 (hS.at_ 0 rfl).rd (fun _ => hp2)) <| obs_nil
        obtain ⟨w, hrun, hS⟩ := run_setI (P := Try.prog) (t := 3) (x := z1) (hS.at_ 0 rfl) hi3 hs3 hp2
        refine at_skip hF (by kernel_rfl) hrun ?_
        have hS : Sep w0 w0.heap.size w [own 3 (.slice A3 (l2.set (Int.toNat z1) z1).length c3) (vI (l2.set (Int.toNat z1) z1))] := hS
        have hF := hF.cast (t := 3) (v := .slice A3 l2.length c3) (v' := .slice A3 (l2.set (Int.toNat z1) z1).length c3) rfl rfl (by rw [List.length_set])
        refine at_end [3, 8, 9] [pl 3 (.slice A3 (l2.set (Int.toNat z1) z1).length c3), pl 8 (.int .i64 ((List.replicate (Int.toNat n1) (0 : Int)).length : Int)), pl 9 (.int .i64 z1)] hF rfl (by kernel_rfl) (fun hF => ?_)
        refine block_n ?_
        refine then_n ?_
        exact ⟨(l2.set (Int.toNat z1) z1), A3, c3, hF.weak [3, 8, 9] (by kernel_rfl), hS, hm⟩
    · refine cond_ev (t := 10) (b := decide (z1 < ((List.replicate (Int.toNat n1) (0 : Int)).length : Int))) hF (by kernel_rfl) (fun hb => ?_) (fun hb => ?_)
      · replace hm := if_t hm hb
        refine wp_skip ?_
        refine then_n ?_
        exact ⟨hF.weak [3, 8, 9] (by kernel_rfl), hS, hm⟩
      · replace hm := if_f hm hb
        refine wp_exit ?_
        refine then_e (then_e (block_e (then_n ?_)))
        rw [← hφ1] at hm
        have hm : (deck_sorted_J1 l2).bind some = some r := hm
        exact ⟨l2, A3, c3, hF.weak [3] (by kernel_rfl), hS, hm⟩

noncomputable def deck_Order_J2 (k1 : Int) : Option (Int × Int) :=
  some (k1, 0)

noncomputable def deck_Order_K1 : Int → Option (Int × Int) :=
  fun (x : Int) => match x with | k1 => deck_Order_J2 k1

noncomputable def deck_Order_J4 (k2 : Int) (l2 : List Int) : Option (St (List Int × Int) Int) :=
  some (.next (l2, (w64 (k2 + 1))))

noncomputable def deck_Order_J3 (in1 : Bool) (l1 : List Int) (k2 : Int) : Option (St (List Int × Int) Int) :=
  (deck_riffle_m l1 in1).bind fun r4 => (deck_Order_J4 k2) r4

noncomputable def deck_Order_L1 (in1 : Bool) (r1 : (List Int)) : (List Int × Int) → Option (St (List Int × Int) Int) :=
  fun (x : (List Int × Int)) => match x with | (l1, k2) => (slices_Equal_m l1 r1).bind fun r3 => if (!r3) then ((deck_Order_J3 in1 l1 k2)) else (some (.done k2))

noncomputable def deck_Order_J1 (n1 : Int) (in1 : Bool) : Option (Int × Int) :=
  (deck_sorted_m n1).bind fun r1 => (deck_riffle_m r1 in1).bind fun r2 => (loop (deck_Order_L1 in1 r1) (r2, 1)).bind deck_Order_K1

noncomputable def deck_Order_m (n1 : Int) (in1 : Bool) : Option (Int × Int) :=
  if (((decide (n1 < 0)) || (decide ((104 : Int) < n1))) || ((bAnd n1 1) == 1)) then (some (0, 2)) else ((deck_Order_J1 n1 in1))

set_option maxRecDepth 100000 in
set_option maxHeartbeats 4000000 in
theorem deck_Order_w {n1 : Int} {in1 : Bool} {r : (Int × Int)} {w0 : World} (hm : deck_Order_m n1 in1 = some r) :
    Calls Try.prog 25 #[.int .i64 n1, .bool in1] w0 fun e w' => e = .returned (.tuple #[.int .i64 r.1, .int .i64 r.2]) ∧ Sep w0 w0.heap.size w' [] := by
  unfold deck_Order_m at hm
  replace hm := start_b hm
  refine enterS (l := [.int .i64 n1, .bool in1]) (n := 35) Try.func25 rfl rfl (by simp) (fun a w hF hS => ?_)
  refine reg [] [] [0, 1] [pl 0 (.int .i64 n1), pl 1 (.bool in1)] hF hS Fol (by kernel_rfl) (by kernel_rfl) (by kernel_rfl) ?_ (fun a w hF hS => ?_)
  · exact obs_nil
  refine seq_cut (fun a w => Fr 35 [pl 0 (.int .i64 n1), pl 1 (.bool in1)] a ∧ Sep w0 w0.heap.size w [] ∧ ((deck_Order_J1 n1 in1)).bind some = some r) ?_ ?_
  · rintro a w ⟨hF, hS, hm⟩
    unfold deck_Order_J1 at hm
    obtain ⟨r1, hr1, hm⟩ := call_b hm
    refine seqR ?_
    refine at_run 1 [] [] [1, 20] [pl 1 (.bool in1), pl 20 (.int .i64 n1)] hF hS (by kernel_rfl) (by kernel_rfl) ?_ (fun a w hF hS => ?_)
    · exact obs_nil
    refine at_call (f := 61) (args := #[.int .i64 n1]) (d := 21) hF (by kernel_rfl) (by kernel_rfl) Try.func61 (by kernel_rfl) rfl (deck_sorted_w hr1 ) (fun v a w hR hF => ?_)
    obtain ⟨A1, c1, rfl, hS'⟩ := hR
    have hS : Sep w0 w0.heap.size w [own 3 (.slice A1 r1.length c1) (vI r1)] := hS.merge hS'
    refine at_run 1 [] [] [1, 6] [pl 1 (.bool in1), pl 6 (.slice A1 r1.length c1)] hF hS (by kernel_rfl) (by kernel_rfl) ?_ (fun a w hF hS => ?_)
    · exact obs_nil
    refine at_end [1, 6] [pl 1 (.bool in1), pl 6 (.slice A1 r1.length c1)] hF rfl (by kernel_rfl) (fun hF => ?_)
    refine then_n ?_
    obtain ⟨r2, hr2, hm⟩ := call_b hm
    refine seqR ?_
    refine at_run 2 [] [] [1, 6, 22, 23] [pl 1 (.bool in1), pl 6 (.slice A1 r1.length c1), pl 22 (.slice A1 r1.length c1), pl 23 (.bool in1)] hF hS (by kernel_rfl) (by kernel_rfl) ?_ (fun a w hF hS => ?_)
    · exact obs_nil
    refine at_call (f := 62) (args := #[.slice A1 r1.length c1, .bool in1]) (d := 24) hF (by kernel_rfl) (by kernel_rfl) Try.func62 (by kernel_rfl) rfl (deck_riffle_w hr2 (hS.at_ 0 rfl).rd (hS.at_ 0 rfl).cap) (fun v a w hR hF => ?_)
    obtain ⟨A2, c2, rfl, hS'⟩ := hR
    have hS : Sep w0 w0.heap.size w [own 3 (.slice A2 r2.length c2) (vI r2), own 3 (.slice A1 r1.length c1) (vI r1)] := hS.merge hS'
    refine at_run 1 [] [] [1, 6, 7] [pl 1 (.bool in1), pl 6 (.slice A1 r1.length c1), pl 7 (.slice A2 r2.length c2)] hF hS (by kernel_rfl) (by kernel_rfl) ?_ (fun a w hF hS => ?_)
    · exact obs_nil
    refine at_end [1, 6, 7] [pl 1 (.bool in1), pl 6 (.slice A1 r1.length c1), pl 7 (.slice A2 r2.length c2)] hF rfl (by kernel_rfl) (fun hF => ?_)
    refine then_n ?_
    refine reg [] [] [1, 6, 7, 8] [pl 1 (.bool in1), pl 6 (.slice A1 r1.length c1), pl 7 (.slice A2 r2.length c2), pl 8 (.int .i64 1)] hF hS Fol (by kernel_rfl) (by kernel_rfl) (by kernel_rfl) ?_ (fun a w hF hS => ?_)
    · exact obs_nil
    refine seq_cut (fun a w => ∃ (k1 : Int), Fr 35 [pl 8 (.int .i64 k1)] a ∧ Sep w0 w0.heap.size w [] ∧ (deck_Order_J2 k1).bind some = some r) ?_ ?_
    · rintro a w ⟨k1, hF, hS, hm⟩
      unfold deck_Order_J2 at hm
      refine reg [] [] [4, 5] [pl 4 (.int .i64 k1), pl 5 (.int .i64 0)] hF hS Fol (by kernel_rfl) (by kernel_rfl) (by kernel_rfl) ?_ (fun a w hF hS => ?_)
      · exact obs_nil
      refine wp_ret ?_
      have hm : some (k1, 0) = some r := hm
      obtain rfl := Option.some.inj hm
      exact ret2 (t := 4) (u := 5) (v := .int .i64 k1) (v' := .int .i64 0) hF rfl (by kernel_rfl) (by kernel_rfl) ⟨rfl, hS⟩
    · refine wp_block ?_
      refine wp_loop_model (S := (List Int × Int)) (R := Int) (deck_Order_L1 in1 r1) (fun x => (deck_Order_K1 x).bind some) r (fun (x : (List Int × Int)) a w => ∃ (A3 : Option Addr) (c3 : Nat), Fr 35 [pl 1 (.bool in1), pl 6 (.slice A1 r1.length c1), pl 7 (.slice A3 x.1.length c3), pl 8 (.int .i64 x.2)] a ∧ Sep w0 w0.heap.size w [own 3 (.slice A3 x.1.length c3) (vI x.1), own 3 (.slice A1 r1.length c1) (vI r1)]) (assoc_b hm) ⟨A2, c2, hF.weak [1, 6, 7, 8] (by kernel_rfl), hS⟩ ?_
      clear hF hS hm
      rintro nn1 ⟨l1, k2⟩ a w ⟨A3, c3, hF, hS⟩ hm
      generalize hφ1 : stK (deck_Order_L1 in1 r1) nn1 (fun x => (deck_Order_K1 x).bind some) = φ1 at hm
      unfold deck_Order_L1 at hm
      dsimp only at hF hS hm
      refine seq_cut (fun a w => Fr 35 [pl 1 (.bool in1), pl 6 (.slice A1 r1.length c1), pl 7 (.slice A3 l1.length c3), pl 8 (.int .i64 k2)] a ∧ Sep w0 w0.heap.size w [own 3 (.slice A3 l1.length c3) (vI l1), own 3 (.slice A1 r1.length c1) (vI r1)] ∧ ((deck_Order_J3 in1 l1 k2)).bind φ1 = some r) ?_ ?_
      · rintro a w ⟨hF, hS, hm⟩
        unfold deck_Order_J3 at hm
        refine seq_cut (fun a w => ∃ (l2 : List Int) (A4 : Option Addr) (c4 : Nat), Fr 35 [pl 1 (.bool in1), pl 6 (.slice A1 r1.length c1), pl 7 (.slice A4 l2.length c4), pl 8 (.int .i64 k2)] a ∧ Sep w0 w0.heap.size w [own 3 (.slice A4 l2.length c4) (vI l2), own 3 (.slice A1 r1.length c1) (vI r1)] ∧ ((deck_Order_J4 k2) l2).bind φ1 = some r) ?_ ?_
        · rintro a w ⟨l2, A4, c4, hF, hS, hm⟩
          unfold deck_Order_J4 at hm
          refine reg1 [] [] [1, 6, 7, 8] [pl 1 (.bool in1), pl 6 (.slice A1 r1.length c1), pl 7 (.slice A4 l2.length c4), pl 8 (.int .i64 (w64 (k2 + 1)))] hF hS Fol (by kernel_rfl) (by kernel_rfl) (by kernel_rfl) ?_ (fun a w hF hS => ?_)
          · exact obs_nil
          refine then_n ?_
          rw [← hφ1] at hm
          exact ⟨(l2, (w64 (k2 + 1))), ⟨A4, c4, hF.weak [1, 6, 7, 8] (by kernel_rfl), hS⟩, hm⟩
        · refine wp_block ?_
          obtain ⟨r4, hr4, hm⟩ := call_b hm
          refine oneR ?_
          refine at_run 2 [] [] [1, 6, 8, 31, 32] [pl 1 (.bool in1), pl 6 (.slice A1 r1.length c1), pl 8 (.int .i64 k2), pl 31 (.slice A3 l1.length c3), pl 32 (.bool in1)] hF hS (by kernel_rfl) (by kernel_rfl) ?_ (fun a w hF hS => ?_)
          · exact obs_nil
          refine at_call (f := 62) (args := #[.slice A3 l1.length c3, .bool in1]) (d := 33) hF (by kernel_rfl) (by kernel_rfl) Try.func62 (by kernel_rfl) rfl (deck_riffle_w hr4 (hS.at_ 0 rfl).rd (hS.at_ 0 rfl).cap) (fun v a w hR hF => ?_)
          obtain ⟨A5, c5, rfl, hS'⟩ := hR
          have hS : Sep w0 w0.heap.size w [own 3 (.slice A5 r4.length c5) (vI r4), own 3 (.slice A3 l1.length c3) (vI l1), own 3 (.slice A1 r1.length c1) (vI r1)] := hS.merge hS'
          refine at_run 1 [] [] [1, 6, 7, 8] [pl 1 (.bool in1), pl 6 (.slice A1 r1.length c1), pl 7 (.slice A5 r4.length c5), pl 8 (.int .i64 k2)] hF hS (by kernel_rfl) (by kernel_rfl) ?_ (fun a w hF hS => ?_)
          · exact obs_nil
          refine at_end [1, 6, 7, 8] [pl 1 (.bool in1), pl 6 (.slice A1 r1.length c1), pl 7 (.slice A5 r4.length c5), pl 8 (.int .i64 k2)] hF rfl (by kernel_rfl) (fun hF => ?_)
          refine block_n ?_
          refine then_n ?_
          have hS := hS.pick [0, 2] (by decide)
          exact ⟨r4, A5, c5, hF.weak [1, 6, 7, 8] (by kernel_rfl), hS, hm⟩
      · obtain ⟨r3, hr3, hm⟩ := call_b hm
        refine reg [⟨false, [], callFunc 63 #[.slice A3 l1.length c3, .slice A1 r1.length c1], .bool r3⟩] [none, none, some (.bool r3), none] [1, 6, 7, 8, 28] [pl 1 (.bool in1), pl 6 (.slice A1 r1.length c1), pl 7 (.slice A3 l1.length c3), pl 8 (.int .i64 k2), pl 28 (.bool (!r3))] hF hS Fol (by kernel_rfl) (by kernel_rfl) (by kernel_rfl) ?_ (fun a w hF hS => ?_)
        · exact obs_cons (ob_call Try.func63 (by kernel_rfl) rfl (fun _ _ hS => quiet_of hS (slices_Equal_w hr3 (hS.at_ 0 rfl).rd (hS.at_ 0 rfl).cap (hS.at_ 1 rfl).rd (hS.at_ 1 rfl).cap))) <| obs_nil
        refine cond_ev (t := 28) (b := !r3) hF (by kernel_rfl) (fun hb => ?_) (fun hb => ?_)
        · replace hm := if_t hm hb
          refine wp_skip ?_
          refine then_n ?_
          exact ⟨hF.weak [1, 6, 7, 8] (by kernel_rfl), hS, hm⟩
        · replace hm := if_f hm hb
          refine wp_exit ?_
          refine then_e (then_e (block_e (then_n ?_)))
          have hS := hS.pick [] (by decide)
          rw [← hφ1] at hm
          have hm : (deck_Order_J2 k2).bind some = some r := hm
          exact ⟨k2, hF.weak [8] (by kernel_rfl), hS, hm⟩
  · refine reg [] [] [0, 1, 19] [pl 0 (.int .i64 n1), pl 1 (.bool in1), pl 19 (.bool (((decide (n1 < 0)) || (decide ((104 : Int) < n1))) || ((bAnd n1 1) == 1)))] hF hS Fol (by kernel_rfl) (by kernel_rfl) (by kernel_rfl) ?_ (fun a w hF hS => ?_)
    · exact obs_nil
    refine cond_ev (t := 19) (b := ((decide (n1 < 0)) || (decide ((104 : Int) < n1))) || ((bAnd n1 1) == 1)) hF (by kernel_rfl) (fun hb => ?_) (fun hb => ?_)
    · replace hm := if_t hm hb
      refine reg [] [] [4, 5] [pl 4 (.int .i64 0), pl 5 (.int .i64 2)] hF hS Fol (by kernel_rfl) (by kernel_rfl) (by kernel_rfl) ?_ (fun a w hF hS => ?_)
      · exact obs_nil
      refine wp_ret ?_
      refine then_r ?_
      have hm : some (0, 2) = some r := hm
      obtain rfl := Option.some.inj hm
      exact ret2 (t := 4) (u := 5) (v := .int .i64 0) (v' := .int .i64 2) hF rfl (by kernel_rfl) (by kernel_rfl) ⟨rfl, hS⟩
    · replace hm := if_f hm hb
      refine wp_skip ?_
      refine then_n ?_
      exact ⟨hF.weak [0, 1] (by kernel_rfl), hS, hm⟩

noncomputable def gameroomref_RiffleOf_J1 (out1 : List Int) : Option (List Int) :=
  some out1

noncomputable def gameroomref_RiffleOf_K1 : (List Int) → Option (List Int) :=
  fun (x : (List Int)) => match x with | out1 => gameroomref_RiffleOf_J1 out1

noncomputable def gameroomref_RiffleOf_J3 (i1 : Int) (out3 : List Int) : Option (St (List Int × Int) (List Int)) :=
  some (.next (out3, (w64 (i1 + 1))))

noncomputable def gameroomref_RiffleOf_J5 (l1 : List Int) (out2 : List Int) (i1 : Int) (to2 : Int) : Option (St (List Int × Int) (List Int)) :=
  asrt (0 ≤ i1 ∧ i1 < (l1.length : Int)) <| asrt (0 ≤ to2 ∧ to2 < (out2.length : Int)) <| (gameroomref_RiffleOf_J3 i1) (out2.set (Int.toNat to2) (geti l1 i1))

noncomputable def gameroomref_RiffleOf_J4 (l1 : List Int) (in1 : Bool) (out2 : List Int) (i1 : Int) (to1 : Int) : Option (St (List Int × Int) (List Int)) :=
  if in1 then ((gameroomref_RiffleOf_J5 l1 out2 i1) (bXor to1 1)) else ((gameroomref_RiffleOf_J5 l1 out2 i1) to1)

noncomputable def gameroomref_RiffleOf_J2 (l1 : List Int) (in1 : Bool) (out2 : List Int) (i1 : Int) : Option (St (List Int × Int) (List Int)) :=
  if (decide ((w64 (Int.tdiv (l1.length : Int) 2)) ≤ i1)) then ((gameroomref_RiffleOf_J4 l1 in1 out2 i1) (w64 ((w64 (2 * (w64 (i1 - (w64 (Int.tdiv (l1.length : Int) 2)))))) + 1))) else ((gameroomref_RiffleOf_J4 l1 in1 out2 i1) (w64 (2 * i1)))

noncomputable def gameroomref_RiffleOf_L1 (l1 : List Int) (in1 : Bool) : (List Int × Int) → Option (St (List Int × Int) (List Int)) :=
  fun (x : (List Int × Int)) => match x with | (out2, i1) => if (decide (i1 < (l1.length : Int))) then ((gameroomref_RiffleOf_J2 l1 in1 out2 i1)) else (some (.done out2))

noncomputable def gameroomref_RiffleOf_m (l1 : List Int) (in1 : Bool) : Option (List Int) :=
  asrt (0 ≤ (l1.length : Int) ∧ (l1.length : Int) ≤ bigN) <| (loop (gameroomref_RiffleOf_L1 l1 in1) ((List.replicate (Int.toNat (l1.length : Int)) (0 : Int)), 0)).bind gameroomref_RiffleOf_K1

def gameroomref_RiffleOf_post (r : (List Int)) (v : Value) (w0 w' : World) : Prop := ∃ (A0 : Option Addr) (c0 : Nat), v = .slice A0 r.length c0 ∧ Sep w0 w0.heap.size w' [own 3 (.slice A0 r.length c0) (vI r)]

set_option maxRecDepth 100000 in
set_option maxHeartbeats 4000000 in
theorem gameroomref_RiffleOf_w {A1 : Option Addr} {c1 : Nat} {l1 : List Int} {in1 : Bool} {r : (List Int)} {w0 : World} (hm : gameroomref_RiffleOf_m l1 in1 = some r) (hr_l1 : Rd w0 w0.heap.size A1 (vI l1)) (_hc_l1 : l1.length ≤ c1) :
    Calls Try.prog 34 #[.slice A1 l1.length c1, .bool in1] w0 fun e w' => ∃ v, e = .returned v ∧ gameroomref_RiffleOf_post r v w0 w' := by
  obtain ⟨i3, hi3, hz3, hs3, hb3⟩ := info_parts Info3
  unfold gameroomref_RiffleOf_m at hm
  replace hm := start_b hm
  refine enterS (l := [.slice A1 l1.length c1, .bool in1]) (n := 41) Try.func34 rfl rfl (by simp) (fun a w hF hS => ?_)
  refine reg [] [] [0, 1] [pl 0 (.slice A1 l1.length c1), pl 1 (.bool in1)] hF hS Fol (by kernel_rfl) (by kernel_rfl) (by kernel_rfl) ?_ (fun a w hF hS => ?_)
  · exact obs_nil
  refine reg [] [] [0, 1, 5] [pl 0 (.slice A1 l1.length c1), pl 1 (.bool in1), pl 5 (.int .i64 (l1.length : Int))] hF hS Fol (by kernel_rfl) (by kernel_rfl) (by kernel_rfl) ?_ (fun a w hF hS => ?_)
  · exact obs_nil
  obtain ⟨hp1, hm⟩ := asrt_b hm
  refine seqR ?_
  refine at_run 1 [] [] [0, 1, 5, 11] [pl 0 (.slice A1 l1.length c1), pl 1 (.bool in1), pl 5 (.int .i64 (l1.length : Int)), pl 11 (.int .i64 (l1.length : Int))] hF hS (by kernel_rfl) (by kernel_rfl) ?_ (fun a w hF hS => ?_)
  · exact obs_nil
  obtain ⟨A2, c2, w, hrun, hS⟩ := run_mkI (P := Try.prog) (t := 22) hS .i64 .i64 Und22 hi3 hz3 hs3 hb3 hp1
  refine at_do (d := 12) hF (by kernel_rfl) (by kernel_rfl) hrun (fun a hF => ?_)
  refine at_run 1 [] [] [0, 1, 5, 6] [pl 0 (.slice A1 l1.length c1), pl 1 (.bool in1), pl 5 (.int .i64 (l1.length : Int)), pl 6 (.slice A2 (List.replicate (Int.toNat (l1.length : Int)) (0 : Int)).length c2)] hF hS (by kernel_rfl) (by kernel_rfl) ?_ (fun a w hF hS => ?_)
  · exact obs_nil
  refine at_end [0, 1, 5, 6] [pl 0 (.slice A1 l1.length c1), pl 1 (.bool in1), pl 5 (.int .i64 (l1.length : Int)), pl 6 (.slice A2 (List.replicate (Int.toNat (l1.length : Int)) (0 : Int)).length c2)] hF rfl (by kernel_rfl) (fun hF => ?_)
  refine then_n ?_
  refine seq_cut (fun a w => ∃ (out1 : List Int) (A3 : Option Addr) (c3 : Nat), Fr 41 [pl 6 (.slice A3 out1.length c3)] a ∧ Sep w0 w0.heap.size w [own 3 (.slice A3 out1.length c3) (vI out1)] ∧ (gameroomref_RiffleOf_J1 out1).bind some = some r) ?_ ?_
  · rintro a w ⟨out1, A3, c3, hF, hS, hm⟩
    unfold gameroomref_RiffleOf_J1 at hm
    refine reg [] [] [4] [pl 4 (.slice A3 out1.length c3)] hF hS Fol (by kernel_rfl) (by kernel_rfl) (by kernel_rfl) ?_ (fun a w hF hS => ?_)
    · exact obs_nil
    refine wp_ret ?_
    have hm : some out1 = some r := hm
    obtain rfl := Option.some.inj hm
    exact ret1 (t := 4) (v := .slice A3 out1.length c3) hF rfl (by kernel_rfl) ⟨_, rfl, A3, c3, rfl, hS⟩
  · refine reg [] [] [0, 1, 5, 6, 7] [pl 0 (.slice A1 l1.length c1), pl 1 (.bool in1), pl 5 (.int .i64 (l1.length : Int)), pl 6 (.slice A2 (List.replicate (Int.toNat (l1.length : Int)) (0 : Int)).length c2), pl 7 (.int .i64 0)] hF hS Fol (by kernel_rfl) (by kernel_rfl) (by kernel_rfl) ?_ (fun a w hF hS => ?_)
    · exact obs_nil
    refine wp_block ?_
    refine wp_loop_model (S := (List Int × Int)) (R := (List Int)) (gameroomref_RiffleOf_L1 l1 in1) (fun x => (gameroomref_RiffleOf_K1 x).bind some) r (fun (x : (List Int × Int)) a w => ∃ (A4 : Option Addr) (c4 : Nat), Fr 41 [pl 0 (.slice A1 l1.length c1), pl 1 (.bool in1), pl 5 (.int .i64 (l1.length : Int)), pl 6 (.slice A4 x.1.length c4), pl 7 (.int .i64 x.2)] a ∧ Sep w0 w0.heap.size w [own 3 (.slice A4 x.1.length c4) (vI x.1)]) (assoc_b hm) ⟨A2, c2, hF.weak [0, 1, 5, 6, 7] (by kernel_rfl), hS⟩ ?_
    clear hF hS hm
    rintro nn1 ⟨out2, i1⟩ a w ⟨A4, c4, hF, hS⟩ hm
    generalize hφ1 : stK (gameroomref_RiffleOf_L1 l1 in1) nn1 (fun x => (gameroomref_RiffleOf_K1 x).bind some) = φ1 at hm
    unfold gameroomref_RiffleOf_L1 at hm
    dsimp only at hF hS hm
    refine seq_cut (fun a w => Fr 41 [pl 0 (.slice A1 l1.length c1), pl 1 (.bool in1), pl 5 (.int .i64 (l1.length : Int)), pl 6 (.slice A4 out2.length c4), pl 7 (.int .i64 i1)] a ∧ Sep w0 w0.heap.size w [own 3 (.slice A4 out2.length c4) (vI out2)] ∧ ((gameroomref_RiffleOf_J2 l1 in1 out2 i1)).bind φ1 = some r) ?_ ?_
    · rintro a w ⟨hF, hS, hm⟩
      unfold gameroomref_RiffleOf_J2 at hm
      refine seq_cut (fun a w => ∃ (out3 : List Int) (A5 : Option Addr) (c5 : Nat), Fr 41 [pl 0 (.slice A1 l1.length c1), pl 1 (.bool in1), pl 5 (.int .i64 (l1.length : Int)), pl 6 (.slice A5 out3.length c5), pl 7 (.int .i64 i1)] a ∧ Sep w0 w0.heap.size w [own 3 (.slice A5 out3.length c5) (vI out3)] ∧ ((gameroomref_RiffleOf_J3 i1) out3).bind φ1 = some r) ?_ ?_
      · rintro a w ⟨out3, A5, c5, hF, hS, hm⟩
        unfold gameroomref_RiffleOf_J3 at hm
        refine reg1 [] [] [0, 1, 5, 6, 7] [pl 0 (.slice A1 l1.length c1), pl 1 (.bool in1), pl 5 (.int .i64 (l1.length : Int)), pl 6 (.slice A5 out3.length c5), pl 7 (.int .i64 (w64 (i1 + 1)))] hF hS Fol (by kernel_rfl) (by kernel_rfl) (by kernel_rfl) ?_ (fun a w hF hS => ?_)
        · exact obs_nil
        refine then_n ?_
        rw [← hφ1] at hm
        exact ⟨(out3, (w64 (i1 + 1))), ⟨A5, c5, hF.weak [0, 1, 5, 6, 7] (by kernel_rfl), hS⟩, hm⟩
      · refine wp_block ?_
        refine reg [] [] [0, 1, 5, 6, 7, 8] [pl 0 (.slice A1 l1.length c1), pl 1 (.bool in1), pl 5 (.int .i64 (l1.length : Int)), pl 6 (.slice A4 out2.length c4), pl 7 (.int .i64 i1), pl 8 (.int .i64 (w64 (2 * i1)))] hF hS Fol (by kernel_rfl) (by kernel_rfl) (by kernel_rfl) ?_ (fun a w hF hS => ?_)
        · exact obs_nil
        refine seq_cut (fun a w => ∃ (to1 : Int), Fr 41 [pl 0 (.slice A1 l1.length c1), pl 1 (.bool in1), pl 5 (.int .i64 (l1.length : Int)), pl 6 (.slice A4 out2.length c4), pl 7 (.int .i64 i1), pl 8 (.int .i64 to1)] a ∧ Sep w0 w0.heap.size w [own 3 (.slice A4 out2.length c4) (vI out2)] ∧ ((gameroomref_RiffleOf_J4 l1 in1 out2 i1) to1).bind φ1 = some r) ?_ ?_
        · rintro a w ⟨to1, hF, hS, hm⟩
          unfold gameroomref_RiffleOf_J4 at hm
          refine seq_cut (fun a w => ∃ (to2 : Int), Fr 41 [pl 0 (.slice A1 l1.length c1), pl 1 (.bool in1), pl 5 (.int .i64 (l1.length : Int)), pl 6 (.slice A4 out2.length c4), pl 7 (.int .i64 i1), pl 8 (.int .i64 to2)] a ∧ Sep w0 w0.heap.size w [own 3 (.slice A4 out2.length c4) (vI out2)] ∧ ((gameroomref_RiffleOf_J5 l1 out2 i1) to2).bind φ1 = some r) ?_ ?_
          · rintro a w ⟨to2, hF, hS, hm⟩
            unfold gameroomref_RiffleOf_J5 at hm
            obtain ⟨hp2, hm⟩ := asrt_b hm
            obtain ⟨hp3, hm⟩ := asrt_b hm
            refine oneR ?_
            refine at_run 7 [⟨true, [], vS (Instr.indexAt 22 (.slice A1 l1.length c1) (.int .i64 i1)), .pointer (some (sAddr A1 i1))⟩, ⟨false, [], vS (Instr.loadAt 3 (.pointer (some (sAddr A1 i1)))), .int .i64 (geti l1 i1)⟩, ⟨true, [], vS (Instr.indexAt 22 (.slice A4 out2.length c4) (.int .i64 to2)), .pointer (some (sAddr A4 to2))⟩] [none, none, none, none, some (.pointer (some (sAddr A1 i1))), some (.int .i64 (geti l1 i1)), some (.pointer (some (sAddr A4 to2)))] [0, 1, 5, 6, 7, 38, 39] [pl 0 (.slice A1 l1.length c1), pl 1 (.bool in1), pl 5 (.int .i64 (l1.length : Int)), pl 6 (.slice A4 out2.length c4), pl 7 (.int .i64 i1), pl 38 (.int .i64 (geti l1 i1)), pl 39 (.pointer (some (sAddr A4 to2)))] hF hS (by kernel_rfl) (by kernel_rfl) ?_ (fun a w hF hS => ?_)
            · exact obs_cons (ob_ixI Und22 hi3 hs3 (hr_l1.sep hS) (fun _ => hp2)) <| obs_cons (ob_geti Agg3 (fun _ hS => ⟨_, (hr_l1.sep hS)⟩) (fun _ => hp2)) <| obs_cons (ob_ixI Und22 hi3 hs3 (hS.at_ 0 rfl).rd (fun _ => hp3)) <| obs_nil
            obtain ⟨w, hrun, hS⟩ := run_setI (P := Try.prog) (t := 3) (x := geti l1 i1) (hS.at_ 0 rfl) hi3 hs3 hp3
            refine at_skip hF (by kernel_rfl) hrun ?_
            have hS : Sep w0 w0.heap.size w [own 3 (.slice A4 (out2.set (Int.toNat to2) (geti l1 i1)).length c4) (vI (out2.set (Int.toNat to2) (geti l1 i1)))] := hS
            have hF := hF.cast (t := 6) (v := .slice A4 out2.length c4) (v' := .slice A4 (out2.set (Int.toNat to2) (geti l1 i1)).length c4) rfl rfl (by rw [List.length_set])
            refine at_end [0, 1, 5, 6, 7] [pl 0 (.slice A1 l1.length c1), pl 1 (.bool in1), pl 5 (.int .i64 (l1.length : Int)), pl 6 (.slice A4 (out2.set (Int.toNat to2) (geti l1 i1)).length c4), pl 7 (.int .i64 i1)] hF rfl (by kernel_rfl) (fun hF => ?_)
            refine block_n ?_
            refine then_n ?_
            exact ⟨(out2.set (Int.toNat to2) (geti l1 i1)), A4, c4, hF.weak [0, 1, 5, 6, 7] (by kernel_rfl), hS, hm⟩
          · refine reg [] [] [0, 1, 5, 6, 7, 8, 30] [pl 0 (.slice A1 l1.length c1), pl 1 (.bool in1), pl 5 (.int .i64 (l1.length : Int)), pl 6 (.slice A4 out2.length c4), pl 7 (.int .i64 i1), pl 8 (.int .i64 to1), pl 30 (.bool in1)] hF hS Fol (by kernel_rfl) (by kernel_rfl) (by kernel_rfl) ?_ (fun a w hF hS => ?_)
            · exact obs_nil
            refine cond_ev (t := 30) (b := in1) hF (by kernel_rfl) (fun hb => ?_) (fun hb => ?_)
            · replace hm := if_t hm hb
              refine reg1 [] [] [0, 1, 5, 6, 7, 8] [pl 0 (.slice A1 l1.length c1), pl 1 (.bool in1), pl 5 (.int .i64 (l1.length : Int)), pl 6 (.slice A4 out2.length c4), pl 7 (.int .i64 i1), pl 8 (.int .i64 (bXor to1 1))] hF hS Fol (by kernel_rfl) (by kernel_rfl) (by kernel_rfl) ?_ (fun a w hF hS => ?_)
              · exact obs_nil
              refine then_n ?_
              exact ⟨(bXor to1 1), hF.weak [0, 1, 5, 6, 7, 8] (by kernel_rfl), hS, hm⟩
            · replace hm := if_f hm hb
              refine wp_skip ?_
              refine then_n ?_
              exact ⟨to1, hF.weak [0, 1, 5, 6, 7, 8] (by kernel_rfl), hS, hm⟩
        · refine reg [] [] [0, 1, 5, 6, 7, 8, 23] [pl 0 (.slice A1 l1.length c1), pl 1 (.bool in1), pl 5 (.int .i64 (l1.length : Int)), pl 6 (.slice A4 out2.length c4), pl 7 (.int .i64 i1), pl 8 (.int .i64 (w64 (2 * i1))), pl 23 (.bool (decide ((w64 (Int.tdiv (l1.length : Int) 2)) ≤ i1)))] hF hS Fol (by kernel_rfl) (by kernel_rfl) (by kernel_rfl) ?_ (fun a w hF hS => ?_)
          · exact obs_nil
          refine cond_ev (t := 23) (b := decide ((w64 (Int.tdiv (l1.length : Int) 2)) ≤ i1)) hF (by kernel_rfl) (fun hb => ?_) (fun hb => ?_)
          · replace hm := if_t hm hb
            refine reg1 [] [] [0, 1, 5, 6, 7, 8] [pl 0 (.slice A1 l1.length c1), pl 1 (.bool in1), pl 5 (.int .i64 (l1.length : Int)), pl 6 (.slice A4 out2.length c4), pl 7 (.int .i64 i1), pl 8 (.int .i64 (w64 ((w64 (2 * (w64 (i1 - (w64 (Int.tdiv (l1.length : Int) 2)))))) + 1)))] hF hS Fol (by kernel_rfl) (by kernel_rfl) (by kernel_rfl) ?_ (fun a w hF hS => ?_)
            · exact obs_nil
            refine then_n ?_
            exact ⟨(w64 ((w64 (2 * (w64 (i1 - (w64 (Int.tdiv (l1.length : Int) 2)))))) + 1)), hF.weak [0, 1, 5, 6, 7, 8] (by kernel_rfl), hS, hm⟩
          · replace hm := if_f hm hb
            refine wp_skip ?_
            refine then_n ?_
            exact ⟨(w64 (2 * i1)), hF.weak [0, 1, 5, 6, 7, 8] (by kernel_rfl), hS, hm⟩
    · refine reg [] [] [0, 1, 5, 6, 7, 15] [pl 0 (.slice A1 l1.length c1), pl 1 (.bool in1), pl 5 (.int .i64 (l1.length : Int)), pl 6 (.slice A4 out2.length c4), pl 7 (.int .i64 i1), pl 15 (.bool (decide (i1 < (l1.length : Int))))] hF hS Fol (by kernel_rfl) (by kernel_rfl) (by kernel_rfl) ?_ (fun a w hF hS => ?_)
      · exact obs_nil
      refine cond_ev (t := 15) (b := decide (i1 < (l1.length : Int))) hF (by kernel_rfl) (fun hb => ?_) (fun hb => ?_)
      · replace hm := if_t hm hb
        refine wp_skip ?_
        refine then_n ?_
        exact ⟨hF.weak [0, 1, 5, 6, 7] (by kernel_rfl), hS, hm⟩
      · replace hm := if_f hm hb
        refine wp_exit ?_
        refine then_e (then_e (block_e (then_n ?_)))
        rw [← hφ1] at hm
        have hm : (gameroomref_RiffleOf_J1 out2).bind some = some r := hm
        exact ⟨out2, A4, c4, hF.weak [6] (by kernel_rfl), hS, hm⟩

noncomputable def gameroomref_RiffleOrder_J8 (r1 : (List Int)) (k2 : Int) (x1 : Int) : Option (St (Int × Int) Int) :=
  asrt (0 ≤ x1 ∧ x1 < (r1.length : Int)) <| some (.next ((w64 (k2 + 1)), (geti r1 x1)))

noncomputable def gameroomref_RiffleOrder_L3 (r1 : (List Int)) (i2 : Int) : (Int × Int) → Option (St (Int × Int) Int) :=
  fun (x : (Int × Int)) => match x with | (k2, x1) => if (x1 != i2) then ((gameroomref_RiffleOrder_J8 r1 k2 x1)) else (some (.done k2))

noncomputable def gameroomref_RiffleOrder_J10 (all2 : Int) (m2 : Int) : Option (St Int Int) :=
  some (.next (w64 (m2 + all2)))

noncomputable def gameroomref_RiffleOrder_L4 (all2 : Int) (k1 : Int) : Int → Option (St Int Int) :=
  fun (x : Int) => match x with | m2 => asrt (k1 ≠ (0 : Int)) <| if ((Int.tmod m2 k1) != 0) then ((gameroomref_RiffleOrder_J10 all2 m2)) else (some (.done m2))

noncomputable def gameroomref_RiffleOrder_J6 (i2 : Int) (all3 : Int) : Option (St (Int × Int) Int) :=
  some (.next (all3, (w64 (i2 + 1))))

noncomputable def gameroomref_RiffleOrder_J9 (i2 : Int) (m1 : Int) : Option (St (Int × Int) Int) :=
  (gameroomref_RiffleOrder_J6 i2) m1

noncomputable def gameroomref_RiffleOrder_K4 (i2 : Int) : Int → Option (St (Int × Int) Int) :=
  fun (x : Int) => match x with | m1 => (gameroomref_RiffleOrder_J9 i2) m1

noncomputable def gameroomref_RiffleOrder_J7 (all2 : Int) (i2 : Int) (k1 : Int) : Option (St (Int × Int) Int) :=
  (loop (gameroomref_RiffleOrder_L4 all2 k1) all2).bind (gameroomref_RiffleOrder_K4 i2)

noncomputable def gameroomref_RiffleOrder_K3 (all2 : Int) (i2 : Int) : Int → Option (St (Int × Int) Int) :=
  fun (x : Int) => match x with | k1 => (gameroomref_RiffleOrder_J7 all2 i2) k1

noncomputable def gameroomref_RiffleOrder_J5 (r1 : (List Int)) (all2 : Int) (i2 : Int) : Option (St (Int × Int) Int) :=
  asrt (0 ≤ i2 ∧ i2 < (r1.length : Int)) <| (loop (gameroomref_RiffleOrder_L3 r1 i2) (1, (geti r1 i2))).bind (gameroomref_RiffleOrder_K3 all2 i2)

noncomputable def gameroomref_RiffleOrder_L2 (n1 : Int) (r1 : (List Int)) : (Int × Int) → Option (St (Int × Int) Int) :=
  fun (x : (Int × Int)) => match x with | (all2, i2) => if (decide (i2 < n1)) then ((gameroomref_RiffleOrder_J5 r1 all2 i2)) else (some (.done all2))

noncomputable def gameroomref_RiffleOrder_J4 (all1 : Int) : Option Int :=
  some all1

noncomputable def gameroomref_RiffleOrder_K2 : Int → Option Int :=
  fun (x : Int) => match x with | all1 => gameroomref_RiffleOrder_J4 all1

noncomputable def gameroomref_RiffleOrder_J1 (n1 : Int) (in1 : Bool) (l1 : List Int) : Option Int :=
  (gameroomref_RiffleOf_m l1 in1).bind fun r1 => (loop (gameroomref_RiffleOrder_L2 n1 r1) (1, 0)).bind gameroomref_RiffleOrder_K2

noncomputable def gameroomref_RiffleOrder_K1 (n1 : Int) (in1 : Bool) : (List Int) → Option Int :=
  fun (x : (List Int)) => match x with | l1 => (gameroomref_RiffleOrder_J1 n1 in1) l1

noncomputable def gameroomref_RiffleOrder_J3 (i1 : Int) (l3 : List Int) : Option (St (List Int × Int) (List Int)) :=
  some (.next (l3, (w64 (i1 + 1))))

noncomputable def gameroomref_RiffleOrder_J2 (l2 : List Int) (i1 : Int) : Option (St (List Int × Int) (List Int)) :=
  asrt (0 ≤ i1 ∧ i1 < (l2.length : Int)) <| (gameroomref_RiffleOrder_J3 i1) (l2.set (Int.toNat i1) i1)

noncomputable def gameroomref_RiffleOrder_L1 (n1 : Int) : (List Int × Int) → Option (St (List Int × Int) (List Int)) :=
  fun (x : (List Int × Int)) => match x with | (l2, i1) => if (decide (i1 < n1)) then ((gameroomref_RiffleOrder_J2 l2 i1)) else (some (.done l2))

noncomputable def gameroomref_RiffleOrder_m (n1 : Int) (in1 : Bool) : Option Int :=
  asrt (0 ≤ n1 ∧ n1 ≤ bigN) <| (loop (gameroomref_RiffleOrder_L1 n1) ((List.replicate (Int.toNat n1) (0 : Int)), 0)).bind (gameroomref_RiffleOrder_K1 n1 in1)

set_option maxRecDepth 100000 in
set_option maxHeartbeats 4000000 in
theorem gameroomref_RiffleOrder_w {n1 : Int} {in1 : Bool} {r : Int} {w0 : World} (hm : gameroomref_RiffleOrder_m n1 in1 = some r) :
    Calls Try.prog 26 #[.int .i64 n1, .bool in1] w0 fun e w' => e = .returned (.int .i64 r) ∧ Sep w0 w0.heap.size w' [] := by
  obtain ⟨i3, hi3, hz3, hs3, hb3⟩ := info_parts Info3
  unfold gameroomref_RiffleOrder_m at hm
  replace hm := start_b hm
  refine enterS (l := [.int .i64 n1, .bool in1]) (n := 55) Try.func26 rfl rfl (by simp) (fun a w hF hS => ?_)
  refine reg [] [] [0, 1] [pl 0 (.int .i64 n1), pl 1 (.bool in1)] hF hS Fol (by kernel_rfl) (by kernel_rfl) (by kernel_rfl) ?_ (fun a w hF hS => ?_)
  · exact obs_nil
  obtain ⟨hp1, hm⟩ := asrt_b hm
  refine seqR ?_
  refine at_run 1 [] [] [0, 1, 13] [pl 0 (.int .i64 n1), pl 1 (.bool in1), pl 13 (.int .i64 n1)] hF hS (by kernel_rfl) (by kernel_rfl) ?_ (fun a w hF hS => ?_)
  · exact obs_nil
  obtain ⟨A1, c1, w, hrun, hS⟩ := run_mkI (P := Try.prog) (t := 22) hS .i64 .i64 Und22 hi3 hz3 hs3 hb3 hp1
  refine at_do (d := 14) hF (by kernel_rfl) (by kernel_rfl) hrun (fun a hF => ?_)
  refine at_run 1 [] [] [0, 1, 5] [pl 0 (.int .i64 n1), pl 1 (.bool in1), pl 5 (.slice A1 (List.replicate (Int.toNat n1) (0 : Int)).length c1)] hF hS (by kernel_rfl) (by kernel_rfl) ?_ (fun a w hF hS => ?_)
  · exact obs_nil
  refine at_end [0, 1, 5] [pl 0 (.int .i64 n1), pl 1 (.bool in1), pl 5 (.slice A1 (List.replicate (Int.toNat n1) (0 : Int)).length c1)] hF rfl (by kernel_rfl) (fun hF => ?_)
  refine then_n ?_
  refine seq_cut (fun a w => ∃ (l1 : List Int) (A2 : Option Addr) (c2 : Nat), Fr 55 [pl 0 (.int .i64 n1), pl 1 (.bool in1), pl 5 (.slice A2 l1.length c2)] a ∧ Sep w0 w0.heap.size w [own 3 (.slice A2 l1.length c2) (vI l1)] ∧ ((gameroomref_RiffleOrder_J1 n1 in1) l1).bind some = some r) ?_ ?_
  · rintro a w ⟨l1, A2, c2, hF, hS, hm⟩
    unfold gameroomref_RiffleOrder_J1 at hm
    obtain ⟨r1, hr1, hm⟩ := call_b hm
    refine seqR ?_
    refine at_run 2 [] [] [0, 24, 25] [pl 0 (.int .i64 n1), pl 24 (.slice A2 l1.length c2), pl 25 (.bool in1)] hF hS (by kernel_rfl) (by kernel_rfl) ?_ (fun a w hF hS => ?_)
    · exact obs_nil
    refine at_call (f := 34) (args := #[.slice A2 l1.length c2, .bool in1]) (d := 26) hF (by kernel_rfl) (by kernel_rfl) Try.func34 (by kernel_rfl) rfl (gameroomref_RiffleOf_w hr1 (hS.at_ 0 rfl).rd (hS.at_ 0 rfl).cap) (fun v a w hR hF => ?_)
    obtain ⟨A5, c5, rfl, hS'⟩ := hR
    have hS : Sep w0 w0.heap.size w [own 3 (.slice A5 r1.length c5) (vI r1), own 3 (.slice A2 l1.length c2) (vI l1)] := hS.merge hS'
    refine at_run 1 [] [] [0, 7] [pl 0 (.int .i64 n1), pl 7 (.slice A5 r1.length c5)] hF hS (by kernel_rfl) (by kernel_rfl) ?_ (fun a w hF hS => ?_)
    · exact obs_nil
    refine at_end [0, 7] [pl 0 (.int .i64 n1), pl 7 (.slice A5 r1.length c5)] hF rfl (by kernel_rfl) (fun hF => ?_)
    refine then_n ?_
    refine reg [] [] [0, 7, 8] [pl 0 (.int .i64 n1), pl 7 (.slice A5 r1.length c5), pl 8 (.int .i64 1)] hF hS Fol (by kernel_rfl) (by kernel_rfl) (by kernel_rfl) ?_ (fun a w hF hS => ?_)
    · exact obs_nil
    refine seq_cut (fun a w => ∃ (all1 : Int), Fr 55 [pl 8 (.int .i64 all1)] a ∧ Sep w0 w0.heap.size w [] ∧ (gameroomref_RiffleOrder_J4 all1).bind some = some r) ?_ ?_
    · rintro a w ⟨all1, hF, hS, hm⟩
      unfold gameroomref_RiffleOrder_J4 at hm
      refine reg [] [] [4] [pl 4 (.int .i64 all1)] hF hS Fol (by kernel_rfl) (by kernel_rfl) (by kernel_rfl) ?_ (fun a w hF hS => ?_)
      · exact obs_nil
      refine wp_ret ?_
      have hm : some all1 = some r := hm
      obtain rfl := Option.some.inj hm
      exact ret1 (t := 4) (v := .int .i64 all1) hF rfl (by kernel_rfl) ⟨rfl, hS⟩
    · refine reg [] [] [0, 7, 8, 9] [pl 0 (.int .i64 n1), pl 7 (.slice A5 r1.length c5), pl 8 (.int .i64 1), pl 9 (.int .i64 0)] hF hS Fol (by kernel_rfl) (by kernel_rfl) (by kernel_rfl) ?_ (fun a w hF hS => ?_)
      · exact obs_nil
      refine wp_block ?_
      have hS := hS.pick [0] (by decide)
      refine wp_loop_model (S := (Int × Int)) (R := Int) (gameroomref_RiffleOrder_L2 n1 r1) (fun x => (gameroomref_RiffleOrder_K2 x).bind some) r (fun (x : (Int × Int)) a w => Fr 55 [pl 0 (.int .i64 n1), pl 7 (.slice A5 r1.length c5), pl 8 (.int .i64 x.1), pl 9 (.int .i64 x.2)] a ∧ Sep w0 w0.heap.size w [own 3 (.slice A5 r1.length c5) (vI r1)]) (assoc_b hm) ⟨hF.weak [0, 7, 8, 9] (by kernel_rfl), hS⟩ ?_
      clear hF hS hm
      rintro nn2 ⟨all2, i2⟩ a w ⟨hF, hS⟩ hm
      generalize hφ2 : stK (gameroomref_RiffleOrder_L2 n1 r1) nn2 (fun x => (gameroomref_RiffleOrder_K2 x).bind some) = φ2 at hm
      unfold gameroomref_RiffleOrder_L2 at hm
      dsimp only at hF hS hm
      refine seq_cut (fun a w => Fr 55 [pl 0 (.int .i64 n1), pl 7 (.slice A5 r1.length c5), pl 8 (.int .i64 all2), pl 9 (.int .i64 i2)] a ∧ Sep w0 w0.heap.size w [own 3 (.slice A5 r1.length c5) (vI r1)] ∧ ((gameroomref_RiffleOrder_J5 r1 all2 i2)).bind φ2 = some r) ?_ ?_
      · rintro a w ⟨hF, hS, hm⟩
        unfold gameroomref_RiffleOrder_J5 at hm
        refine seq_cut (fun a w => ∃ (all3 : Int), Fr 55 [pl 0 (.int .i64 n1), pl 7 (.slice A5 r1.length c5), pl 8 (.int .i64 all3), pl 9 (.int .i64 i2)] a ∧ Sep w0 w0.heap.size w [own 3 (.slice A5 r1.length c5) (vI r1)] ∧ ((gameroomref_RiffleOrder_J6 i2) all3).bind φ2 = some r) ?_ ?_
        · rintro a w ⟨all3, hF, hS, hm⟩
          unfold gameroomref_RiffleOrder_J6 at hm
          refine reg1 [] [] [0, 7, 8, 9] [pl 0 (.int .i64 n1), pl 7 (.slice A5 r1.length c5), pl 8 (.int .i64 all3), pl 9 (.int .i64 (w64 (i2 + 1)))] hF hS Fol (by kernel_rfl) (by kernel_rfl) (by kernel_rfl) ?_ (fun a w hF hS => ?_)
          · exact obs_nil
          refine then_n ?_
          rw [← hφ2] at hm
          exact ⟨(all3, (w64 (i2 + 1))), ⟨hF.weak [0, 7, 8, 9] (by kernel_rfl), hS⟩, hm⟩
        · refine wp_block ?_
          obtain ⟨hp3, hm⟩ := asrt_b hm
          refine reg [⟨true, [], vS (Instr.indexAt 22 (.slice A5 r1.length c5) (.int .i64 i2)), .pointer (some (sAddr A5 i2))⟩, ⟨false, [], vS (Instr.loadAt 3 (.pointer (some (sAddr A5 i2)))), .int .i64 (geti r1 i2)⟩] [none, none, some (.pointer (some (sAddr A5 i2))), some (.int .i64 (geti r1 i2)), none, none] [0, 7, 8, 9, 10, 11] [pl 0 (.int .i64 n1), pl 7 (.slice A5 r1.length c5), pl 8 (.int .i64 all2), pl 9 (.int .i64 i2), pl 10 (.int .i64 1), pl 11 (.int .i64 (geti r1 i2))] hF hS Fol (by kernel_rfl) (by kernel_rfl) (by kernel_rfl) ?_ (fun a w hF hS => ?_)
          · exact obs_cons (ob_ixI Und22 hi3 hs3 (hS.at_ 0 rfl).rd (fun _ => hp3)) <| obs_cons (ob_geti Agg3 (fun _ hS => ⟨_, (hS.at_ 0 rfl).rd⟩) (fun _ => hp3)) <| obs_nil
          refine seq_cut (fun a w => ∃ (k1 : Int), Fr 55 [pl 0 (.int .i64 n1), pl 7 (.slice A5 r1.length c5), pl 8 (.int .i64 all2), pl 9 (.int .i64 i2), pl 10 (.int .i64 k1)] a ∧ Sep w0 w0.heap.size w [own 3 (.slice A5 r1.length c5) (vI r1)] ∧ ((gameroomref_RiffleOrder_J7 all2 i2) k1).bind φ2 = some r) ?_ ?_
          · rintro a w ⟨k1, hF, hS, hm⟩
            unfold gameroomref_RiffleOrder_J7 at hm
            refine reg [] [] [0, 7, 8, 9, 10, 12] [pl 0 (.int .i64 n1), pl 7 (.slice A5 r1.length c5), pl 8 (.int .i64 all2), pl 9 (.int .i64 i2), pl 10 (.int .i64 k1), pl 12 (.int .i64 all2)] hF hS Fol (by kernel_rfl) (by kernel_rfl) (by kernel_rfl) ?_ (fun a w hF hS => ?_)
            · exact obs_nil
            refine seq_cut (fun a w => ∃ (m1 : Int), Fr 55 [pl 0 (.int .i64 n1), pl 7 (.slice A5 r1.length c5), pl 9 (.int .i64 i2), pl 12 (.int .i64 m1)] a ∧ Sep w0 w0.heap.size w [own 3 (.slice A5 r1.length c5) (vI r1)] ∧ ((gameroomref_RiffleOrder_J9 i2) m1).bind φ2 = some r) ?_ ?_
            · rintro a w ⟨m1, hF, hS, hm⟩
              unfold gameroomref_RiffleOrder_J9 at hm
              refine reg1 [] [] [0, 7, 8, 9] [pl 0 (.int .i64 n1), pl 7 (.slice A5 r1.length c5), pl 8 (.int .i64 m1), pl 9 (.int .i64 i2)] hF hS Fol (by kernel_rfl) (by kernel_rfl) (by kernel_rfl) ?_ (fun a w hF hS => ?_)
              · exact obs_nil
              refine block_n ?_
              refine then_n ?_
              exact ⟨m1, hF.weak [0, 7, 8, 9] (by kernel_rfl), hS, hm⟩
            · refine wp_block ?_
              refine wp_loop_model (S := Int) (R := Int) (gameroomref_RiffleOrder_L4 all2 k1) (fun x => ((gameroomref_RiffleOrder_K4 i2) x).bind φ2) r (fun (x : Int) a w => Fr 55 [pl 0 (.int .i64 n1), pl 7 (.slice A5 r1.length c5), pl 8 (.int .i64 all2), pl 9 (.int .i64 i2), pl 10 (.int .i64 k1), pl 12 (.int .i64 x)] a ∧ Sep w0 w0.heap.size w [own 3 (.slice A5 r1.length c5) (vI r1)]) (assoc_b hm) ⟨hF.weak [0, 7, 8, 9, 10, 12] (by kernel_rfl), hS⟩ ?_
              clear hF hS hm
              rintro nn4 m2 a w ⟨hF, hS⟩ hm
              generalize hφ4 : stK (gameroomref_RiffleOrder_L4 all2 k1) nn4 (fun x => ((gameroomref_RiffleOrder_K4 i2) x).bind φ2) = φ4 at hm
              unfold gameroomref_RiffleOrder_L4 at hm
              dsimp only at hm
              refine seq_cut (fun a w => Fr 55 [pl 0 (.int .i64 n1), pl 7 (.slice A5 r1.length c5), pl 8 (.int .i64 all2), pl 9 (.int .i64 i2), pl 10 (.int .i64 k1), pl 12 (.int .i64 m2)] a ∧ Sep w0 w0.heap.size w [own 3 (.slice A5 r1.length c5) (vI r1)] ∧ ((gameroomref_RiffleOrder_J10 all2 m2)).bind φ4 = some r) ?_ ?_
              · rintro a w ⟨hF, hS, hm⟩
                unfold gameroomref_RiffleOrder_J10 at hm
                refine wp_block ?_
                refine reg1 [] [] [0, 7, 8, 9, 10, 12] [pl 0 (.int .i64 n1), pl 7 (.slice A5 r1.length c5), pl 8 (.int .i64 all2), pl 9 (.int .i64 i2), pl 10 (.int .i64 k1), pl 12 (.int .i64 (w64 (m2 + all2)))] hF hS Fol (by kernel_rfl) (by kernel_rfl) (by kernel_rfl) ?_ (fun a w hF hS => ?_)
                · exact obs_nil
                refine block_n ?_
                refine then_n ?_
                rw [← hφ4] at hm
                exact ⟨(w64 (m2 + all2)), ⟨hF.weak [0, 7, 8, 9, 10, 12] (by kernel_rfl), hS⟩, hm⟩
              · obtain ⟨hp5, hm⟩ := asrt_b hm
                refine reg [⟨true, [], vS (Op.intDiv .rem .i64 m2 k1), .int .i64 (Int.tmod m2 k1)⟩] [none, none, some (.int .i64 (Int.tmod m2 k1)), none] [0, 7, 8, 9, 10, 12, 49] [pl 0 (.int .i64 n1), pl 7 (.slice A5 r1.length c5), pl 8 (.int .i64 all2), pl 9 (.int .i64 i2), pl 10 (.int .i64 k1), pl 12 (.int .i64 m2), pl 49 (.bool ((Int.tmod m2 k1) != 0))] hF hS Fol (by kernel_rfl) (by kernel_rfl) (by kernel_rfl) ?_ (fun a w hF hS => ?_)
                · exact obs_cons (ob_rem rfl (fun _ => hp5)) <| obs_nil
                refine cond_ev (t := 49) (b := ((Int.tmod m2 k1) != 0)) hF (by kernel_rfl) (fun hb => ?_) (fun hb => ?_)
                · replace hm := if_t hm hb
                  refine wp_skip ?_
                  refine then_n ?_
                  exact ⟨hF.weak [0, 7, 8, 9, 10, 12] (by kernel_rfl), hS, hm⟩
                · replace hm := if_f hm hb
                  refine wp_exit ?_
                  refine then_e (then_e (block_e (then_n ?_)))
                  rw [← hφ4] at hm
                  have hm : ((gameroomref_RiffleOrder_J9 i2) m2).bind φ2 = some r := hm
                  exact ⟨m2, hF.weak [0, 7, 9, 12] (by kernel_rfl), hS, hm⟩
          · refine wp_block ?_
            refine wp_loop_model (S := (Int × Int)) (R := Int) (gameroomref_RiffleOrder_L3 r1 i2) (fun x => ((gameroomref_RiffleOrder_K3 all2 i2) x).bind φ2) r (fun (x : (Int × Int)) a w => Fr 55 [pl 0 (.int .i64 n1), pl 7 (.slice A5 r1.length c5), pl 8 (.int .i64 all2), pl 9 (.int .i64 i2), pl 10 (.int .i64 x.1), pl 11 (.int .i64 x.2)] a ∧ Sep w0 w0.heap.size w [own 3 (.slice A5 r1.length c5) (vI r1)]) (assoc_b hm) ⟨hF.weak [0, 7, 8, 9, 10, 11] (by kernel_rfl), hS⟩ ?_
            clear hF hS hm
            rintro nn3 ⟨k2, x1⟩ a w ⟨hF, hS⟩ hm
            generalize hφ3 : stK (gameroomref_RiffleOrder_L3 r1 i2) nn3 (fun x => ((gameroomref_RiffleOrder_K3 all2 i2) x).bind φ2) = φ3 at hm
            unfold gameroomref_RiffleOrder_L3 at hm
            dsimp only at hF hS hm
            refine seq_cut (fun a w => Fr 55 [pl 0 (.int .i64 n1), pl 7 (.slice A5 r1.length c5), pl 8 (.int .i64 all2), pl 9 (.int .i64 i2), pl 10 (.int .i64 k2), pl 11 (.int .i64 x1)] a ∧ Sep w0 w0.heap.size w [own 3 (.slice A5 r1.length c5) (vI r1)] ∧ ((gameroomref_RiffleOrder_J8 r1 k2 x1)).bind φ3 = some r) ?_ ?_
            · rintro a w ⟨hF, hS, hm⟩
              unfold gameroomref_RiffleOrder_J8 at hm
              refine wp_block ?_
              obtain ⟨hp4, hm⟩ := asrt_b hm
              refine reg [⟨true, [], vS (Instr.indexAt 22 (.slice A5 r1.length c5) (.int .i64 x1)), .pointer (some (sAddr A5 x1))⟩, ⟨false, [], vS (Instr.loadAt 3 (.pointer (some (sAddr A5 x1)))), .int .i64 (geti r1 x1)⟩] [none, none, some (.pointer (some (sAddr A5 x1))), some (.int .i64 (geti r1 x1)), none] [0, 7, 8, 9, 10, 11] [pl 0 (.int .i64 n1), pl 7 (.slice A5 r1.length c5), pl 8 (.int .i64 all2), pl 9 (.int .i64 i2), pl 10 (.int .i64 k2), pl 11 (.int .i64 (geti r1 x1))] hF hS Fol (by kernel_rfl) (by kernel_rfl) (by kernel_rfl) ?_ (fun a w hF hS => ?_)
              · exact obs_cons (ob_ixI Und22 hi3 hs3 (hS.at_ 0 rfl).rd (fun _ => hp4)) <| obs_cons (ob_geti Agg3 (fun _ hS => ⟨_, (hS.at_ 0 rfl).rd⟩) (fun _ => hp4)) <| obs_nil
              refine reg1 [] [] [0, 7, 8, 9, 10, 11] [pl 0 (.int .i64 n1), pl 7 (.slice A5 r1.length c5), pl 8 (.int .i64 all2), pl 9 (.int .i64 i2), pl 10 (.int .i64 (w64 (k2 + 1))), pl 11 (.int .i64 (geti r1 x1))] hF hS Fol (by kernel_rfl) (by kernel_rfl) (by kernel_rfl) ?_ (fun a w hF hS => ?_)
              · exact obs_nil
              refine block_n ?_
              refine then_n ?_
              rw [← hφ3] at hm
              exact ⟨((w64 (k2 + 1)), (geti r1 x1)), ⟨hF.weak [0, 7, 8, 9, 10, 11] (by kernel_rfl), hS⟩, hm⟩
            · refine reg [] [] [0, 7, 8, 9, 10, 11, 38] [pl 0 (.int .i64 n1), pl 7 (.slice A5 r1.length c5), pl 8 (.int .i64 all2), pl 9 (.int .i64 i2), pl 10 (.int .i64 k2), pl 11 (.int .i64 x1), pl 38 (.bool (x1 != i2))] hF hS Fol (by kernel_rfl) (by kernel_rfl) (by kernel_rfl) ?_ (fun a w hF hS => ?_)
              · exact obs_nil
              refine cond_ev (t := 38) (b := (x1 != i2)) hF (by kernel_rfl) (fun hb => ?_) (fun hb => ?_)
              · replace hm := if_t hm hb
                refine wp_skip ?_
                refine then_n ?_
                exact ⟨hF.weak [0, 7, 8, 9, 10, 11] (by kernel_rfl), hS, hm⟩
              · replace hm := if_f hm hb
                refine wp_exit ?_
                refine then_e (then_e (block_e (then_n ?_)))
                rw [← hφ3] at hm
                have hm : ((gameroomref_RiffleOrder_J7 all2 i2) k2).bind φ2 = some r := hm
                exact ⟨k2, hF.weak [0, 7, 8, 9, 10] (by kernel_rfl), hS, hm⟩
      · refine reg [] [] [0, 7, 8, 9, 29] [pl 0 (.int .i64 n1), pl 7 (.slice A5 r1.length c5), pl 8 (.int .i64 all2), pl 9 (.int .i64 i2), pl 29 (.bool (decide (i2 < n1)))] hF hS Fol (by kernel_rfl) (by kernel_rfl) (by kernel_rfl) ?_ (fun a w hF hS => ?_)
        · exact obs_nil
        refine cond_ev (t := 29) (b := decide (i2 < n1)) hF (by kernel_rfl) (fun hb => ?_) (fun hb => ?_)
        · replace hm := if_t hm hb
          refine wp_skip ?_
          refine then_n ?_
          exact ⟨hF.weak [0, 7, 8, 9] (by kernel_rfl), hS, hm⟩
        · replace hm := if_f hm hb
          refine wp_exit ?_
          refine then_e (then_e (block_e (then_n ?_)))
          have hS := hS.pick [] (by decide)
          rw [← hφ2] at hm
          have hm : (gameroomref_RiffleOrder_J4 all2).bind some = some r := hm
          exact ⟨all2, hF.weak [8] (by kernel_rfl), hS, hm⟩
  · refine reg [] [] [0, 1, 5, 6] [pl 0 (.int .i64 n1), pl 1 (.bool in1), pl 5 (.slice A1 (List.replicate (Int.toNat n1) (0 : Int)).length c1), pl 6 (.int .i64 0)] hF hS Fol (by kernel_rfl) (by kernel_rfl) (by kernel_rfl) ?_ (fun a w hF hS => ?_)
    · exact obs_nil
    refine wp_block ?_
    refine wp_loop_model (S := (List Int × Int)) (R := (List Int)) (gameroomref_RiffleOrder_L1 n1) (fun x => ((gameroomref_RiffleOrder_K1 n1 in1) x).bind some) r (fun (x : (List Int × Int)) a w => ∃ (A3 : Option Addr) (c3 : Nat), Fr 55 [pl 0 (.int .i64 n1), pl 1 (.bool in1), pl 5 (.slice A3 x.1.length c3), pl 6 (.int .i64 x.2)] a ∧ Sep w0 w0.heap.size w [own 3 (.slice A3 x.1.length c3) (vI x.1)]) (assoc_b hm) ⟨A1, c1, hF.weak [0, 1, 5, 6] (by kernel_rfl), hS⟩ ?_
    clear hF hS hm
    rintro nn1 ⟨l2, i1⟩ a w ⟨A3, c3, hF, hS⟩ hm
    generalize hφ1 : stK (gameroomref_RiffleOrder_L1 n1) nn1 (fun x => ((gameroomref_RiffleOrder_K1 n1 in1) x).bind some) = φ1 at hm
    unfold gameroomref_RiffleOrder_L1 at hm
    dsimp only at hF hS hm
    refine seq_cut (fun a w => Fr 55 [pl 0 (.int .i64 n1), pl 1 (.bool in1), pl 5 (.slice A3 l2.length c3), pl 6 (.int .i64 i1)] a ∧ Sep w0 w0.heap.size w [own 3 (.slice A3 l2.length c3) (vI l2)] ∧ ((gameroomref_RiffleOrder_J2 l2 i1)).bind φ1 = some r) ?_ ?_
    · rintro a w ⟨hF, hS, hm⟩
      unfold gameroomref_RiffleOrder_J2 at hm
      refine seq_cut (fun a w => ∃ (l3 : List Int) (A4 : Option Addr) (c4 : Nat), Fr 55 [pl 0 (.int .i64 n1), pl 1 (.bool in1), pl 5 (.slice A4 l3.length c4), pl 6 (.int .i64 i1)] a ∧ Sep w0 w0.heap.size w [own 3 (.slice A4 l3.length c4) (vI l3)] ∧ ((gameroomref_RiffleOrder_J3 i1) l3).bind φ1 = some r) ?_ ?_
      · rintro a w ⟨l3, A4, c4, hF, hS, hm⟩
        unfold gameroomref_RiffleOrder_J3 at hm
        refine reg1 [] [] [0, 1, 5, 6] [pl 0 (.int .i64 n1), pl 1 (.bool in1), pl 5 (.slice A4 l3.length c4), pl 6 (.int .i64 (w64 (i1 + 1)))] hF hS Fol (by kernel_rfl) (by kernel_rfl) (by kernel_rfl) ?_ (fun a w hF hS => ?_)
        · exact obs_nil
        refine then_n ?_
        rw [← hφ1] at hm
        exact ⟨(l3, (w64 (i1 + 1))), ⟨A4, c4, hF.weak [0, 1, 5, 6] (by kernel_rfl), hS⟩, hm⟩
      · refine wp_block ?_
        obtain ⟨hp2, hm⟩ := asrt_b hm
        refine oneR ?_
        refine at_run 4 [⟨true, [], vS (Instr.indexAt 22 (.slice A3 l2.length c3) (.int .i64 i1)), .pointer (some (sAddr A3 i1))⟩] [none, none, none, some (.pointer (some (sAddr A3 i1)))] [0, 1, 5, 6, 22, 23] [pl 0 (.int .i64 n1), pl 1 (.bool in1), pl 5 (.slice A3 l2.length c3), pl 6 (.int .i64 i1), pl 22 (.int .i64 i1), pl 23 (.pointer (some (sAddr A3 i1)))] hF hS (by kernel_rfl) (by kernel_rfl) ?_ (fun a w hF hS => ?_)
        · exact obs_cons (ob_ixI Und22 hi3 hs3 (hS.at_ 0 rfl).rd (fun _ => hp2)) <| obs_nil
        obtain ⟨w, hrun, hS⟩ := run_setI (P := Try.prog) (t := 3) (x := i1) (hS.at_ 0 rfl) hi3 hs3 hp2
        refine at_skip hF (by kernel_rfl) hrun ?_
        have hS : Sep w0 w0.heap.size w [own 3 (.slice A3 (l2.set (Int.toNat i1) i1).length c3) (vI (l2.set (Int.toNat i1) i1))] := hS
        have hF := hF.cast (t := 5) (v := .slice A3 l2.length c3) (v' := .slice A3 (l2.set (Int.toNat i1) i1).length c3) rfl rfl (by rw [List.length_set])
        refine at_end [0, 1, 5, 6] [pl 0 (.int .i64 n1), pl 1 (.bool in1), pl 5 (.slice A3 (l2.set (Int.toNat i1) i1).length c3), pl 6 (.int .i64 i1)] hF rfl (by kernel_rfl) (fun hF => ?_)
        refine block_n ?_
        refine then_n ?_
        exact ⟨(l2.set (Int.toNat i1) i1), A3, c3, hF.weak [0, 1, 5, 6] (by kernel_rfl), hS, hm⟩
    · refine reg [] [] [0, 1, 5, 6, 17] [pl 0 (.int .i64 n1), pl 1 (.bool in1), pl 5 (.slice A3 l2.length c3), pl 6 (.int .i64 i1), pl 17 (.bool (decide (i1 < n1)))] hF hS Fol (by kernel_rfl) (by kernel_rfl) (by kernel_rfl) ?_ (fun a w hF hS => ?_)
      · exact obs_nil
      refine cond_ev (t := 17) (b := decide (i1 < n1)) hF (by kernel_rfl) (fun hb => ?_) (fun hb => ?_)
      · replace hm := if_t hm hb
        refine wp_skip ?_
        refine then_n ?_
        exact ⟨hF.weak [0, 1, 5, 6] (by kernel_rfl), hS, hm⟩
      · replace hm := if_f hm hb
        refine wp_exit ?_
        refine then_e (then_e (block_e (then_n ?_)))
        rw [← hφ1] at hm
        have hm : ((gameroomref_RiffleOrder_J1 n1 in1) l2).bind some = some r := hm
        exact ⟨l2, A3, c3, hF.weak [0, 1, 5] (by kernel_rfl), hS, hm⟩

noncomputable def deck_Deal_J3 (l1 : List Int) (hands1 : Int) (each1 : Int) (out1 : List (List Int)) : Option (List (List Int) × List Int × Int) :=
  asrt (0 ≤ (w64 (hands1 * each1)) ∧ (w64 (hands1 * each1)) ≤ (l1.length : Int) ∧ (l1.length : Int) ≤ (l1.length : Int)) <| (slices_Clone_m (cut l1 (w64 (hands1 * each1)) (l1.length : Int))).bind fun r1 => some (out1, r1, 0)

noncomputable def deck_Deal_K1 (l1 : List Int) (hands1 : Int) (each1 : Int) : (List (List Int)) → Option (List (List Int) × List Int × Int) :=
  fun (x : (List (List Int))) => match x with | out1 => (deck_Deal_J3 l1 hands1 each1) out1

noncomputable def deck_Deal_J5 (z1 : Int) (out3 : List (List Int)) : Option (St (List (List Int) × Int) (List (List Int))) :=
  some (.next (out3, (w64 (z1 + 1))))

noncomputable def deck_Deal_J4 (l1 : List Int) (hands1 : Int) (each1 : Int) (out2 : List (List Int)) (z1 : Int) : Option (St (List (List Int) × Int) (List (List Int))) :=
  asrt (0 ≤ z1 ∧ z1 < ((cut l1 (0 : Int) (w64 (hands1 * each1))).length : Int)) <| asrt (hands1 ≠ (0 : Int)) <| asrt (hands1 ≠ (0 : Int)) <| asrt (0 ≤ (Int.tmod z1 hands1) ∧ (Int.tmod z1 hands1) < (out2.length : Int)) <| asrt (((geti2 out2 (Int.tmod z1 hands1)).length : Int) + ([geti (cut l1 (0 : Int) (w64 (hands1 * each1))) z1]).length ≤ bigN) <| asrt (0 ≤ (Int.tmod z1 hands1) ∧ (Int.tmod z1 hands1) < (out2.length : Int)) <| (deck_Deal_J5 z1) (out2.set (Int.toNat (Int.tmod z1 hands1)) ((geti2 out2 (Int.tmod z1 hands1)) ++ ([geti (cut l1 (0 : Int) (w64 (hands1 * each1))) z1])))

noncomputable def deck_Deal_L1 (l1 : List Int) (hands1 : Int) (each1 : Int) : (List (List Int) × Int) → Option (St (List (List Int) × Int) (List (List Int))) :=
  fun (x : (List (List Int) × Int)) => match x with | (out2, z1) => if (decide (z1 < ((cut l1 (0 : Int) (w64 (hands1 * each1))).length : Int))) then ((deck_Deal_J4 l1 hands1 each1 out2 z1)) else (some (.done out2))

noncomputable def deck_Deal_J2 (l1 : List Int) (hands1 : Int) (each1 : Int) : Option (List (List Int) × List Int × Int) :=
  asrt (0 ≤ hands1 ∧ hands1 ≤ bigR) <| asrt (0 ≤ (0 : Int) ∧ (0 : Int) ≤ (w64 (hands1 * each1)) ∧ (w64 (hands1 * each1)) ≤ (l1.length : Int)) <| (loop (deck_Deal_L1 l1 hands1 each1) ((List.replicate (Int.toNat hands1) ([] : List Int)), 0)).bind (deck_Deal_K1 l1 hands1 each1)

noncomputable def deck_Deal_J1 (l1 : List Int) (hands1 : Int) (each1 : Int) : Option (List (List Int) × List Int × Int) :=
  asrt (hands1 ≠ (0 : Int)) <| if (decide ((w64 (Int.tdiv (l1.length : Int) hands1)) < each1)) then (some (([] : List (List Int)), ([] : List Int), 11)) else ((deck_Deal_J2 l1 hands1 each1))

noncomputable def deck_Deal_m (l1 : List Int) (hands1 : Int) (each1 : Int) : Option (List (List Int) × List Int × Int) :=
  if ((((decide ((104 : Int) < (l1.length : Int))) || (decide (hands1 < 1))) || (decide ((10 : Int) < hands1))) || (decide (each1 < 0))) then (some (([] : List (List Int)), ([] : List Int), 2)) else ((deck_Deal_J1 l1 hands1 each1))

def deck_Deal_post (r : (List (List Int) × List Int × Int)) (v : Value) (w0 w' : World) : Prop := ∃ (A0 : Option Addr) (c0 : Nat) (hd0 : List Hd) (A1 : Option Addr) (c1 : Nat), v = .tuple #[.slice A0 r.1.length c0, .slice A1 r.2.1.length c1, .int .i64 r.2.2] ∧ Sep w0 w0.heap.size w' [rows 22 3 (.slice A0 r.1.length c0) hd0 r.1, own 3 (.slice A1 r.2.1.length c1) (vI r.2.1)]

set_option maxRecDepth 100000 in
set_option maxHeartbeats 4000000 in
theorem deck_Deal_w {A1 : Option Addr} {c1 : Nat} {l1 : List Int} {hands1 : Int} {each1 : Int} {r : (List (List Int) × List Int × Int)} {w0 : World} (hm : deck_Deal_m l1 hands1 each1 = some r) (hr_l1 : Rd w0 w0.heap.size A1 (vI l1)) (_hc_l1 : l1.length ≤ c1) :
    Calls Try.prog 15 #[.slice A1 l1.length c1, .int .i64 hands1, .int .i64 each1] w0 fun e w' => ∃ v, e = .returned v ∧ deck_Deal_post r v w0 w' := by
  obtain ⟨i3, hi3, hz3, hs3, hb3⟩ := info_parts Info3
  obtain ⟨i22, hi22, hz22, hs22, hb22⟩ := info_parts Info22
  unfold deck_Deal_m at hm
  replace hm := start_b hm
  refine enterS (l := [.slice A1 l1.length c1, .int .i64 hands1, .int .i64 each1]) (n := 68) Try.func15 rfl rfl (by simp) (fun a w hF hS => ?_)
  refine reg [] [] [0, 1, 2] [pl 0 (.slice A1 l1.length c1), pl 1 (.int .i64 hands1), pl 2 (.int .i64 each1)] hF hS Fol (by kernel_rfl) (by kernel_rfl) (by kernel_rfl) ?_ (fun a w hF hS => ?_)
  · exact obs_nil
  refine seq_cut (fun a w => Fr 68 [pl 0 (.slice A1 l1.length c1), pl 1 (.int .i64 hands1), pl 2 (.int .i64 each1)] a ∧ Sep w0 w0.heap.size w [] ∧ ((deck_Deal_J1 l1 hands1 each1)).bind some = some r) ?_ ?_
  · rintro a w ⟨hF, hS, hm⟩
    unfold deck_Deal_J1 at hm
    refine seq_cut (fun a w => Fr 68 [pl 0 (.slice A1 l1.length c1), pl 1 (.int .i64 hands1), pl 2 (.int .i64 each1)] a ∧ Sep w0 w0.heap.size w [] ∧ ((deck_Deal_J2 l1 hands1 each1)).bind some = some r) ?_ ?_
    · rintro a w ⟨hF, hS, hm⟩
      unfold deck_Deal_J2 at hm
      obtain ⟨hp2, hm⟩ := asrt_b hm
      refine seqR ?_
      refine at_run 1 [] [] [0, 1, 2, 33] [pl 0 (.slice A1 l1.length c1), pl 1 (.int .i64 hands1), pl 2 (.int .i64 each1), pl 33 (.int .i64 hands1)] hF hS (by kernel_rfl) (by kernel_rfl) ?_ (fun a w hF hS => ?_)
      · exact obs_nil
      obtain ⟨A2, c2, w, hrun, hS⟩ := run_mkRows (P := Try.prog) (t := 23) hS .i64 .i64 3 Und23 hi22 hz22 hs22 hb22 hp2
      refine at_do (d := 34) hF (by kernel_rfl) (by kernel_rfl) hrun (fun a hF => ?_)
      refine at_run 1 [] [] [0, 1, 2, 9] [pl 0 (.slice A1 l1.length c1), pl 1 (.int .i64 hands1), pl 2 (.int .i64 each1), pl 9 (.slice A2 (List.replicate (Int.toNat hands1) ([] : List Int)).length c2)] hF hS (by kernel_rfl) (by kernel_rfl) ?_ (fun a w hF hS => ?_)
      · exact obs_nil
      refine at_end [0, 1, 2, 9] [pl 0 (.slice A1 l1.length c1), pl 1 (.int .i64 hands1), pl 2 (.int .i64 each1), pl 9 (.slice A2 (List.replicate (Int.toNat hands1) ([] : List Int)).length c2)] hF rfl (by kernel_rfl) (fun hF => ?_)
      refine then_n ?_
      refine seq_cut (fun a w => ∃ (out1 : List (List Int)) (A3 : Option Addr) (c3 : Nat) (hd1 : List Hd), Fr 68 [pl 0 (.slice A1 l1.length c1), pl 1 (.int .i64 hands1), pl 2 (.int .i64 each1), pl 9 (.slice A3 out1.length c3)] a ∧ Sep w0 w0.heap.size w [rows 22 3 (.slice A3 out1.length c3) hd1 out1] ∧ ((deck_Deal_J3 l1 hands1 each1) out1).bind some = some r) ?_ ?_
      · rintro a w ⟨out1, A3, c3, hd1, hF, hS, hm⟩
        unfold deck_Deal_J3 at hm
        obtain ⟨hp10, hm⟩ := asrt_b hm
        obtain ⟨r1, hr1, hm⟩ := call_b hm
        refine seqR ?_
        refine at_run 6 [⟨true, [], vS (Instr.sliceAt 22 (.slice A1 l1.length c1) (some (.int .i64 (w64 (hands1 * each1)))) none none), .slice (cutAddr A1 c1 (w64 (hands1 * each1))) (cut l1 (w64 (hands1 * each1)) (l1.length : Int)).length (c1 - Int.toNat (w64 (hands1 * each1)))⟩] [none, none, none, none, none, some (.slice (cutAddr A1 c1 (w64 (hands1 * each1))) (cut l1 (w64 (hands1 * each1)) (l1.length : Int)).length (c1 - Int.toNat (w64 (hands1 * each1))))] [61, 66] [pl 61 (.slice A3 out1.length c3), pl 66 (.slice (cutAddr A1 c1 (w64 (hands1 * each1))) (cut l1 (w64 (hands1 * each1)) (l1.length : Int)).length (c1 - Int.toNat (w64 (hands1 * each1))))] hF hS (by kernel_rfl) (by kernel_rfl) ?_ (fun a w hF hS => ?_)
        · exact obs_cons (ob_cut (k := .i64) (k' := .i64) Und22 hi3 hs3 (.inl rfl) (.inr ⟨rfl, rfl⟩) (fun _ => hp10) _hc_l1) <| obs_nil
        refine at_call (f := 54) (args := #[.slice (cutAddr A1 c1 (w64 (hands1 * each1))) (cut l1 (w64 (hands1 * each1)) (l1.length : Int)).length (c1 - Int.toNat (w64 (hands1 * each1)))]) (d := 67) hF (by kernel_rfl) (by kernel_rfl) Try.func54 (by kernel_rfl) rfl (slices_Clone_w hr1 (Rd.cutI (hr_l1.sep hS) hp10 _hc_l1) (cap_cut hp10 _hc_l1)) (fun v a w hR hF => ?_)
        obtain ⟨A7, c7, rfl, hS'⟩ := hR
        have hS : Sep w0 w0.heap.size w [own 3 (.slice A7 r1.length c7) (vI r1), rows 22 3 (.slice A3 out1.length c3) hd1 out1] := hS.merge hS'
        refine at_run 3 [] [] [6, 7, 8] [pl 6 (.slice A3 out1.length c3), pl 7 (.slice A7 r1.length c7), pl 8 (.int .i64 0)] hF hS (by kernel_rfl) (by kernel_rfl) ?_ (fun a w hF hS => ?_)
        · exact obs_nil
        refine at_end [6, 7, 8] [pl 6 (.slice A3 out1.length c3), pl 7 (.slice A7 r1.length c7), pl 8 (.int .i64 0)] hF rfl (by kernel_rfl) (fun hF => ?_)
        refine then_n ?_
        refine wp_ret ?_
        have hS := hS.pick [1, 0] (by decide)
        have hm : some (out1, r1, 0) = some r := hm
        obtain rfl := Option.some.inj hm
        exact ret3 (t := 6) (u := 7) (x := 8) (v := .slice A3 out1.length c3) (v' := .slice A7 r1.length c7) (v'' := .int .i64 0) hF rfl (by kernel_rfl) (by kernel_rfl) (by kernel_rfl) ⟨_, rfl, A3, c3, hd1, A7, c7, rfl, hS⟩
      · obtain ⟨hp3, hm⟩ := asrt_b hm
        refine reg [⟨true, [], vS (Instr.sliceAt 22 (.slice A1 l1.length c1) none (some (.int .i64 (w64 (hands1 * each1)))) none), .slice (cutAddr A1 c1 (0 : Int)) (cut l1 (0 : Int) (w64 (hands1 * each1))).length (c1 - Int.toNat (0 : Int))⟩] [none, none, none, none, some (.slice (cutAddr A1 c1 (0 : Int)) (cut l1 (0 : Int) (w64 (hands1 * each1))).length (c1 - Int.toNat (0 : Int))), none, none] [0, 1, 2, 9, 39, 40, 41] [pl 0 (.slice A1 l1.length c1), pl 1 (.int .i64 hands1), pl 2 (.int .i64 each1), pl 9 (.slice A2 (List.replicate (Int.toNat hands1) ([] : List Int)).length c2), pl 39 (.slice (cutAddr A1 c1 (0 : Int)) (cut l1 (0 : Int) (w64 (hands1 * each1))).length (c1 - Int.toNat (0 : Int))), pl 40 (.int .i64 ((cut l1 (0 : Int) (w64 (hands1 * each1))).length : Int)), pl 41 (.int .i64 0)] hF hS Fol (by kernel_rfl) (by kernel_rfl) (by kernel_rfl) ?_ (fun a w hF hS => ?_)
        · exact obs_cons (ob_cut (k := .i64) (k' := .i64) Und22 hi3 hs3 (.inr ⟨rfl, rfl⟩) (.inl rfl) (fun _ => hp3) _hc_l1) <| obs_nil
        refine wp_block ?_
        refine wp_loop_model (S := (List (List Int) × Int)) (R := (List (List Int))) (deck_Deal_L1 l1 hands1 each1) (fun x => ((deck_Deal_K1 l1 hands1 each1) x).bind some) r (fun (x : (List (List Int) × Int)) a w => ∃ (A4 : Option Addr) (c4 : Nat) (hd2 : List Hd), Fr 68 [pl 0 (.slice A1 l1.length c1), pl 1 (.int .i64 hands1), pl 2 (.int .i64 each1), pl 9 (.slice A4 x.1.length c4), pl 39 (.slice (cutAddr A1 c1 (0 : Int)) (cut l1 (0 : Int) (w64 (hands1 * each1))).length (c1 - Int.toNat (0 : Int))), pl 40 (.int .i64 ((cut l1 (0 : Int) (w64 (hands1 * each1))).length : Int)), pl 41 (.int .i64 x.2)] a ∧ Sep w0 w0.heap.size w [rows 22 3 (.slice A4 x.1.length c4) hd2 x.1]) (assoc_b hm) ⟨A2, c2, (List.replicate (Int.toNat hands1) ((none, 0) : Hd)), hF.weak [0, 1, 2, 9, 39, 40, 41] (by kernel_rfl), hS⟩ ?_
        clear hF hS hm
        rintro nn1 ⟨out2, z1⟩ a w ⟨A4, c4, hd2, hF, hS⟩ hm
        generalize hφ1 : stK (deck_Deal_L1 l1 hands1 each1) nn1 (fun x => ((deck_Deal_K1 l1 hands1 each1) x).bind some) = φ1 at hm
        unfold deck_Deal_L1 at hm
        dsimp only at hF hS hm
        refine reg [] [] [0, 1, 2, 9, 39, 40, 41, 42] [pl 0 (.slice A1 l1.length c1), pl 1 (.int .i64 hands1), pl 2 (.int .i64 each1), pl 9 (.slice A4 out2.length c4), pl 39 (.slice (cutAddr A1 c1 (0 : Int)) (cut l1 (0 : Int) (w64 (hands1 * each1))).length (c1 - Int.toNat (0 : Int))), pl 40 (.int .i64 ((cut l1 (0 : Int) (w64 (hands1 * each1))).length : Int)), pl 41 (.int .i64 z1), pl 42 (.bool (decide (z1 < ((cut l1 (0 : Int) (w64 (hands1 * each1))).length : Int))))] hF hS Fol (by kernel_rfl) (by kernel_rfl) (by kernel_rfl) ?_ (fun a w hF hS => ?_)
        · exact obs_nil
        refine seq_cut (fun a w => Fr 68 [pl 0 (.slice A1 l1.length c1), pl 1 (.int .i64 hands1), pl 2 (.int .i64 each1), pl 9 (.slice A4 out2.length c4), pl 39 (.slice (cutAddr A1 c1 (0 : Int)) (cut l1 (0 : Int) (w64 (hands1 * each1))).length (c1 - Int.toNat (0 : Int))), pl 40 (.int .i64 ((cut l1 (0 : Int) (w64 (hands1 * each1))).length : Int)), pl 41 (.int .i64 z1)] a ∧ Sep w0 w0.heap.size w [rows 22 3 (.slice A4 out2.length c4) hd2 out2] ∧ ((deck_Deal_J4 l1 hands1 each1 out2 z1)).bind φ1 = some r) ?_ ?_
        · rintro a w ⟨hF, hS, hm⟩
          unfold deck_Deal_J4 at hm
          refine seq_cut (fun a w => ∃ (out3 : List (List Int)) (A5 : Option Addr) (c5 : Nat) (hd3 : List Hd), Fr 68 [pl 0 (.slice A1 l1.length c1), pl 1 (.int .i64 hands1), pl 2 (.int .i64 each1), pl 9 (.slice A5 out3.length c5), pl 39 (.slice (cutAddr A1 c1 (0 : Int)) (cut l1 (0 : Int) (w64 (hands1 * each1))).length (c1 - Int.toNat (0 : Int))), pl 40 (.int .i64 ((cut l1 (0 : Int) (w64 (hands1 * each1))).length : Int)), pl 41 (.int .i64 z1)] a ∧ Sep w0 w0.heap.size w [rows 22 3 (.slice A5 out3.length c5) hd3 out3] ∧ ((deck_Deal_J5 z1) out3).bind φ1 = some r) ?_ ?_
          · rintro a w ⟨out3, A5, c5, hd3, hF, hS, hm⟩
            unfold deck_Deal_J5 at hm
            refine reg1 [] [] [0, 1, 2, 9, 39, 40, 41] [pl 0 (.slice A1 l1.length c1), pl 1 (.int .i64 hands1), pl 2 (.int .i64 each1), pl 9 (.slice A5 out3.length c5), pl 39 (.slice (cutAddr A1 c1 (0 : Int)) (cut l1 (0 : Int) (w64 (hands1 * each1))).length (c1 - Int.toNat (0 : Int))), pl 40 (.int .i64 ((cut l1 (0 : Int) (w64 (hands1 * each1))).length : Int)), pl 41 (.int .i64 (w64 (z1 + 1)))] hF hS Fol (by kernel_rfl) (by kernel_rfl) (by kernel_rfl) ?_ (fun a w hF hS => ?_)
            · exact obs_nil
            refine then_n ?_
            rw [← hφ1] at hm
            exact ⟨(out3, (w64 (z1 + 1))), ⟨A5, c5, hd3, hF.weak [0, 1, 2, 9, 39, 40, 41] (by kernel_rfl), hS⟩, hm⟩
          · refine wp_block ?_
            obtain ⟨hp4, hm⟩ := asrt_b hm
            refine reg [⟨true, [], vS (Instr.indexAt 22 (.slice (cutAddr A1 c1 (0 : Int)) (cut l1 (0 : Int) (w64 (hands1 * each1))).length (c1 - Int.toNat (0 : Int))) (.int .i64 z1)), .pointer (some (sAddr (cutAddr A1 c1 (0 : Int)) z1))⟩, ⟨false, [], vS (Instr.loadAt 3 (.pointer (some (sAddr (cutAddr A1 c1 (0 : Int)) z1)))), .int .i64 (geti (cut l1 (0 : Int) (w64 (hands1 * each1))) z1)⟩] [none, some (.pointer (some (sAddr (cutAddr A1 c1 (0 : Int)) z1))), some (.int .i64 (geti (cut l1 (0 : Int) (w64 (hands1 * each1))) z1)), none, none] [0, 1, 2, 9, 10, 11, 39, 40, 41] [pl 0 (.slice A1 l1.length c1), pl 1 (.int .i64 hands1), pl 2 (.int .i64 each1), pl 9 (.slice A4 out2.length c4), pl 10 (.int .i64 z1), pl 11 (.int .i64 (geti (cut l1 (0 : Int) (w64 (hands1 * each1))) z1)), pl 39 (.slice (cutAddr A1 c1 (0 : Int)) (cut l1 (0 : Int) (w64 (hands1 * each1))).length (c1 - Int.toNat (0 : Int))), pl 40 (.int .i64 ((cut l1 (0 : Int) (w64 (hands1 * each1))).length : Int)), pl 41 (.int .i64 z1)] hF hS Fol (by kernel_rfl) (by kernel_rfl) (by kernel_rfl) ?_ (fun a w hF hS => ?_)
            · exact obs_cons (ob_ixI Und22 hi3 hs3 (Rd.cutI (hr_l1.sep hS) hp3 _hc_l1) (fun _ => hp4)) <| obs_cons (ob_geti Agg3 (fun _ hS => ⟨_, (Rd.cutI (hr_l1.sep hS) hp3 _hc_l1)⟩) (fun _ => hp4)) <| obs_nil
            obtain ⟨hp5, hm⟩ := asrt_b hm
            obtain ⟨hp6, hm⟩ := asrt_b hm
            obtain ⟨hp7, hm⟩ := asrt_b hm
            obtain ⟨hp8, hm⟩ := asrt_b hm
            obtain ⟨hp9, hm⟩ := asrt_b hm
            refine regMix2 [0, 1, 2, 3, 4, 5, 6, 7, 8, 9, 10] [11, 12, 13, 14] [⟨true, [], vS (Op.intDiv .rem .i64 z1 hands1), .int .i64 (Int.tmod z1 hands1)⟩, ⟨true, [], vS (Op.intDiv .rem .i64 z1 hands1), .int .i64 (Int.tmod z1 hands1)⟩, ⟨true, [], vS (Instr.indexAt 23 (.slice A4 out2.length c4) (.int .i64 (Int.tmod z1 hands1))), .pointer (some (sAddr A4 (Int.tmod z1 hands1)))⟩, ⟨false, [], vS (Instr.loadAt 22 (.pointer (some (sAddr A4 (Int.tmod z1 hands1))))), .slice (hdA hd2 (Int.tmod z1 hands1)) (geti2 out2 (Int.tmod z1 hands1)).length (hdC hd2 (Int.tmod z1 hands1))⟩] [none, none, none, some (.int .i64 (Int.tmod z1 hands1)), none, none, none, some (.int .i64 (Int.tmod z1 hands1)), some (.pointer (some (sAddr A4 (Int.tmod z1 hands1)))), some (.slice (hdA hd2 (Int.tmod z1 hands1)) (geti2 out2 (Int.tmod z1 hands1)).length (hdC hd2 (Int.tmod z1 hands1))), none] [0, 1, 2, 9, 39, 40, 41, 46, 49, 55, 56] [pl 0 (.slice A1 l1.length c1), pl 1 (.int .i64 hands1), pl 2 (.int .i64 each1), pl 9 (.slice A4 out2.length c4), pl 39 (.slice (cutAddr A1 c1 (0 : Int)) (cut l1 (0 : Int) (w64 (hands1 * each1))).length (c1 - Int.toNat (0 : Int))), pl 40 (.int .i64 ((cut l1 (0 : Int) (w64 (hands1 * each1))).length : Int)), pl 41 (.int .i64 z1), pl 46 (.slice A4 out2.length c4), pl 49 (.int .i64 (Int.tmod z1 hands1)), pl 55 (.slice (hdA hd2 (Int.tmod z1 hands1)) (geti2 out2 (Int.tmod z1 hands1)).length (hdC hd2 (Int.tmod z1 hands1))), pl 56 (.int .i64 (geti (cut l1 (0 : Int) (w64 (hands1 * each1))) z1))] hF hS Fol (by kernel_rfl) (by kernel_rfl) (by kernel_rfl) (by kernel_rfl) (by kernel_rfl) ?_ (fun a w hF hS => ?_)
            · exact obs_cons (ob_rem rfl (fun _ => hp5)) <| obs_cons (ob_rem rfl (fun _ => hp6)) <| obs_cons (ob_ixR Und23 hi22 hs22 (hS.at_ 0 rfl).rdRows (fun _ => hp7)) <| obs_cons (ob_getR Agg22 (fun _ hS => ⟨_, (hS.at_ 0 rfl).rdRows⟩) (fun _ => hp7)) <| obs_nil
            refine at_do (d := 57) (s := vS (Instr.buildSlice 22 1 #[(0, .int .i64 (geti (cut l1 (0 : Int) (w64 (hands1 * each1))) z1))])) (v := .slice (some ⟨w.heap.size, 0, none⟩) 1 1) (w' := w.alloc (.cells #[.int .i64 (geti (cut l1 (0 : Int) (w64 (hands1 * each1))) z1)] 3)) hF (by kernel_rfl) (by kernel_rfl) (by kernel_rfl) (fun a hF => ?_)
            have hS : Sep w0 w0.heap.size (w.alloc (.cells #[.int .i64 (geti (cut l1 (0 : Int) (w64 (hands1 * each1))) z1)] 3)) (own 3 (.slice (some (⟨w.heap.size, 0, none⟩ : Addr)) ([geti (cut l1 (0 : Int) (w64 (hands1 * each1))) z1]).length 1) (vI ([geti (cut l1 (0 : Int) (w64 (hands1 * each1))) z1])) :: [rows 22 3 (.slice A4 out2.length c4) hd2 out2]) := hS.lit 3 #[.int .i64 (geti (cut l1 (0 : Int) (w64 (hands1 * each1))) z1)] 1 rfl (by omega)
            generalize (some (⟨w.heap.size, 0, none⟩ : Addr)) = g1 at hF hS
            generalize w.alloc (.cells #[.int .i64 (geti (cut l1 (0 : Int) (w64 (hands1 * each1))) z1)] 3) = w at hS ⊢
            have hS : Sep w0 w0.heap.size w [own 3 (.slice (hdA hd2 (Int.tmod z1 hands1)) (geti2 out2 (Int.tmod z1 hands1)).length (hdC hd2 (Int.tmod z1 hands1))) (vI (geti2 out2 (Int.tmod z1 hands1))), own 3 (.slice g1 ([geti (cut l1 (0 : Int) (w64 (hands1 * each1))) z1]).length 1) (vI ([geti (cut l1 (0 : Int) (w64 (hands1 * each1))) z1])), rowsBut 22 3 (.slice A4 out2.length c4) hd2 out2 (Int.toNat (Int.tmod z1 hands1))] := (hS.at_ 1 rfl).takeRow hp7
            obtain ⟨A6, c6, w, hrun, hS⟩ := run_appI (P := Try.prog) (t := 22) (xs := (geti2 out2 (Int.tmod z1 hands1))) (ys := [geti (cut l1 (0 : Int) (w64 (hands1 * each1))) z1]) (m := ([geti (cut l1 (0 : Int) (w64 (hands1 * each1))) z1]).length) (c := 1) (hS.at_ 0 rfl) (hS.at_ 1 rfl).rd (by rfl) 22 Und22 hi3 hz3 hs3 hb3 hp8
            have hS : Sep w0 w0.heap.size w [own 3 (.slice A6 ((geti2 out2 (Int.tmod z1 hands1)) ++ ([geti (cut l1 (0 : Int) (w64 (hands1 * each1))) z1])).length c6) (vI ((geti2 out2 (Int.tmod z1 hands1)) ++ ([geti (cut l1 (0 : Int) (w64 (hands1 * each1))) z1]))), own 3 (.slice g1 ([geti (cut l1 (0 : Int) (w64 (hands1 * each1))) z1]).length 1) (vI ([geti (cut l1 (0 : Int) (w64 (hands1 * each1))) z1])), rowsBut 22 3 (.slice A4 out2.length c4) hd2 out2 (Int.toNat (Int.tmod z1 hands1))] := hS
            refine at_do (d := 58) hF (by kernel_rfl) (by kernel_rfl) hrun (fun a hF => ?_)
            refine at_run 1 [⟨true, [], vS (Instr.indexAt 23 (.slice A4 out2.length c4) (.int .i64 (Int.tmod z1 hands1))), .pointer (some (sAddr A4 (Int.tmod z1 hands1)))⟩] [some (.pointer (some (sAddr A4 (Int.tmod z1 hands1))))] [0, 1, 2, 9, 39, 40, 41, 58, 59] [pl 0 (.slice A1 l1.length c1), pl 1 (.int .i64 hands1), pl 2 (.int .i64 each1), pl 9 (.slice A4 out2.length c4), pl 39 (.slice (cutAddr A1 c1 (0 : Int)) (cut l1 (0 : Int) (w64 (hands1 * each1))).length (c1 - Int.toNat (0 : Int))), pl 40 (.int .i64 ((cut l1 (0 : Int) (w64 (hands1 * each1))).length : Int)), pl 41 (.int .i64 z1), pl 58 (.slice A6 ((geti2 out2 (Int.tmod z1 hands1)) ++ ([geti (cut l1 (0 : Int) (w64 (hands1 * each1))) z1])).length c6), pl 59 (.pointer (some (sAddr A4 (Int.tmod z1 hands1))))] hF hS (by kernel_rfl) (by kernel_rfl) ?_ (fun a w hF hS => ?_)
            · exact obs_cons (ob_ixH Und23 hi22 hs22 (hS.at_ 2 rfl).butRd (fun _ => hp9)) <| obs_nil
            obtain ⟨w, hrun, hS⟩ := run_storeRow (P := Try.prog) (t := 22) (hS.at2 1 rfl) hi22 hs22 hp9
            refine at_skip hF (by kernel_rfl) hrun ?_
            have hS : Sep w0 w0.heap.size w [own 3 (.slice g1 ([geti (cut l1 (0 : Int) (w64 (hands1 * each1))) z1]).length 1) (vI ([geti (cut l1 (0 : Int) (w64 (hands1 * each1))) z1])), rows 22 3 (.slice A4 (out2.set (Int.toNat (Int.tmod z1 hands1)) ((geti2 out2 (Int.tmod z1 hands1)) ++ ([geti (cut l1 (0 : Int) (w64 (hands1 * each1))) z1]))).length c4) (hd2.set (Int.toNat (Int.tmod z1 hands1)) (A6, c6)) (out2.set (Int.toNat (Int.tmod z1 hands1)) ((geti2 out2 (Int.tmod z1 hands1)) ++ ([geti (cut l1 (0 : Int) (w64 (hands1 * each1))) z1])))] := hS
            have hF := hF.cast (t := 9) (v := .slice A4 out2.length c4) (v' := .slice A4 (out2.set (Int.toNat (Int.tmod z1 hands1)) ((geti2 out2 (Int.tmod z1 hands1)) ++ ([geti (cut l1 (0 : Int) (w64 (hands1 * each1))) z1]))).length c4) rfl rfl (by rw [List.length_set])
            refine at_end [0, 1, 2, 9, 39, 40, 41] [pl 0 (.slice A1 l1.length c1), pl 1 (.int .i64 hands1), pl 2 (.int .i64 each1), pl 9 (.slice A4 (out2.set (Int.toNat (Int.tmod z1 hands1)) ((geti2 out2 (Int.tmod z1 hands1)) ++ ([geti (cut l1 (0 : Int) (w64 (hands1 * each1))) z1]))).length c4), pl 39 (.slice (cutAddr A1 c1 (0 : Int)) (cut l1 (0 : Int) (w64 (hands1 * each1))).length (c1 - Int.toNat (0 : Int))), pl 40 (.int .i64 ((cut l1 (0 : Int) (w64 (hands1 * each1))).length : Int)), pl 41 (.int .i64 z1)] hF rfl (by kernel_rfl) (fun hF => ?_)
            refine np_n ?_
            refine block_n ?_
            refine then_n ?_
            have hS := hS.pick [1] (by decide)
            exact ⟨(out2.set (Int.toNat (Int.tmod z1 hands1)) ((geti2 out2 (Int.tmod z1 hands1)) ++ ([geti (cut l1 (0 : Int) (w64 (hands1 * each1))) z1]))), A4, c4, (hd2.set (Int.toNat (Int.tmod z1 hands1)) (A6, c6)), hF.weak [0, 1, 2, 9, 39, 40, 41] (by kernel_rfl), hS, hm⟩
        · refine cond_ev (t := 42) (b := decide (z1 < ((cut l1 (0 : Int) (w64 (hands1 * each1))).length : Int))) hF (by kernel_rfl) (fun hb => ?_) (fun hb => ?_)
          · replace hm := if_t hm hb
            refine wp_skip ?_
            refine then_n ?_
            exact ⟨hF.weak [0, 1, 2, 9, 39, 40, 41] (by kernel_rfl), hS, hm⟩
          · replace hm := if_f hm hb
            refine wp_exit ?_
            refine then_e (then_e (block_e (then_n ?_)))
            rw [← hφ1] at hm
            have hm : ((deck_Deal_J3 l1 hands1 each1) out2).bind some = some r := hm
            exact ⟨out2, A4, c4, hd2, hF.weak [0, 1, 2, 9] (by kernel_rfl), hS, hm⟩
    · obtain ⟨hp1, hm⟩ := asrt_b hm
      refine reg [⟨true, [], vS (Op.intDiv .quo .i64 (l1.length : Int) hands1), .int .i64 (w64 (Int.tdiv (l1.length : Int) hands1))⟩] [none, none, none, none, some (.int .i64 (w64 (Int.tdiv (l1.length : Int) hands1))), none] [0, 1, 2, 32] [pl 0 (.slice A1 l1.length c1), pl 1 (.int .i64 hands1), pl 2 (.int .i64 each1), pl 32 (.bool (decide ((w64 (Int.tdiv (l1.length : Int) hands1)) < each1)))] hF hS Fol (by kernel_rfl) (by kernel_rfl) (by kernel_rfl) ?_ (fun a w hF hS => ?_)
      · exact obs_cons (ob_quo rfl (fun _ => hp1)) <| obs_nil
      refine cond_ev (t := 32) (b := decide ((w64 (Int.tdiv (l1.length : Int) hands1)) < each1)) hF (by kernel_rfl) (fun hb => ?_) (fun hb => ?_)
      · replace hm := if_t hm hb
        refine reg [] [] [6, 7, 8] [pl 6 (.slice none 0 0), pl 7 (.slice none 0 0), pl 8 (.int .i64 11)] hF hS Fol (by kernel_rfl) (by kernel_rfl) (by kernel_rfl) ?_ (fun a w hF hS => ?_)
        · exact obs_nil
        refine wp_ret ?_
        refine then_r ?_
        have hS := hS.nilRows 22 3
        have hS := hS.nil 3
        have hS := hS.pick [1, 0] (by decide)
        have hm : some (([] : List (List Int)), ([] : List Int), 11) = some r := hm
        obtain rfl := Option.some.inj hm
        exact ret3 (t := 6) (u := 7) (x := 8) (v := .slice none 0 0) (v' := .slice none 0 0) (v'' := .int .i64 11) hF rfl (by kernel_rfl) (by kernel_rfl) (by kernel_rfl) ⟨_, rfl, none, 0, ([]), none, 0, rfl, hS⟩
      · replace hm := if_f hm hb
        refine wp_skip ?_
        refine then_n ?_
        exact ⟨hF.weak [0, 1, 2] (by kernel_rfl), hS, hm⟩
  · refine reg [] [] [0, 1, 2, 26] [pl 0 (.slice A1 l1.length c1), pl 1 (.int .i64 hands1), pl 2 (.int .i64 each1), pl 26 (.bool ((((decide ((104 : Int) < (l1.length : Int))) || (decide (hands1 < 1))) || (decide ((10 : Int) < hands1))) || (decide (each1 < 0))))] hF hS Fol (by kernel_rfl) (by kernel_rfl) (by kernel_rfl) ?_ (fun a w hF hS => ?_)
    · exact obs_nil
    refine cond_ev (t := 26) (b := (((decide ((104 : Int) < (l1.length : Int))) || (decide (hands1 < 1))) || (decide ((10 : Int) < hands1))) || (decide (each1 < 0))) hF (by kernel_rfl) (fun hb => ?_) (fun hb => ?_)
    · replace hm := if_t hm hb
      refine reg [] [] [6, 7, 8] [pl 6 (.slice none 0 0), pl 7 (.slice none 0 0), pl 8 (.int .i64 2)] hF hS Fol (by kernel_rfl) (by kernel_rfl) (by kernel_rfl) ?_ (fun a w hF hS => ?_)
      · exact obs_nil
      refine wp_ret ?_
      refine then_r ?_
      have hS := hS.nilRows 22 3
      have hS := hS.nil 3
      have hS := hS.pick [1, 0] (by decide)
      have hm : some (([] : List (List Int)), ([] : List Int), 2) = some r := hm
      obtain rfl := Option.some.inj hm
      exact ret3 (t := 6) (u := 7) (x := 8) (v := .slice none 0 0) (v' := .slice none 0 0) (v'' := .int .i64 2) hF rfl (by kernel_rfl) (by kernel_rfl) (by kernel_rfl) ⟨_, rfl, none, 0, ([]), none, 0, rfl, hS⟩
    · replace hm := if_f hm hb
      refine wp_skip ?_
      refine then_n ?_
      exact ⟨hF.weak [0, 1, 2] (by kernel_rfl), hS, hm⟩

end Go.Proofs.Ytnplejebgbdfpaa
