/-
  Models and walks, printed by our own program (wip/gen).
-/
import Derived.Test.YtnplejebgbdfpaaFA
import Derived.Test.YtnplejebgbdfpaaNA
namespace Go.Proofs.Ytnplejebgbdfpaa
open Go Go.GL Go.RowKit


noncomputable def gameroomref_SumWays_J11 (x1 : Int) (next5 : List Int) : Option (St (List Int × Int) (List Int)) :=
  some (.next (next5, (w64 (x1 + 1))))

noncomputable def gameroomref_SumWays_J10 (l2 : List Int) (s1 : Int) (next4 : List Int) (x1 : Int) : Option (St (List Int × Int) (List Int)) :=
  asrt (0 ≤ s1 ∧ s1 < (next4.length : Int)) <| asrt (0 ≤ (w64 (s1 - x1)) ∧ (w64 (s1 - x1)) < (l2.length : Int)) <| asrt (0 ≤ s1 ∧ s1 < (next4.length : Int)) <| (gameroomref_SumWays_J11 x1) (next4.set (Int.toNat s1) (w64 ((geti next4 s1) + (geti l2 (w64 (s1 - x1))))))

noncomputable def gameroomref_SumWays_L4 (dice1 : List Int) (l2 : List Int) (i2 : Int) (s1 : Int) : (List Int × Int) → Option (St (List Int × Int) (List Int)) :=
  fun (x : (List Int × Int)) => match x with | (next4, x1) => asrt (0 ≤ i2 ∧ i2 < (dice1.length : Int)) <| if ((decide (x1 ≤ (geti dice1 i2))) && (decide (x1 ≤ s1))) then ((gameroomref_SumWays_J10 l2 s1 next4 x1)) else (some (.done next4))

noncomputable def gameroomref_SumWays_J9 (s1 : Int) (next3 : List Int) : Option (St (List Int × Int) (List Int)) :=
  some (.next (next3, (w64 (s1 + 1))))

noncomputable def gameroomref_SumWays_K4 (s1 : Int) : (List Int) → Option (St (List Int × Int) (List Int)) :=
  fun (x : (List Int)) => match x with | next3 => (gameroomref_SumWays_J9 s1) next3

noncomputable def gameroomref_SumWays_J8 (dice1 : List Int) (l2 : List Int) (i2 : Int) (next2 : List Int) (s1 : Int) : Option (St (List Int × Int) (List Int)) :=
  (loop (gameroomref_SumWays_L4 dice1 l2 i2 s1) (next2, 1)).bind (gameroomref_SumWays_K4 s1)

noncomputable def gameroomref_SumWays_L3 (dice1 : List Int) (most1 : Int) (l2 : List Int) (i2 : Int) : (List Int × Int) → Option (St (List Int × Int) (List Int)) :=
  fun (x : (List Int × Int)) => match x with | (next2, s1) => if (decide (s1 ≤ most1)) then ((gameroomref_SumWays_J8 dice1 l2 i2 next2 s1)) else (some (.done next2))

noncomputable def gameroomref_SumWays_J6 (i2 : Int) (l3 : List Int) : Option (St (List Int × Int) (List Int)) :=
  some (.next (l3, (w64 (i2 + 1))))

noncomputable def gameroomref_SumWays_J7 (i2 : Int) (next1 : List Int) : Option (St (List Int × Int) (List Int)) :=
  (gameroomref_SumWays_J6 i2) next1

noncomputable def gameroomref_SumWays_K3 (i2 : Int) : (List Int) → Option (St (List Int × Int) (List Int)) :=
  fun (x : (List Int)) => match x with | next1 => (gameroomref_SumWays_J7 i2) next1

noncomputable def gameroomref_SumWays_J5 (dice1 : List Int) (most1 : Int) (l2 : List Int) (i2 : Int) : Option (St (List Int × Int) (List Int)) :=
  asrt (0 ≤ (w64 (most1 + 1)) ∧ (w64 (most1 + 1)) ≤ bigN) <| (loop (gameroomref_SumWays_L3 dice1 most1 l2 i2) ((List.replicate (Int.toNat (w64 (most1 + 1))) (0 : Int)), 0)).bind (gameroomref_SumWays_K3 i2)

noncomputable def gameroomref_SumWays_L2 (dice1 : List Int) (most1 : Int) : (List Int × Int) → Option (St (List Int × Int) (List Int)) :=
  fun (x : (List Int × Int)) => match x with | (l2, i2) => if (decide (i2 < (dice1.length : Int))) then ((gameroomref_SumWays_J5 dice1 most1 l2 i2)) else (some (.done l2))

noncomputable def gameroomref_SumWays_J4 (dice1 : List Int) (l1 : List Int) : Option (List Int) :=
  asrt (0 ≤ (dice1.length : Int) ∧ (dice1.length : Int) ≤ (l1.length : Int) ∧ (l1.length : Int) ≤ (l1.length : Int)) <| some (cut l1 (dice1.length : Int) (l1.length : Int))

noncomputable def gameroomref_SumWays_K2 (dice1 : List Int) : (List Int) → Option (List Int) :=
  fun (x : (List Int)) => match x with | l1 => (gameroomref_SumWays_J4 dice1) l1

noncomputable def gameroomref_SumWays_J1 (dice1 : List Int) (most1 : Int) : Option (List Int) :=
  asrt (0 ≤ (w64 (most1 + 1)) ∧ (w64 (most1 + 1)) ≤ bigN) <| asrt (0 ≤ (0 : Int) ∧ (0 : Int) < ((List.replicate (Int.toNat (w64 (most1 + 1))) (0 : Int)).length : Int)) <| (loop (gameroomref_SumWays_L2 dice1 most1) (((List.replicate (Int.toNat (w64 (most1 + 1))) (0 : Int)).set (Int.toNat 0) 1), 0)).bind (gameroomref_SumWays_K2 dice1)

noncomputable def gameroomref_SumWays_K1 (dice1 : List Int) : Int → Option (List Int) :=
  fun (x : Int) => match x with | most1 => (gameroomref_SumWays_J1 dice1) most1

noncomputable def gameroomref_SumWays_J3 (i1 : Int) (most3 : Int) : Option (St (Int × Int) Int) :=
  some (.next (most3, (w64 (i1 + 1))))

noncomputable def gameroomref_SumWays_J2 (dice1 : List Int) (most2 : Int) (i1 : Int) : Option (St (Int × Int) Int) :=
  asrt (0 ≤ i1 ∧ i1 < (dice1.length : Int)) <| (gameroomref_SumWays_J3 i1) (w64 (most2 + (geti dice1 i1)))

noncomputable def gameroomref_SumWays_L1 (dice1 : List Int) : (Int × Int) → Option (St (Int × Int) Int) :=
  fun (x : (Int × Int)) => match x with | (most2, i1) => if (decide (i1 < (dice1.length : Int))) then ((gameroomref_SumWays_J2 dice1 most2 i1)) else (some (.done most2))

noncomputable def gameroomref_SumWays_m (dice1 : List Int) : Option (List Int) :=
  (loop (gameroomref_SumWays_L1 dice1) (0, 0)).bind (gameroomref_SumWays_K1 dice1)

def gameroomref_SumWays_post (r : (List Int)) (v : Value) (w0 w' : World) : Prop := ∃ (A0 : Option Addr) (c0 : Nat), v = .slice A0 r.length c0 ∧ Sep w0 w0.heap.size w' [view (.slice A0 r.length c0) (vI r)]

set_option maxRecDepth 100000 in
set_option maxHeartbeats 4000000 in
theorem gameroomref_SumWays_w {A1 : Option Addr} {c1 : Nat} {dice1 : List Int} {r : (List Int)} {w0 : World} (hm : gameroomref_SumWays_m dice1 = some r) (hr_dice1 : Rd w0 w0.heap.size A1 (vI dice1)) (_hc_dice1 : dice1.length ≤ c1) :
    Calls Try.prog 45 #[.slice A1 dice1.length c1] w0 fun e w' => ∃ v, e = .returned v ∧ gameroomref_SumWays_post r v w0 w' := by
  obtain ⟨i3, hi3, hz3, hs3, hb3⟩ := info_parts Info3
  unfold gameroomref_SumWays_m at hm
  replace hm := start_b hm
  refine enterS (l := [.slice A1 dice1.length c1]) (n := 71) Try.func45 rfl rfl (by simp) (fun a w hF hS => ?_)
  refine reg [] [] [0] [pl 0 (.slice A1 dice1.length c1)] hF hS Fol (by kernel_rfl) (by kernel_rfl) (by kernel_rfl) ?_ (fun a w hF hS => ?_)
  · exact obs_nil
  refine reg [] [] [0, 3] [pl 0 (.slice A1 dice1.length c1), pl 3 (.int .i64 0)] hF hS Fol (by kernel_rfl) (by kernel_rfl) (by kernel_rfl) ?_ (fun a w hF hS => ?_)
  · exact obs_nil
  refine seq_cut (fun a w => ∃ (most1 : Int), Fr 71 [pl 0 (.slice A1 dice1.length c1), pl 3 (.int .i64 most1)] a ∧ Sep w0 w0.heap.size w [] ∧ ((gameroomref_SumWays_J1 dice1) most1).bind some = some r) ?_ ?_
  · rintro a w ⟨most1, hF, hS, hm⟩
    unfold gameroomref_SumWays_J1 at hm
    obtain ⟨hp2, hm⟩ := asrt_b hm
    refine seqR ?_
    refine at_run 2 [] [] [0, 3, 23] [pl 0 (.slice A1 dice1.length c1), pl 3 (.int .i64 most1), pl 23 (.int .i64 (w64 (most1 + 1)))] hF hS (by kernel_rfl) (by kernel_rfl) ?_ (fun a w hF hS => ?_)
    · exact obs_nil
    obtain ⟨A2, c2, w, hrun, hS⟩ := run_mkI (P := Try.prog) (t := 22) hS .i64 .i64 Und22 hi3 hz3 hs3 hb3 hp2
    refine at_do (d := 24) hF (by kernel_rfl) (by kernel_rfl) hrun (fun a hF => ?_)
    refine at_run 1 [] [] [0, 3, 5] [pl 0 (.slice A1 dice1.length c1), pl 3 (.int .i64 most1), pl 5 (.slice A2 (List.replicate (Int.toNat (w64 (most1 + 1))) (0 : Int)).length c2)] hF hS (by kernel_rfl) (by kernel_rfl) ?_ (fun a w hF hS => ?_)
    · exact obs_nil
    refine at_end [0, 3, 5] [pl 0 (.slice A1 dice1.length c1), pl 3 (.int .i64 most1), pl 5 (.slice A2 (List.replicate (Int.toNat (w64 (most1 + 1))) (0 : Int)).length c2)] hF rfl (by kernel_rfl) (fun hF => ?_)
    refine then_n ?_
    obtain ⟨hp3, hm⟩ := asrt_b hm
    refine seqR ?_
    refine at_run 2 [⟨true, [], vS (Instr.indexAt 22 (.slice A2 (List.replicate (Int.toNat (w64 (most1 + 1))) (0 : Int)).length c2) (.int .i64 0)), .pointer (some (sAddr A2 0))⟩] [none, some (.pointer (some (sAddr A2 0)))] [0, 3, 5, 26] [pl 0 (.slice A1 dice1.length c1), pl 3 (.int .i64 most1), pl 5 (.slice A2 (List.replicate (Int.toNat (w64 (most1 + 1))) (0 : Int)).length c2), pl 26 (.pointer (some (sAddr A2 0)))] hF hS (by kernel_rfl) (by kernel_rfl) ?_ (fun a w hF hS => ?_)
    · exact obs_cons (ob_ixI Und22 hi3 hs3 (hS.at_ 0 rfl).rd (fun _ => hp3)) <| obs_nil
    obtain ⟨w, hrun, hS⟩ := run_setI (P := Try.prog) (t := 3) (x := 1) (hS.at_ 0 rfl) hi3 hs3 hp3
    refine at_skip hF (by kernel_rfl) hrun ?_
    have hS : Sep w0 w0.heap.size w [own 3 (.slice A2 ((List.replicate (Int.toNat (w64 (most1 + 1))) (0 : Int)).set (Int.toNat 0) 1).length c2) (vI ((List.replicate (Int.toNat (w64 (most1 + 1))) (0 : Int)).set (Int.toNat 0) 1))] := hS
    have hF := hF.cast (t := 5) (v := .slice A2 (List.replicate (Int.toNat (w64 (most1 + 1))) (0 : Int)).length c2) (v' := .slice A2 ((List.replicate (Int.toNat (w64 (most1 + 1))) (0 : Int)).set (Int.toNat 0) 1).length c2) rfl rfl (by rw [List.length_set])
    refine at_end [0, 3, 5] [pl 0 (.slice A1 dice1.length c1), pl 3 (.int .i64 most1), pl 5 (.slice A2 ((List.replicate (Int.toNat (w64 (most1 + 1))) (0 : Int)).set (Int.toNat 0) 1).length c2)] hF rfl (by kernel_rfl) (fun hF => ?_)
    refine then_n ?_
    refine seq_cut (fun a w => ∃ (l1 : List Int) (A3 : Option Addr) (c3 : Nat), Fr 71 [pl 0 (.slice A1 dice1.length c1), pl 5 (.slice A3 l1.length c3)] a ∧ Sep w0 w0.heap.size w [own 3 (.slice A3 l1.length c3) (vI l1)] ∧ ((gameroomref_SumWays_J4 dice1) l1).bind some = some r) ?_ ?_
    · rintro a w ⟨l1, A3, c3, hF, hS, hm⟩
      unfold gameroomref_SumWays_J4 at hm
      obtain ⟨hp9, hm⟩ := asrt_b hm
      refine reg [⟨true, [], vS (Instr.sliceAt 22 (.slice A3 l1.length c3) (some (.int .i64 (dice1.length : Int))) none none), .slice (cutAddr A3 c3 (dice1.length : Int)) (cut l1 (dice1.length : Int) (l1.length : Int)).length (c3 - Int.toNat (dice1.length : Int))⟩] [none, none, none, some (.slice (cutAddr A3 c3 (dice1.length : Int)) (cut l1 (dice1.length : Int) (l1.length : Int)).length (c3 - Int.toNat (dice1.length : Int))), none] [2] [pl 2 (.slice (cutAddr A3 c3 (dice1.length : Int)) (cut l1 (dice1.length : Int) (l1.length : Int)).length (c3 - Int.toNat (dice1.length : Int)))] hF hS Fol (by kernel_rfl) (by kernel_rfl) (by kernel_rfl) ?_ (fun a w hF hS => ?_)
      · exact obs_cons (ob_cut (k := .i64) (k' := .i64) Und22 hi3 hs3 (.inl rfl) (.inr ⟨rfl, rfl⟩) (fun _ => hp9) (hS.at_ 0 rfl).cap) <| obs_nil
      refine wp_ret ?_
      have hS := (hS.at_ 0 rfl).asCut hp9
      have hS : Sep w0 w0.heap.size w [view (.slice (cutAddr A3 c3 (dice1.length : Int)) (cut l1 (dice1.length : Int) (l1.length : Int)).length (c3 - Int.toNat (dice1.length : Int))) (vI (cut l1 (dice1.length : Int) (l1.length : Int)))] := hS
      have hm : some (cut l1 (dice1.length : Int) (l1.length : Int)) = some r := hm
      obtain rfl := Option.some.inj hm
      exact retV (rs := [.tmp 2]) (vs := [.slice (cutAddr A3 c3 (dice1.length : Int)) (cut l1 (dice1.length : Int) (l1.length : Int)).length (c3 - Int.toNat (dice1.length : Int))]) hF rfl (rv_t (by kernel_rfl) <| rv_nil) rfl ⟨_, rfl, (cutAddr A3 c3 (dice1.length : Int)), (c3 - Int.toNat (dice1.length : Int)), rfl, hS⟩
    · refine reg [] [] [0, 3, 5, 6] [pl 0 (.slice A1 dice1.length c1), pl 3 (.int .i64 most1), pl 5 (.slice A2 ((List.replicate (Int.toNat (w64 (most1 + 1))) (0 : Int)).set (Int.toNat 0) 1).length c2), pl 6 (.int .i64 0)] hF hS Fol (by kernel_rfl) (by kernel_rfl) (by kernel_rfl) ?_ (fun a w hF hS => ?_)
      · exact obs_nil
      refine wp_block ?_
      refine wp_loop_model (S := (List Int × Int)) (R := (List Int)) (gameroomref_SumWays_L2 dice1 most1) (fun x => ((gameroomref_SumWays_K2 dice1) x).bind some) r (fun (x : (List Int × Int)) a w => ∃ (A4 : Option Addr) (c4 : Nat), Fr 71 [pl 0 (.slice A1 dice1.length c1), pl 3 (.int .i64 most1), pl 5 (.slice A4 x.1.length c4), pl 6 (.int .i64 x.2)] a ∧ Sep w0 w0.heap.size w [own 3 (.slice A4 x.1.length c4) (vI x.1)]) (assoc_b hm) ⟨A2, c2, hF.weak [0, 3, 5, 6] (by kernel_rfl), hS⟩ ?_
      clear hF hS hm
      rintro nn2 ⟨l2, i2⟩ a w ⟨A4, c4, hF, hS⟩ hm
      generalize hφ2 : stK (gameroomref_SumWays_L2 dice1 most1) nn2 (fun x => ((gameroomref_SumWays_K2 dice1) x).bind some) = φ2 at hm
      unfold gameroomref_SumWays_L2 at hm
      dsimp only at hF hS hm
      refine seq_cut (fun a w => Fr 71 [pl 0 (.slice A1 dice1.length c1), pl 3 (.int .i64 most1), pl 5 (.slice A4 l2.length c4), pl 6 (.int .i64 i2)] a ∧ Sep w0 w0.heap.size w [own 3 (.slice A4 l2.length c4) (vI l2)] ∧ ((gameroomref_SumWays_J5 dice1 most1 l2 i2)).bind φ2 = some r) ?_ ?_
      · rintro a w ⟨hF, hS, hm⟩
        unfold gameroomref_SumWays_J5 at hm
        refine seq_cut (fun a w => ∃ (l3 : List Int) (A5 : Option Addr) (c5 : Nat), Fr 71 [pl 0 (.slice A1 dice1.length c1), pl 3 (.int .i64 most1), pl 5 (.slice A5 l3.length c5), pl 6 (.int .i64 i2)] a ∧ Sep w0 w0.heap.size w [own 3 (.slice A5 l3.length c5) (vI l3)] ∧ ((gameroomref_SumWays_J6 i2) l3).bind φ2 = some r) ?_ ?_
        · rintro a w ⟨l3, A5, c5, hF, hS, hm⟩
          unfold gameroomref_SumWays_J6 at hm
          refine reg1 [] [] [0, 3, 5, 6] [pl 0 (.slice A1 dice1.length c1), pl 3 (.int .i64 most1), pl 5 (.slice A5 l3.length c5), pl 6 (.int .i64 (w64 (i2 + 1)))] hF hS Fol (by kernel_rfl) (by kernel_rfl) (by kernel_rfl) ?_ (fun a w hF hS => ?_)
          · exact obs_nil
          refine then_n ?_
          rw [← hφ2] at hm
          exact ⟨(l3, (w64 (i2 + 1))), ⟨A5, c5, hF.weak [0, 3, 5, 6] (by kernel_rfl), hS⟩, hm⟩
        · refine wp_block ?_
          obtain ⟨hp4, hm⟩ := asrt_b hm
          refine seqR ?_
          refine at_run 2 [] [] [0, 3, 5, 6, 34] [pl 0 (.slice A1 dice1.length c1), pl 3 (.int .i64 most1), pl 5 (.slice A4 l2.length c4), pl 6 (.int .i64 i2), pl 34 (.int .i64 (w64 (most1 + 1)))] hF hS (by kernel_rfl) (by kernel_rfl) ?_ (fun a w hF hS => ?_)
          · exact obs_nil
          obtain ⟨A6, c6, w, hrun, hS⟩ := run_mkI (P := Try.prog) (t := 22) hS .i64 .i64 Und22 hi3 hz3 hs3 hb3 hp4
          refine at_do (d := 35) hF (by kernel_rfl) (by kernel_rfl) hrun (fun a hF => ?_)
          refine at_run 1 [] [] [0, 3, 5, 6, 7] [pl 0 (.slice A1 dice1.length c1), pl 3 (.int .i64 most1), pl 5 (.slice A4 l2.length c4), pl 6 (.int .i64 i2), pl 7 (.slice A6 (List.replicate (Int.toNat (w64 (most1 + 1))) (0 : Int)).length c6)] hF hS (by kernel_rfl) (by kernel_rfl) ?_ (fun a w hF hS => ?_)
          · exact obs_nil
          refine at_end [0, 3, 5, 6, 7] [pl 0 (.slice A1 dice1.length c1), pl 3 (.int .i64 most1), pl 5 (.slice A4 l2.length c4), pl 6 (.int .i64 i2), pl 7 (.slice A6 (List.replicate (Int.toNat (w64 (most1 + 1))) (0 : Int)).length c6)] hF rfl (by kernel_rfl) (fun hF => ?_)
          refine then_n ?_
          refine seq_cut (fun a w => ∃ (next1 : List Int) (A7 : Option Addr) (c7 : Nat), Fr 71 [pl 0 (.slice A1 dice1.length c1), pl 3 (.int .i64 most1), pl 6 (.int .i64 i2), pl 7 (.slice A7 next1.length c7)] a ∧ Sep w0 w0.heap.size w [own 3 (.slice A7 next1.length c7) (vI next1)] ∧ ((gameroomref_SumWays_J7 i2) next1).bind φ2 = some r) ?_ ?_
          · rintro a w ⟨next1, A7, c7, hF, hS, hm⟩
            unfold gameroomref_SumWays_J7 at hm
            refine reg1 [] [] [0, 3, 5, 6] [pl 0 (.slice A1 dice1.length c1), pl 3 (.int .i64 most1), pl 5 (.slice A7 next1.length c7), pl 6 (.int .i64 i2)] hF hS Fol (by kernel_rfl) (by kernel_rfl) (by kernel_rfl) ?_ (fun a w hF hS => ?_)
            · exact obs_nil
            refine block_n ?_
            refine then_n ?_
            exact ⟨next1, A7, c7, hF.weak [0, 3, 5, 6] (by kernel_rfl), hS, hm⟩
          · refine reg [] [] [0, 3, 5, 6, 7, 8] [pl 0 (.slice A1 dice1.length c1), pl 3 (.int .i64 most1), pl 5 (.slice A4 l2.length c4), pl 6 (.int .i64 i2), pl 7 (.slice A6 (List.replicate (Int.toNat (w64 (most1 + 1))) (0 : Int)).length c6), pl 8 (.int .i64 0)] hF hS Fol (by kernel_rfl) (by kernel_rfl) (by kernel_rfl) ?_ (fun a w hF hS => ?_)
            · exact obs_nil
            refine wp_block ?_
            refine wp_loop_model (S := (List Int × Int)) (R := (List Int)) (gameroomref_SumWays_L3 dice1 most1 l2 i2) (fun x => ((gameroomref_SumWays_K3 i2) x).bind φ2) r (fun (x : (List Int × Int)) a w => ∃ (A8 : Option Addr) (c8 : Nat), Fr 71 [pl 0 (.slice A1 dice1.length c1), pl 3 (.int .i64 most1), pl 5 (.slice A4 l2.length c4), pl 6 (.int .i64 i2), pl 7 (.slice A8 x.1.length c8), pl 8 (.int .i64 x.2)] a ∧ Sep w0 w0.heap.size w [own 3 (.slice A8 x.1.length c8) (vI x.1), own 3 (.slice A4 l2.length c4) (vI l2)]) (assoc_b hm) ⟨A6, c6, hF.weak [0, 3, 5, 6, 7, 8] (by kernel_rfl), hS⟩ ?_
            clear hF hS hm
            rintro nn3 ⟨next2, s1⟩ a w ⟨A8, c8, hF, hS⟩ hm
            generalize hφ3 : stK (gameroomref_SumWays_L3 dice1 most1 l2 i2) nn3 (fun x => ((gameroomref_SumWays_K3 i2) x).bind φ2) = φ3 at hm
            unfold gameroomref_SumWays_L3 at hm
            dsimp only at hF hS hm
            refine seq_cut (fun a w => Fr 71 [pl 0 (.slice A1 dice1.length c1), pl 3 (.int .i64 most1), pl 5 (.slice A4 l2.length c4), pl 6 (.int .i64 i2), pl 7 (.slice A8 next2.length c8), pl 8 (.int .i64 s1)] a ∧ Sep w0 w0.heap.size w [own 3 (.slice A8 next2.length c8) (vI next2), own 3 (.slice A4 l2.length c4) (vI l2)] ∧ ((gameroomref_SumWays_J8 dice1 l2 i2 next2 s1)).bind φ3 = some r) ?_ ?_
            · rintro a w ⟨hF, hS, hm⟩
              unfold gameroomref_SumWays_J8 at hm
              refine seq_cut (fun a w => ∃ (next3 : List Int) (A9 : Option Addr) (c9 : Nat), Fr 71 [pl 0 (.slice A1 dice1.length c1), pl 3 (.int .i64 most1), pl 5 (.slice A4 l2.length c4), pl 6 (.int .i64 i2), pl 7 (.slice A9 next3.length c9), pl 8 (.int .i64 s1)] a ∧ Sep w0 w0.heap.size w [own 3 (.slice A9 next3.length c9) (vI next3), own 3 (.slice A4 l2.length c4) (vI l2)] ∧ ((gameroomref_SumWays_J9 s1) next3).bind φ3 = some r) ?_ ?_
              · rintro a w ⟨next3, A9, c9, hF, hS, hm⟩
                unfold gameroomref_SumWays_J9 at hm
                refine reg1 [] [] [0, 3, 5, 6, 7, 8] [pl 0 (.slice A1 dice1.length c1), pl 3 (.int .i64 most1), pl 5 (.slice A4 l2.length c4), pl 6 (.int .i64 i2), pl 7 (.slice A9 next3.length c9), pl 8 (.int .i64 (w64 (s1 + 1)))] hF hS Fol (by kernel_rfl) (by kernel_rfl) (by kernel_rfl) ?_ (fun a w hF hS => ?_)
                · exact obs_nil
                refine then_n ?_
                rw [← hφ3] at hm
                exact ⟨(next3, (w64 (s1 + 1))), ⟨A9, c9, hF.weak [0, 3, 5, 6, 7, 8] (by kernel_rfl), hS⟩, hm⟩
              · refine wp_block ?_
                refine reg [] [] [0, 3, 5, 6, 7, 8, 9] [pl 0 (.slice A1 dice1.length c1), pl 3 (.int .i64 most1), pl 5 (.slice A4 l2.length c4), pl 6 (.int .i64 i2), pl 7 (.slice A8 next2.length c8), pl 8 (.int .i64 s1), pl 9 (.int .i64 1)] hF hS Fol (by kernel_rfl) (by kernel_rfl) (by kernel_rfl) ?_ (fun a w hF hS => ?_)
                · exact obs_nil
                refine wp_block ?_
                refine wp_loop_model (S := (List Int × Int)) (R := (List Int)) (gameroomref_SumWays_L4 dice1 l2 i2 s1) (fun x => ((gameroomref_SumWays_K4 s1) x).bind φ3) r (fun (x : (List Int × Int)) a w => ∃ (A10 : Option Addr) (c10 : Nat), Fr 71 [pl 0 (.slice A1 dice1.length c1), pl 3 (.int .i64 most1), pl 5 (.slice A4 l2.length c4), pl 6 (.int .i64 i2), pl 7 (.slice A10 x.1.length c10), pl 8 (.int .i64 s1), pl 9 (.int .i64 x.2)] a ∧ Sep w0 w0.heap.size w [own 3 (.slice A10 x.1.length c10) (vI x.1), own 3 (.slice A4 l2.length c4) (vI l2)]) (assoc_b hm) ⟨A8, c8, hF.weak [0, 3, 5, 6, 7, 8, 9] (by kernel_rfl), hS⟩ ?_
                clear hF hS hm
                rintro nn4 ⟨next4, x1⟩ a w ⟨A10, c10, hF, hS⟩ hm
                generalize hφ4 : stK (gameroomref_SumWays_L4 dice1 l2 i2 s1) nn4 (fun x => ((gameroomref_SumWays_K4 s1) x).bind φ3) = φ4 at hm
                unfold gameroomref_SumWays_L4 at hm
                dsimp only at hF hS hm
                refine seq_cut (fun a w => Fr 71 [pl 0 (.slice A1 dice1.length c1), pl 3 (.int .i64 most1), pl 5 (.slice A4 l2.length c4), pl 6 (.int .i64 i2), pl 7 (.slice A10 next4.length c10), pl 8 (.int .i64 s1), pl 9 (.int .i64 x1)] a ∧ Sep w0 w0.heap.size w [own 3 (.slice A10 next4.length c10) (vI next4), own 3 (.slice A4 l2.length c4) (vI l2)] ∧ ((gameroomref_SumWays_J10 l2 s1 next4 x1)).bind φ4 = some r) ?_ ?_
                · rintro a w ⟨hF, hS, hm⟩
                  unfold gameroomref_SumWays_J10 at hm
                  refine seq_cut (fun a w => ∃ (next5 : List Int) (A11 : Option Addr) (c11 : Nat), Fr 71 [pl 0 (.slice A1 dice1.length c1), pl 3 (.int .i64 most1), pl 5 (.slice A4 l2.length c4), pl 6 (.int .i64 i2), pl 7 (.slice A11 next5.length c11), pl 8 (.int .i64 s1), pl 9 (.int .i64 x1)] a ∧ Sep w0 w0.heap.size w [own 3 (.slice A11 next5.length c11) (vI next5), own 3 (.slice A4 l2.length c4) (vI l2)] ∧ ((gameroomref_SumWays_J11 x1) next5).bind φ4 = some r) ?_ ?_
                  · rintro a w ⟨next5, A11, c11, hF, hS, hm⟩
                    unfold gameroomref_SumWays_J11 at hm
                    refine reg1 [] [] [0, 3, 5, 6, 7, 8, 9] [pl 0 (.slice A1 dice1.length c1), pl 3 (.int .i64 most1), pl 5 (.slice A4 l2.length c4), pl 6 (.int .i64 i2), pl 7 (.slice A11 next5.length c11), pl 8 (.int .i64 s1), pl 9 (.int .i64 (w64 (x1 + 1)))] hF hS Fol (by kernel_rfl) (by kernel_rfl) (by kernel_rfl) ?_ (fun a w hF hS => ?_)
                    · exact obs_nil
                    refine then_n ?_
                    rw [← hφ4] at hm
                    exact ⟨(next5, (w64 (x1 + 1))), ⟨A11, c11, hF.weak [0, 3, 5, 6, 7, 8, 9] (by kernel_rfl), hS⟩, hm⟩
                  · refine wp_block ?_
                    obtain ⟨hp6, hm⟩ := asrt_b hm
                    obtain ⟨hp7, hm⟩ := asrt_b hm
                    obtain ⟨hp8, hm⟩ := asrt_b hm
                    refine regMix2 [0, 1, 2, 3, 4, 5, 6, 7, 8, 9, 10, 11] [12] [⟨true, [], vS (Instr.indexAt 22 (.slice A10 next4.length c10) (.int .i64 s1)), .pointer (some (sAddr A10 s1))⟩, ⟨false, [], vS (Instr.loadAt 3 (.pointer (some (sAddr A10 s1)))), .int .i64 (geti next4 s1)⟩, ⟨true, [], vS (Instr.indexAt 22 (.slice A4 l2.length c4) (.int .i64 (w64 (s1 - x1)))), .pointer (some (sAddr A4 (w64 (s1 - x1))))⟩, ⟨false, [], vS (Instr.loadAt 3 (.pointer (some (sAddr A4 (w64 (s1 - x1)))))), .int .i64 (geti l2 (w64 (s1 - x1)))⟩, ⟨true, [], vS (Instr.indexAt 22 (.slice A10 next4.length c10) (.int .i64 s1)), .pointer (some (sAddr A10 s1))⟩] [none, none, some (.pointer (some (sAddr A10 s1))), some (.int .i64 (geti next4 s1)), none, none, none, none, some (.pointer (some (sAddr A4 (w64 (s1 - x1))))), some (.int .i64 (geti l2 (w64 (s1 - x1)))), none, some (.pointer (some (sAddr A10 s1)))] [0, 3, 5, 6, 7, 8, 9, 64, 65] [pl 0 (.slice A1 dice1.length c1), pl 3 (.int .i64 most1), pl 5 (.slice A4 l2.length c4), pl 6 (.int .i64 i2), pl 7 (.slice A10 next4.length c10), pl 8 (.int .i64 s1), pl 9 (.int .i64 x1), pl 64 (.int .i64 (w64 ((geti next4 s1) + (geti l2 (w64 (s1 - x1)))))), pl 65 (.pointer (some (sAddr A10 s1)))] hF hS Fol (by kernel_rfl) (by kernel_rfl) (by kernel_rfl) (by kernel_rfl) (by kernel_rfl) ?_ (fun a w hF hS => ?_)
                    · exact obs_cons (ob_ixI Und22 hi3 hs3 (hS.at_ 0 rfl).rd (fun _ => hp6)) <| obs_cons (ob_geti Agg3 (fun _ hS => ⟨_, (hS.at_ 0 rfl).rd⟩) (fun _ => hp6)) <| obs_cons (ob_ixI Und22 hi3 hs3 (hS.at_ 1 rfl).rd (fun _ => hp7)) <| obs_cons (ob_geti Agg3 (fun _ hS => ⟨_, (hS.at_ 1 rfl).rd⟩) (fun _ => hp7)) <| obs_cons (ob_ixI Und22 hi3 hs3 (hS.at_ 0 rfl).rd (fun _ => hp8)) <| obs_nil
                    obtain ⟨w, hrun, hS⟩ := run_setI (P := Try.prog) (t := 3) (x := w64 ((geti next4 s1) + (geti l2 (w64 (s1 - x1))))) (hS.at_ 0 rfl) hi3 hs3 hp8
                    refine at_skip hF (by kernel_rfl) hrun ?_
                    have hS : Sep w0 w0.heap.size w [own 3 (.slice A10 (next4.set (Int.toNat s1) (w64 ((geti next4 s1) + (geti l2 (w64 (s1 - x1)))))).length c10) (vI (next4.set (Int.toNat s1) (w64 ((geti next4 s1) + (geti l2 (w64 (s1 - x1))))))), own 3 (.slice A4 l2.length c4) (vI l2)] := hS
                    have hF := hF.cast (t := 7) (v := .slice A10 next4.length c10) (v' := .slice A10 (next4.set (Int.toNat s1) (w64 ((geti next4 s1) + (geti l2 (w64 (s1 - x1)))))).length c10) rfl rfl (by rw [List.length_set])
                    refine at_end [0, 3, 5, 6, 7, 8, 9] [pl 0 (.slice A1 dice1.length c1), pl 3 (.int .i64 most1), pl 5 (.slice A4 l2.length c4), pl 6 (.int .i64 i2), pl 7 (.slice A10 (next4.set (Int.toNat s1) (w64 ((geti next4 s1) + (geti l2 (w64 (s1 - x1)))))).length c10), pl 8 (.int .i64 s1), pl 9 (.int .i64 x1)] hF rfl (by kernel_rfl) (fun hF => ?_)
                    refine np_n ?_
                    refine block_n ?_
                    refine then_n ?_
                    exact ⟨(next4.set (Int.toNat s1) (w64 ((geti next4 s1) + (geti l2 (w64 (s1 - x1)))))), A10, c10, hF.weak [0, 3, 5, 6, 7, 8, 9] (by kernel_rfl), hS, hm⟩
                · obtain ⟨hp5, hm⟩ := asrt_b hm
                  refine reg [⟨true, [], vS (Instr.indexAt 22 (.slice A1 dice1.length c1) (.int .i64 i2)), .pointer (some (sAddr A1 i2))⟩, ⟨false, [], vS (Instr.loadAt 3 (.pointer (some (sAddr A1 i2)))), .int .i64 (geti dice1 i2)⟩] [none, none, none, some (.pointer (some (sAddr A1 i2))), some (.int .i64 (geti dice1 i2)), none, none, none, none, none, none] [0, 3, 5, 6, 7, 8, 9, 51] [pl 0 (.slice A1 dice1.length c1), pl 3 (.int .i64 most1), pl 5 (.slice A4 l2.length c4), pl 6 (.int .i64 i2), pl 7 (.slice A10 next4.length c10), pl 8 (.int .i64 s1), pl 9 (.int .i64 x1), pl 51 (.bool ((decide (x1 ≤ (geti dice1 i2))) && (decide (x1 ≤ s1))))] hF hS Fol (by kernel_rfl) (by kernel_rfl) (by kernel_rfl) ?_ (fun a w hF hS => ?_)
                  · exact obs_cons (ob_ixI Und22 hi3 hs3 (hr_dice1.sep hS) (fun _ => hp5)) <| obs_cons (ob_geti Agg3 (fun _ hS => ⟨_, (hr_dice1.sep hS)⟩) (fun _ => hp5)) <| obs_nil
                  refine cond_ev (t := 51) (b := (decide (x1 ≤ (geti dice1 i2))) && (decide (x1 ≤ s1))) hF (by kernel_rfl) (fun hb => ?_) (fun hb => ?_)
                  · replace hm := if_t hm hb
                    refine wp_skip ?_
                    refine then_n ?_
                    exact ⟨hF.weak [0, 3, 5, 6, 7, 8, 9] (by kernel_rfl), hS, hm⟩
                  · replace hm := if_f hm hb
                    refine wp_exit ?_
                    refine then_e (then_e (block_e (block_n (then_n ?_))))
                    rw [← hφ4] at hm
                    have hm : ((gameroomref_SumWays_J9 s1) next4).bind φ3 = some r := hm
                    exact ⟨next4, A10, c10, hF.weak [0, 3, 5, 6, 7, 8] (by kernel_rfl), hS, hm⟩
            · refine reg [] [] [0, 3, 5, 6, 7, 8, 38] [pl 0 (.slice A1 dice1.length c1), pl 3 (.int .i64 most1), pl 5 (.slice A4 l2.length c4), pl 6 (.int .i64 i2), pl 7 (.slice A8 next2.length c8), pl 8 (.int .i64 s1), pl 38 (.bool (decide (s1 ≤ most1)))] hF hS Fol (by kernel_rfl) (by kernel_rfl) (by kernel_rfl) ?_ (fun a w hF hS => ?_)
              · exact obs_nil
              refine cond_ev (t := 38) (b := decide (s1 ≤ most1)) hF (by kernel_rfl) (fun hb => ?_) (fun hb => ?_)
              · replace hm := if_t hm hb
                refine wp_skip ?_
                refine then_n ?_
                exact ⟨hF.weak [0, 3, 5, 6, 7, 8] (by kernel_rfl), hS, hm⟩
              · replace hm := if_f hm hb
                refine wp_exit ?_
                refine then_e (then_e (block_e (then_n ?_)))
                have hS := hS.pick [0] (by decide)
                rw [← hφ3] at hm
                have hm : ((gameroomref_SumWays_J7 i2) next2).bind φ2 = some r := hm
                exact ⟨next2, A8, c8, hF.weak [0, 3, 6, 7] (by kernel_rfl), hS, hm⟩
      · refine reg [] [] [0, 3, 5, 6, 30] [pl 0 (.slice A1 dice1.length c1), pl 3 (.int .i64 most1), pl 5 (.slice A4 l2.length c4), pl 6 (.int .i64 i2), pl 30 (.bool (decide (i2 < (dice1.length : Int))))] hF hS Fol (by kernel_rfl) (by kernel_rfl) (by kernel_rfl) ?_ (fun a w hF hS => ?_)
        · exact obs_nil
        refine cond_ev (t := 30) (b := decide (i2 < (dice1.length : Int))) hF (by kernel_rfl) (fun hb => ?_) (fun hb => ?_)
        · replace hm := if_t hm hb
          refine wp_skip ?_
          refine then_n ?_
          exact ⟨hF.weak [0, 3, 5, 6] (by kernel_rfl), hS, hm⟩
        · replace hm := if_f hm hb
          refine wp_exit ?_
          refine then_e (then_e (block_e (then_n ?_)))
          rw [← hφ2] at hm
          have hm : ((gameroomref_SumWays_J4 dice1) l2).bind some = some r := hm
          exact ⟨l2, A4, c4, hF.weak [0, 5] (by kernel_rfl), hS, hm⟩
  · refine reg [] [] [0, 3, 4] [pl 0 (.slice A1 dice1.length c1), pl 3 (.int .i64 0), pl 4 (.int .i64 0)] hF hS Fol (by kernel_rfl) (by kernel_rfl) (by kernel_rfl) ?_ (fun a w hF hS => ?_)
    · exact obs_nil
    refine wp_block ?_
    refine wp_loop_model (S := (Int × Int)) (R := Int) (gameroomref_SumWays_L1 dice1) (fun x => ((gameroomref_SumWays_K1 dice1) x).bind some) r (fun (x : (Int × Int)) a w => Fr 71 [pl 0 (.slice A1 dice1.length c1), pl 3 (.int .i64 x.1), pl 4 (.int .i64 x.2)] a ∧ Sep w0 w0.heap.size w []) (assoc_b hm) ⟨hF.weak [0, 3, 4] (by kernel_rfl), hS⟩ ?_
    clear hF hS hm
    rintro nn1 ⟨most2, i1⟩ a w ⟨hF, hS⟩ hm
    generalize hφ1 : stK (gameroomref_SumWays_L1 dice1) nn1 (fun x => ((gameroomref_SumWays_K1 dice1) x).bind some) = φ1 at hm
    unfold gameroomref_SumWays_L1 at hm
    dsimp only at hF hS hm
    refine seq_cut (fun a w => Fr 71 [pl 0 (.slice A1 dice1.length c1), pl 3 (.int .i64 most2), pl 4 (.int .i64 i1)] a ∧ Sep w0 w0.heap.size w [] ∧ ((gameroomref_SumWays_J2 dice1 most2 i1)).bind φ1 = some r) ?_ ?_
    · rintro a w ⟨hF, hS, hm⟩
      unfold gameroomref_SumWays_J2 at hm
      refine seq_cut (fun a w => ∃ (most3 : Int), Fr 71 [pl 0 (.slice A1 dice1.length c1), pl 3 (.int .i64 most3), pl 4 (.int .i64 i1)] a ∧ Sep w0 w0.heap.size w [] ∧ ((gameroomref_SumWays_J3 i1) most3).bind φ1 = some r) ?_ ?_
      · rintro a w ⟨most3, hF, hS, hm⟩
        unfold gameroomref_SumWays_J3 at hm
        refine reg1 [] [] [0, 3, 4] [pl 0 (.slice A1 dice1.length c1), pl 3 (.int .i64 most3), pl 4 (.int .i64 (w64 (i1 + 1)))] hF hS Fol (by kernel_rfl) (by kernel_rfl) (by kernel_rfl) ?_ (fun a w hF hS => ?_)
        · exact obs_nil
        refine then_n ?_
        rw [← hφ1] at hm
        exact ⟨(most3, (w64 (i1 + 1))), ⟨hF.weak [0, 3, 4] (by kernel_rfl), hS⟩, hm⟩
      · refine wp_block ?_
        obtain ⟨hp1, hm⟩ := asrt_b hm
        refine reg1 [⟨true, [], vS (Instr.indexAt 22 (.slice A1 dice1.length c1) (.int .i64 i1)), .pointer (some (sAddr A1 i1))⟩, ⟨false, [], vS (Instr.loadAt 3 (.pointer (some (sAddr A1 i1)))), .int .i64 (geti dice1 i1)⟩] [none, none, none, some (.pointer (some (sAddr A1 i1))), some (.int .i64 (geti dice1 i1)), none, none] [0, 3, 4] [pl 0 (.slice A1 dice1.length c1), pl 3 (.int .i64 (w64 (most2 + (geti dice1 i1)))), pl 4 (.int .i64 i1)] hF hS Fol (by kernel_rfl) (by kernel_rfl) (by kernel_rfl) ?_ (fun a w hF hS => ?_)
        · exact obs_cons (ob_ixI Und22 hi3 hs3 (hr_dice1.sep hS) (fun _ => hp1)) <| obs_cons (ob_geti Agg3 (fun _ hS => ⟨_, (hr_dice1.sep hS)⟩) (fun _ => hp1)) <| obs_nil
        refine block_n ?_
        refine then_n ?_
        exact ⟨(w64 (most2 + (geti dice1 i1))), hF.weak [0, 3, 4] (by kernel_rfl), hS, hm⟩
    · refine reg [] [] [0, 3, 4, 13] [pl 0 (.slice A1 dice1.length c1), pl 3 (.int .i64 most2), pl 4 (.int .i64 i1), pl 13 (.bool (decide (i1 < (dice1.length : Int))))] hF hS Fol (by kernel_rfl) (by kernel_rfl) (by kernel_rfl) ?_ (fun a w hF hS => ?_)
      · exact obs_nil
      refine cond_ev (t := 13) (b := decide (i1 < (dice1.length : Int))) hF (by kernel_rfl) (fun hb => ?_) (fun hb => ?_)
      · replace hm := if_t hm hb
        refine wp_skip ?_
        refine then_n ?_
        exact ⟨hF.weak [0, 3, 4] (by kernel_rfl), hS, hm⟩
      · replace hm := if_f hm hb
        refine wp_exit ?_
        refine then_e (then_e (block_e (then_n ?_)))
        rw [← hφ1] at hm
        have hm : ((gameroomref_SumWays_J1 dice1) most2).bind some = some r := hm
        exact ⟨most2, hF.weak [0, 3] (by kernel_rfl), hS, hm⟩

noncomputable def gameroomref_within_m (n1 : Int) (low1 : Int) (high1 : Int) : Option Bool :=
  some ((decide (low1 ≤ n1)) && (decide (n1 ≤ high1)))

set_option maxRecDepth 100000 in
set_option maxHeartbeats 4000000 in
theorem gameroomref_within_w {n1 : Int} {low1 : Int} {high1 : Int} {r : Bool} {w0 : World} (hm : gameroomref_within_m n1 low1 high1 = some r) :
    Calls Try.prog 60 #[.int .i64 n1, .int .i64 low1, .int .i64 high1] w0 fun e w' => e = .returned (.bool r) ∧ Sep w0 w0.heap.size w' [] := by
  unfold gameroomref_within_m at hm
  replace hm := start_b hm
  refine enterS (l := [.int .i64 n1, .int .i64 low1, .int .i64 high1]) (n := 15) Try.func60 rfl rfl (by simp) (fun a w hF hS => ?_)
  refine reg [] [] [0, 1, 2] [pl 0 (.int .i64 n1), pl 1 (.int .i64 low1), pl 2 (.int .i64 high1)] hF hS Fol (by kernel_rfl) (by kernel_rfl) (by kernel_rfl) ?_ (fun a w hF hS => ?_)
  · exact obs_nil
  refine reg [] [] [6] [pl 6 (.bool ((decide (low1 ≤ n1)) && (decide (n1 ≤ high1))))] hF hS Fol (by kernel_rfl) (by kernel_rfl) (by kernel_rfl) ?_ (fun a w hF hS => ?_)
  · exact obs_nil
  refine wp_ret ?_
  have hm : some ((decide (low1 ≤ n1)) && (decide (n1 ≤ high1))) = some r := hm
  obtain rfl := Option.some.inj hm
  exact retV (rs := [.tmp 6]) (vs := [.bool ((decide (low1 ≤ n1)) && (decide (n1 ≤ high1)))]) hF rfl (rv_t (by kernel_rfl) <| rv_nil) rfl ⟨rfl, hS⟩

noncomputable def gameroomref_DiceMay_J2 : Option Int :=
  some 0

noncomputable def gameroomref_DiceMay_K1 : (Fl Unit Int) → Option Int :=
  fun (x : (Fl Unit Int)) => match x with | .go () => gameroomref_DiceMay_J2 | .ret x => some x

noncomputable def gameroomref_DiceMay_J4 (i1 : Int) : Option (St Int (Fl Unit Int)) :=
  some (.next (w64 (i1 + 1)))

noncomputable def gameroomref_DiceMay_J3 (dice1 : List Int) (i1 : Int) : Option (St Int (Fl Unit Int)) :=
  asrt (0 ≤ i1 ∧ i1 < (dice1.length : Int)) <| (gameroomref_within_m (geti dice1 i1) 1 20).bind fun r2 => if (!r2) then (some (.done (.ret 3))) else ((gameroomref_DiceMay_J4 i1))

noncomputable def gameroomref_DiceMay_L1 (dice1 : List Int) : Int → Option (St Int (Fl Unit Int)) :=
  fun (x : Int) => match x with | i1 => if (decide (i1 < (dice1.length : Int))) then ((gameroomref_DiceMay_J3 dice1 i1)) else (some (.done (.go ())))

noncomputable def gameroomref_DiceMay_J1 (dice1 : List Int) : Option Int :=
  (loop (gameroomref_DiceMay_L1 dice1) 0).bind gameroomref_DiceMay_K1

noncomputable def gameroomref_DiceMay_m (dice1 : List Int) : Option Int :=
  (gameroomref_within_m (dice1.length : Int) 1 10).bind fun r1 => if (!r1) then (some 2) else ((gameroomref_DiceMay_J1 dice1))

set_option maxRecDepth 100000 in
set_option maxHeartbeats 4000000 in
theorem gameroomref_DiceMay_w {A1 : Option Addr} {c1 : Nat} {dice1 : List Int} {r : Int} {w0 : World} (hm : gameroomref_DiceMay_m dice1 = some r) (hr_dice1 : Rd w0 w0.heap.size A1 (vI dice1)) (_hc_dice1 : dice1.length ≤ c1) :
    Calls Try.prog 44 #[.slice A1 dice1.length c1] w0 fun e w' => e = .returned (.int .i64 r) ∧ Sep w0 w0.heap.size w' [] := by
  obtain ⟨i3, hi3, hz3, hs3, hb3⟩ := info_parts Info3
  unfold gameroomref_DiceMay_m at hm
  replace hm := start_b hm
  refine enterS (l := [.slice A1 dice1.length c1]) (n := 20) Try.func44 rfl rfl (by simp) (fun a w hF hS => ?_)
  refine reg [] [] [0] [pl 0 (.slice A1 dice1.length c1)] hF hS Fol (by kernel_rfl) (by kernel_rfl) (by kernel_rfl) ?_ (fun a w hF hS => ?_)
  · exact obs_nil
  refine seq_cut (fun a w => Fr 20 [pl 0 (.slice A1 dice1.length c1)] a ∧ Sep w0 w0.heap.size w [] ∧ ((gameroomref_DiceMay_J1 dice1)).bind some = some r) ?_ ?_
  · rintro a w ⟨hF, hS, hm⟩
    unfold gameroomref_DiceMay_J1 at hm
    refine seq_cut (fun a w => Fr 20 [] a ∧ Sep w0 w0.heap.size w [] ∧ (gameroomref_DiceMay_J2).bind some = some r) ?_ ?_
    · rintro a w ⟨hF, hS, hm⟩
      unfold gameroomref_DiceMay_J2 at hm
      refine reg [] [] [2] [pl 2 (.int .i64 0)] hF hS Fol (by kernel_rfl) (by kernel_rfl) (by kernel_rfl) ?_ (fun a w hF hS => ?_)
      · exact obs_nil
      refine wp_ret ?_
      have hm : some 0 = some r := hm
      obtain rfl := Option.some.inj hm
      exact retV (rs := [.tmp 2]) (vs := [.int .i64 0]) hF rfl (rv_t (by kernel_rfl) <| rv_nil) rfl ⟨rfl, hS⟩
    · refine reg [] [] [0, 3] [pl 0 (.slice A1 dice1.length c1), pl 3 (.int .i64 0)] hF hS Fol (by kernel_rfl) (by kernel_rfl) (by kernel_rfl) ?_ (fun a w hF hS => ?_)
      · exact obs_nil
      refine wp_block ?_
      refine wp_loop_model (S := Int) (R := (Fl Unit Int)) (gameroomref_DiceMay_L1 dice1) (fun x => (gameroomref_DiceMay_K1 x).bind some) r (fun (x : Int) a w => Fr 20 [pl 0 (.slice A1 dice1.length c1), pl 3 (.int .i64 x)] a ∧ Sep w0 w0.heap.size w []) (assoc_b hm) ⟨hF.weak [0, 3] (by kernel_rfl), hS⟩ ?_
      clear hF hS hm
      rintro nn1 i1 a w ⟨hF, hS⟩ hm
      generalize hφ1 : stK (gameroomref_DiceMay_L1 dice1) nn1 (fun x => (gameroomref_DiceMay_K1 x).bind some) = φ1 at hm
      unfold gameroomref_DiceMay_L1 at hm
      dsimp only at hm
      refine seq_cut (fun a w => Fr 20 [pl 0 (.slice A1 dice1.length c1), pl 3 (.int .i64 i1)] a ∧ Sep w0 w0.heap.size w [] ∧ ((gameroomref_DiceMay_J3 dice1 i1)).bind φ1 = some r) ?_ ?_
      · rintro a w ⟨hF, hS, hm⟩
        unfold gameroomref_DiceMay_J3 at hm
        refine seq_cut (fun a w => Fr 20 [pl 0 (.slice A1 dice1.length c1), pl 3 (.int .i64 i1)] a ∧ Sep w0 w0.heap.size w [] ∧ ((gameroomref_DiceMay_J4 i1)).bind φ1 = some r) ?_ ?_
        · rintro a w ⟨hF, hS, hm⟩
          unfold gameroomref_DiceMay_J4 at hm
          refine reg1 [] [] [0, 3] [pl 0 (.slice A1 dice1.length c1), pl 3 (.int .i64 (w64 (i1 + 1)))] hF hS Fol (by kernel_rfl) (by kernel_rfl) (by kernel_rfl) ?_ (fun a w hF hS => ?_)
          · exact obs_nil
          refine then_n ?_
          rw [← hφ1] at hm
          exact ⟨(w64 (i1 + 1)), ⟨hF.weak [0, 3] (by kernel_rfl), hS⟩, hm⟩
        · refine wp_block ?_
          obtain ⟨hp1, hm⟩ := asrt_b hm
          obtain ⟨r2, hr2, hm⟩ := call_b hm
          refine reg [⟨true, [], vS (Instr.indexAt 22 (.slice A1 dice1.length c1) (.int .i64 i1)), .pointer (some (sAddr A1 i1))⟩, ⟨false, [], vS (Instr.loadAt 3 (.pointer (some (sAddr A1 i1)))), .int .i64 (geti dice1 i1)⟩, ⟨false, [], callFunc 60 #[.int .i64 (geti dice1 i1), .int .i64 1, .int .i64 20], .bool r2⟩] [none, none, some (.pointer (some (sAddr A1 i1))), some (.int .i64 (geti dice1 i1)), some (.bool r2), none] [0, 3, 19] [pl 0 (.slice A1 dice1.length c1), pl 3 (.int .i64 i1), pl 19 (.bool (!r2))] hF hS Fol (by kernel_rfl) (by kernel_rfl) (by kernel_rfl) ?_ (fun a w hF hS => ?_)
          · exact obs_cons (ob_ixI Und22 hi3 hs3 (hr_dice1.sep hS) (fun _ => hp1)) <| obs_cons (ob_geti Agg3 (fun _ hS => ⟨_, (hr_dice1.sep hS)⟩) (fun _ => hp1)) <| obs_cons (ob_call Try.func60 (by kernel_rfl) rfl (fun _ _ hS => quiet_of hS (gameroomref_within_w hr2 ))) <| obs_nil
          refine cond_ev (t := 19) (b := !r2) hF (by kernel_rfl) (fun hb => ?_) (fun hb => ?_)
          · replace hm := if_t hm hb
            refine reg [] [] [2] [pl 2 (.int .i64 3)] hF hS Fol (by kernel_rfl) (by kernel_rfl) (by kernel_rfl) ?_ (fun a w hF hS => ?_)
            · exact obs_nil
            refine wp_ret ?_
            refine block_r (then_r (then_r (block_r (then_r ?_))))
            rw [← hφ1] at hm
            have hm : some 3 = some r := hm
            obtain rfl := Option.some.inj hm
            exact retV (rs := [.tmp 2]) (vs := [.int .i64 3]) hF rfl (rv_t (by kernel_rfl) <| rv_nil) rfl ⟨rfl, hS⟩
          · replace hm := if_f hm hb
            refine wp_skip ?_
            refine block_n ?_
            refine then_n ?_
            exact ⟨hF.weak [0, 3] (by kernel_rfl), hS, hm⟩
      · refine reg [] [] [0, 3, 11] [pl 0 (.slice A1 dice1.length c1), pl 3 (.int .i64 i1), pl 11 (.bool (decide (i1 < (dice1.length : Int))))] hF hS Fol (by kernel_rfl) (by kernel_rfl) (by kernel_rfl) ?_ (fun a w hF hS => ?_)
        · exact obs_nil
        refine cond_ev (t := 11) (b := decide (i1 < (dice1.length : Int))) hF (by kernel_rfl) (fun hb => ?_) (fun hb => ?_)
        · replace hm := if_t hm hb
          refine wp_skip ?_
          refine then_n ?_
          exact ⟨hF.weak [0, 3] (by kernel_rfl), hS, hm⟩
        · replace hm := if_f hm hb
          refine wp_exit ?_
          refine then_e (then_e (block_e (then_n ?_)))
          rw [← hφ1] at hm
          have hm : (gameroomref_DiceMay_J2).bind some = some r := hm
          exact ⟨hF.weak [] (by kernel_rfl), hS, hm⟩
  · obtain ⟨r1, hr1, hm⟩ := call_b hm
    refine reg [⟨false, [], callFunc 60 #[.int .i64 (dice1.length : Int), .int .i64 1, .int .i64 10], .bool r1⟩] [none, none, some (.bool r1), none] [0, 7] [pl 0 (.slice A1 dice1.length c1), pl 7 (.bool (!r1))] hF hS Fol (by kernel_rfl) (by kernel_rfl) (by kernel_rfl) ?_ (fun a w hF hS => ?_)
    · exact obs_cons (ob_call Try.func60 (by kernel_rfl) rfl (fun _ _ hS => quiet_of hS (gameroomref_within_w hr1 ))) <| obs_nil
    refine cond_ev (t := 7) (b := !r1) hF (by kernel_rfl) (fun hb => ?_) (fun hb => ?_)
    · replace hm := if_t hm hb
      refine reg [] [] [2] [pl 2 (.int .i64 2)] hF hS Fol (by kernel_rfl) (by kernel_rfl) (by kernel_rfl) ?_ (fun a w hF hS => ?_)
      · exact obs_nil
      refine wp_ret ?_
      refine then_r ?_
      have hm : some 2 = some r := hm
      obtain rfl := Option.some.inj hm
      exact retV (rs := [.tmp 2]) (vs := [.int .i64 2]) hF rfl (rv_t (by kernel_rfl) <| rv_nil) rfl ⟨rfl, hS⟩
    · replace hm := if_f hm hb
      refine wp_skip ?_
      refine then_n ?_
      exact ⟨hF.weak [0] (by kernel_rfl), hS, hm⟩

noncomputable def dice_Duel_J8 (z3 : Int) (wins8 : Int) (ties8 : Int) (losses8 : Int) : Option (St (Int × Int × Int × Int) (Int × Int × Int)) :=
  some (.next (wins8, ties8, losses8, (w64 (z3 + 1))))

noncomputable def dice_Duel_J7 (a1 : List Int) (b1 : List Int) (z2 : Int) (wins7 : Int) (ties7 : Int) (losses7 : Int) (z3 : Int) : Option (St (Int × Int × Int × Int) (Int × Int × Int)) :=
  asrt (0 ≤ z3 ∧ z3 < (b1.length : Int)) <| if (decide ((geti b1 z3) < (geti a1 z2))) then ((dice_Duel_J8 z3) (w64 (wins7 + 1)) ties7 losses7) else (if ((geti a1 z2) == (geti b1 z3)) then ((dice_Duel_J8 z3) wins7 (w64 (ties7 + 1)) losses7) else ((dice_Duel_J8 z3) wins7 ties7 (w64 (losses7 + 1))))

noncomputable def dice_Duel_L3 (a1 : List Int) (b1 : List Int) (z2 : Int) : (Int × Int × Int × Int) → Option (St (Int × Int × Int × Int) (Int × Int × Int)) :=
  fun (x : (Int × Int × Int × Int)) => match x with | (wins7, ties7, losses7, z3) => if (decide (z3 < (b1.length : Int))) then ((dice_Duel_J7 a1 b1 z2 wins7 ties7 losses7 z3)) else (some (.done (wins7, ties7, losses7)))

noncomputable def dice_Duel_J6 (z2 : Int) (wins6 : Int) (ties6 : Int) (losses6 : Int) : Option (St (Int × Int × Int × Int) (Int × Int × Int)) :=
  some (.next (wins6, ties6, losses6, (w64 (z2 + 1))))

noncomputable def dice_Duel_K3 (z2 : Int) : (Int × Int × Int) → Option (St (Int × Int × Int × Int) (Int × Int × Int)) :=
  fun (x : (Int × Int × Int)) => match x with | (wins6, ties6, losses6) => (dice_Duel_J6 z2) wins6 ties6 losses6

noncomputable def dice_Duel_J5 (a1 : List Int) (b1 : List Int) (wins5 : Int) (ties5 : Int) (losses5 : Int) (z2 : Int) : Option (St (Int × Int × Int × Int) (Int × Int × Int)) :=
  asrt (0 ≤ z2 ∧ z2 < (a1.length : Int)) <| (loop (dice_Duel_L3 a1 b1 z2) (wins5, ties5, losses5, 0)).bind (dice_Duel_K3 z2)

noncomputable def dice_Duel_L2 (a1 : List Int) (b1 : List Int) : (Int × Int × Int × Int) → Option (St (Int × Int × Int × Int) (Int × Int × Int)) :=
  fun (x : (Int × Int × Int × Int)) => match x with | (wins5, ties5, losses5, z2) => if (decide (z2 < (a1.length : Int))) then ((dice_Duel_J5 a1 b1 wins5 ties5 losses5 z2)) else (some (.done (wins5, ties5, losses5)))

noncomputable def dice_Duel_J4 (wins4 : Int) (ties4 : Int) (losses4 : Int) : Option (Int × Int × Int × Int) :=
  some (wins4, ties4, losses4, 0)

noncomputable def dice_Duel_K2 : (Int × Int × Int) → Option (Int × Int × Int × Int) :=
  fun (x : (Int × Int × Int)) => match x with | (wins4, ties4, losses4) => dice_Duel_J4 wins4 ties4 losses4

noncomputable def dice_Duel_J1 (a1 : List Int) (b1 : List Int) (wins1 : Int) (ties1 : Int) (losses1 : Int) : Option (Int × Int × Int × Int) :=
  (loop (dice_Duel_L2 a1 b1) (wins1, ties1, losses1, 0)).bind dice_Duel_K2

noncomputable def dice_Duel_K1 (a1 : List Int) (b1 : List Int) : (Fl (Int × Int × Int) (Int × Int × Int × Int)) → Option (Int × Int × Int × Int) :=
  fun (x : (Fl (Int × Int × Int) (Int × Int × Int × Int))) => match x with | .go (wins1, ties1, losses1) => (dice_Duel_J1 a1 b1) wins1 ties1 losses1 | .ret x => some x

noncomputable def dice_Duel_J3 (z1 : Int) (wins3 : Int) (ties3 : Int) (losses3 : Int) : Option (St (Int × Int × Int × Int) (Fl (Int × Int × Int) (Int × Int × Int × Int))) :=
  some (.next (wins3, ties3, losses3, (w64 (z1 + 1))))

noncomputable def dice_Duel_J2 (a1 : List Int) (b1 : List Int) (wins2 : Int) (ties2 : Int) (losses2 : Int) (z1 : Int) : Option (St (Int × Int × Int × Int) (Fl (Int × Int × Int) (Int × Int × Int × Int))) :=
  asrt (0 ≤ z1 ∧ z1 < (([a1, b1] : List (List Int)).length : Int)) <| if ((decide (((geti2 ([a1, b1] : List (List Int)) z1).length : Int) < 1)) || (decide ((20 : Int) < ((geti2 ([a1, b1] : List (List Int)) z1).length : Int)))) then (some (.done (.ret (0, 0, 0, 3)))) else ((dice_Duel_J3 z1) wins2 ties2 losses2)

noncomputable def dice_Duel_L1 (a1 : List Int) (b1 : List Int) : (Int × Int × Int × Int) → Option (St (Int × Int × Int × Int) (Fl (Int × Int × Int) (Int × Int × Int × Int))) :=
  fun (x : (Int × Int × Int × Int)) => match x with | (wins2, ties2, losses2, z1) => if (decide (z1 < (([a1, b1] : List (List Int)).length : Int))) then ((dice_Duel_J2 a1 b1 wins2 ties2 losses2 z1)) else (some (.done (.go (wins2, ties2, losses2))))

noncomputable def dice_Duel_m (a1 : List Int) (b1 : List Int) : Option (Int × Int × Int × Int) :=
  (loop (dice_Duel_L1 a1 b1) (0, 0, 0, 0)).bind (dice_Duel_K1 a1 b1)

set_option maxRecDepth 100000 in
set_option maxHeartbeats 4000000 in
theorem dice_Duel_w {A1 : Option Addr} {c1 : Nat} {a1 : List Int} {A2 : Option Addr} {c2 : Nat} {b1 : List Int} {r : (Int × Int × Int × Int)} {w0 : World} (hm : dice_Duel_m a1 b1 = some r) (hr_a1 : Rd w0 w0.heap.size A1 (vI a1)) (_hc_a1 : a1.length ≤ c1) (hr_b1 : Rd w0 w0.heap.size A2 (vI b1)) (_hc_b1 : b1.length ≤ c2) :
    Calls Try.prog 43 #[.slice A1 a1.length c1, .slice A2 b1.length c2] w0 fun e w' => e = .returned (.tuple #[.int .i64 r.1, .int .i64 r.2.1, .int .i64 r.2.2.1, .int .i64 r.2.2.2]) ∧ Sep w0 w0.heap.size w' [] := by
  obtain ⟨i3, hi3, hz3, hs3, hb3⟩ := info_parts Info3
  obtain ⟨i22, hi22, hz22, hs22, hb22⟩ := info_parts Info22
  unfold dice_Duel_m at hm
  replace hm := start_b hm
  refine enterS (l := [.slice A1 a1.length c1, .slice A2 b1.length c2]) (n := 62) Try.func43 rfl rfl (by simp) (fun a w hF hS => ?_)
  refine reg [] [] [0, 1, 4, 5, 6] [pl 0 (.slice A1 a1.length c1), pl 1 (.slice A2 b1.length c2), pl 4 (.int .i64 0), pl 5 (.int .i64 0), pl 6 (.int .i64 0)] hF hS Fol (by kernel_rfl) (by kernel_rfl) (by kernel_rfl) ?_ (fun a w hF hS => ?_)
  · exact obs_nil
  refine seq_cut (fun a w => ∃ (wins1 : Int) (ties1 : Int) (losses1 : Int), Fr 62 [pl 0 (.slice A1 a1.length c1), pl 1 (.slice A2 b1.length c2), pl 4 (.int .i64 wins1), pl 5 (.int .i64 ties1), pl 6 (.int .i64 losses1)] a ∧ Sep w0 w0.heap.size w [] ∧ ((dice_Duel_J1 a1 b1) wins1 ties1 losses1).bind some = some r) ?_ ?_
  · rintro a w ⟨wins1, ties1, losses1, hF, hS, hm⟩
    unfold dice_Duel_J1 at hm
    refine seq_cut (fun a w => ∃ (wins4 : Int) (ties4 : Int) (losses4 : Int), Fr 62 [pl 4 (.int .i64 wins4), pl 5 (.int .i64 ties4), pl 6 (.int .i64 losses4)] a ∧ Sep w0 w0.heap.size w [] ∧ (dice_Duel_J4 wins4 ties4 losses4).bind some = some r) ?_ ?_
    · rintro a w ⟨wins4, ties4, losses4, hF, hS, hm⟩
      unfold dice_Duel_J4 at hm
      refine reg [] [] [4, 5, 6, 7] [pl 4 (.int .i64 wins4), pl 5 (.int .i64 ties4), pl 6 (.int .i64 losses4), pl 7 (.int .i64 0)] hF hS Fol (by kernel_rfl) (by kernel_rfl) (by kernel_rfl) ?_ (fun a w hF hS => ?_)
      · exact obs_nil
      refine wp_ret ?_
      have hm : some (wins4, ties4, losses4, 0) = some r := hm
      obtain rfl := Option.some.inj hm
      exact retV (rs := [.tmp 4, .tmp 5, .tmp 6, .tmp 7]) (vs := [.int .i64 wins4, .int .i64 ties4, .int .i64 losses4, .int .i64 0]) hF rfl (rv_t (by kernel_rfl) <| rv_t (by kernel_rfl) <| rv_t (by kernel_rfl) <| rv_t (by kernel_rfl) <| rv_nil) rfl ⟨rfl, hS⟩
    · refine reg [] [] [1, 4, 5, 6, 31, 32, 33] [pl 1 (.slice A2 b1.length c2), pl 4 (.int .i64 wins1), pl 5 (.int .i64 ties1), pl 6 (.int .i64 losses1), pl 31 (.slice A1 a1.length c1), pl 32 (.int .i64 (a1.length : Int)), pl 33 (.int .i64 0)] hF hS Fol (by kernel_rfl) (by kernel_rfl) (by kernel_rfl) ?_ (fun a w hF hS => ?_)
      · exact obs_nil
      refine wp_block ?_
      refine wp_loop_model (S := (Int × Int × Int × Int)) (R := (Int × Int × Int)) (dice_Duel_L2 a1 b1) (fun x => (dice_Duel_K2 x).bind some) r (fun (x : (Int × Int × Int × Int)) a w => Fr 62 [pl 1 (.slice A2 b1.length c2), pl 4 (.int .i64 x.1), pl 5 (.int .i64 x.2.1), pl 6 (.int .i64 x.2.2.1), pl 31 (.slice A1 a1.length c1), pl 32 (.int .i64 (a1.length : Int)), pl 33 (.int .i64 x.2.2.2)] a ∧ Sep w0 w0.heap.size w []) (assoc_b hm) ⟨hF.weak [1, 4, 5, 6, 31, 32, 33] (by kernel_rfl), hS⟩ ?_
      clear hF hS hm
      rintro nn2 ⟨wins5, ties5, losses5, z2⟩ a w ⟨hF, hS⟩ hm
      generalize hφ2 : stK (dice_Duel_L2 a1 b1) nn2 (fun x => (dice_Duel_K2 x).bind some) = φ2 at hm
      unfold dice_Duel_L2 at hm
      dsimp only at hF hS hm
      refine reg [] [] [1, 4, 5, 6, 31, 32, 33, 34] [pl 1 (.slice A2 b1.length c2), pl 4 (.int .i64 wins5), pl 5 (.int .i64 ties5), pl 6 (.int .i64 losses5), pl 31 (.slice A1 a1.length c1), pl 32 (.int .i64 (a1.length : Int)), pl 33 (.int .i64 z2), pl 34 (.bool (decide (z2 < (a1.length : Int))))] hF hS Fol (by kernel_rfl) (by kernel_rfl) (by kernel_rfl) ?_ (fun a w hF hS => ?_)
      · exact obs_nil
      refine seq_cut (fun a w => Fr 62 [pl 1 (.slice A2 b1.length c2), pl 4 (.int .i64 wins5), pl 5 (.int .i64 ties5), pl 6 (.int .i64 losses5), pl 31 (.slice A1 a1.length c1), pl 32 (.int .i64 (a1.length : Int)), pl 33 (.int .i64 z2)] a ∧ Sep w0 w0.heap.size w [] ∧ ((dice_Duel_J5 a1 b1 wins5 ties5 losses5 z2)).bind φ2 = some r) ?_ ?_
      · rintro a w ⟨hF, hS, hm⟩
        unfold dice_Duel_J5 at hm
        refine seq_cut (fun a w => ∃ (wins6 : Int) (ties6 : Int) (losses6 : Int), Fr 62 [pl 1 (.slice A2 b1.length c2), pl 4 (.int .i64 wins6), pl 5 (.int .i64 ties6), pl 6 (.int .i64 losses6), pl 31 (.slice A1 a1.length c1), pl 32 (.int .i64 (a1.length : Int)), pl 33 (.int .i64 z2)] a ∧ Sep w0 w0.heap.size w [] ∧ ((dice_Duel_J6 z2) wins6 ties6 losses6).bind φ2 = some r) ?_ ?_
        · rintro a w ⟨wins6, ties6, losses6, hF, hS, hm⟩
          unfold dice_Duel_J6 at hm
          refine reg1 [] [] [1, 4, 5, 6, 31, 32, 33] [pl 1 (.slice A2 b1.length c2), pl 4 (.int .i64 wins6), pl 5 (.int .i64 ties6), pl 6 (.int .i64 losses6), pl 31 (.slice A1 a1.length c1), pl 32 (.int .i64 (a1.length : Int)), pl 33 (.int .i64 (w64 (z2 + 1)))] hF hS Fol (by kernel_rfl) (by kernel_rfl) (by kernel_rfl) ?_ (fun a w hF hS => ?_)
          · exact obs_nil
          refine then_n ?_
          rw [← hφ2] at hm
          exact ⟨(wins6, ties6, losses6, (w64 (z2 + 1))), ⟨hF.weak [1, 4, 5, 6, 31, 32, 33] (by kernel_rfl), hS⟩, hm⟩
        · refine wp_block ?_
          obtain ⟨hp2, hm⟩ := asrt_b hm
          refine reg [⟨true, [], vS (Instr.indexAt 22 (.slice A1 a1.length c1) (.int .i64 z2)), .pointer (some (sAddr A1 z2))⟩, ⟨false, [], vS (Instr.loadAt 3 (.pointer (some (sAddr A1 z2)))), .int .i64 (geti a1 z2)⟩] [some (.pointer (some (sAddr A1 z2))), some (.int .i64 (geti a1 z2)), none] [1, 4, 5, 6, 11, 31, 32, 33] [pl 1 (.slice A2 b1.length c2), pl 4 (.int .i64 wins5), pl 5 (.int .i64 ties5), pl 6 (.int .i64 losses5), pl 11 (.int .i64 (geti a1 z2)), pl 31 (.slice A1 a1.length c1), pl 32 (.int .i64 (a1.length : Int)), pl 33 (.int .i64 z2)] hF hS Fol (by kernel_rfl) (by kernel_rfl) (by kernel_rfl) ?_ (fun a w hF hS => ?_)
          · exact obs_cons (ob_ixI Und22 hi3 hs3 (hr_a1.sep hS) (fun _ => hp2)) <| obs_cons (ob_geti Agg3 (fun _ hS => ⟨_, (hr_a1.sep hS)⟩) (fun _ => hp2)) <| obs_nil
          refine reg [] [] [1, 4, 5, 6, 11, 31, 32, 33, 37, 38, 39] [pl 1 (.slice A2 b1.length c2), pl 4 (.int .i64 wins5), pl 5 (.int .i64 ties5), pl 6 (.int .i64 losses5), pl 11 (.int .i64 (geti a1 z2)), pl 31 (.slice A1 a1.length c1), pl 32 (.int .i64 (a1.length : Int)), pl 33 (.int .i64 z2), pl 37 (.slice A2 b1.length c2), pl 38 (.int .i64 (b1.length : Int)), pl 39 (.int .i64 0)] hF hS Fol (by kernel_rfl) (by kernel_rfl) (by kernel_rfl) ?_ (fun a w hF hS => ?_)
          · exact obs_nil
          refine wp_block ?_
          refine wp_loop_model (S := (Int × Int × Int × Int)) (R := (Int × Int × Int)) (dice_Duel_L3 a1 b1 z2) (fun x => ((dice_Duel_K3 z2) x).bind φ2) r (fun (x : (Int × Int × Int × Int)) a w => Fr 62 [pl 1 (.slice A2 b1.length c2), pl 4 (.int .i64 x.1), pl 5 (.int .i64 x.2.1), pl 6 (.int .i64 x.2.2.1), pl 11 (.int .i64 (geti a1 z2)), pl 31 (.slice A1 a1.length c1), pl 32 (.int .i64 (a1.length : Int)), pl 33 (.int .i64 z2), pl 37 (.slice A2 b1.length c2), pl 38 (.int .i64 (b1.length : Int)), pl 39 (.int .i64 x.2.2.2)] a ∧ Sep w0 w0.heap.size w []) (assoc_b hm) ⟨hF.weak [1, 4, 5, 6, 11, 31, 32, 33, 37, 38, 39] (by kernel_rfl), hS⟩ ?_
          clear hF hS hm
          rintro nn3 ⟨wins7, ties7, losses7, z3⟩ a w ⟨hF, hS⟩ hm
          generalize hφ3 : stK (dice_Duel_L3 a1 b1 z2) nn3 (fun x => ((dice_Duel_K3 z2) x).bind φ2) = φ3 at hm
          unfold dice_Duel_L3 at hm
          dsimp only at hF hS hm
          refine reg [] [] [1, 4, 5, 6, 11, 31, 32, 33, 37, 38, 39, 40] [pl 1 (.slice A2 b1.length c2), pl 4 (.int .i64 wins7), pl 5 (.int .i64 ties7), pl 6 (.int .i64 losses7), pl 11 (.int .i64 (geti a1 z2)), pl 31 (.slice A1 a1.length c1), pl 32 (.int .i64 (a1.length : Int)), pl 33 (.int .i64 z2), pl 37 (.slice A2 b1.length c2), pl 38 (.int .i64 (b1.length : Int)), pl 39 (.int .i64 z3), pl 40 (.bool (decide (z3 < (b1.length : Int))))] hF hS Fol (by kernel_rfl) (by kernel_rfl) (by kernel_rfl) ?_ (fun a w hF hS => ?_)
          · exact obs_nil
          refine seq_cut (fun a w => Fr 62 [pl 1 (.slice A2 b1.length c2), pl 4 (.int .i64 wins7), pl 5 (.int .i64 ties7), pl 6 (.int .i64 losses7), pl 11 (.int .i64 (geti a1 z2)), pl 31 (.slice A1 a1.length c1), pl 32 (.int .i64 (a1.length : Int)), pl 33 (.int .i64 z2), pl 37 (.slice A2 b1.length c2), pl 38 (.int .i64 (b1.length : Int)), pl 39 (.int .i64 z3)] a ∧ Sep w0 w0.heap.size w [] ∧ ((dice_Duel_J7 a1 b1 z2 wins7 ties7 losses7 z3)).bind φ3 = some r) ?_ ?_
          · rintro a w ⟨hF, hS, hm⟩
            unfold dice_Duel_J7 at hm
            refine seq_cut (fun a w => ∃ (wins8 : Int) (ties8 : Int) (losses8 : Int), Fr 62 [pl 1 (.slice A2 b1.length c2), pl 4 (.int .i64 wins8), pl 5 (.int .i64 ties8), pl 6 (.int .i64 losses8), pl 11 (.int .i64 (geti a1 z2)), pl 31 (.slice A1 a1.length c1), pl 32 (.int .i64 (a1.length : Int)), pl 33 (.int .i64 z2), pl 37 (.slice A2 b1.length c2), pl 38 (.int .i64 (b1.length : Int)), pl 39 (.int .i64 z3)] a ∧ Sep w0 w0.heap.size w [] ∧ ((dice_Duel_J8 z3) wins8 ties8 losses8).bind φ3 = some r) ?_ ?_
            · rintro a w ⟨wins8, ties8, losses8, hF, hS, hm⟩
              unfold dice_Duel_J8 at hm
              refine reg1 [] [] [1, 4, 5, 6, 11, 31, 32, 33, 37, 38, 39] [pl 1 (.slice A2 b1.length c2), pl 4 (.int .i64 wins8), pl 5 (.int .i64 ties8), pl 6 (.int .i64 losses8), pl 11 (.int .i64 (geti a1 z2)), pl 31 (.slice A1 a1.length c1), pl 32 (.int .i64 (a1.length : Int)), pl 33 (.int .i64 z2), pl 37 (.slice A2 b1.length c2), pl 38 (.int .i64 (b1.length : Int)), pl 39 (.int .i64 (w64 (z3 + 1)))] hF hS Fol (by kernel_rfl) (by kernel_rfl) (by kernel_rfl) ?_ (fun a w hF hS => ?_)
              · exact obs_nil
              refine then_n ?_
              rw [← hφ3] at hm
              exact ⟨(wins8, ties8, losses8, (w64 (z3 + 1))), ⟨hF.weak [1, 4, 5, 6, 11, 31, 32, 33, 37, 38, 39] (by kernel_rfl), hS⟩, hm⟩
            · refine wp_block ?_
              obtain ⟨hp3, hm⟩ := asrt_b hm
              refine reg [⟨true, [], vS (Instr.indexAt 22 (.slice A2 b1.length c2) (.int .i64 z3)), .pointer (some (sAddr A2 z3))⟩, ⟨false, [], vS (Instr.loadAt 3 (.pointer (some (sAddr A2 z3)))), .int .i64 (geti b1 z3)⟩] [some (.pointer (some (sAddr A2 z3))), some (.int .i64 (geti b1 z3)), none] [1, 4, 5, 6, 11, 13, 31, 32, 33, 37, 38, 39] [pl 1 (.slice A2 b1.length c2), pl 4 (.int .i64 wins7), pl 5 (.int .i64 ties7), pl 6 (.int .i64 losses7), pl 11 (.int .i64 (geti a1 z2)), pl 13 (.int .i64 (geti b1 z3)), pl 31 (.slice A1 a1.length c1), pl 32 (.int .i64 (a1.length : Int)), pl 33 (.int .i64 z2), pl 37 (.slice A2 b1.length c2), pl 38 (.int .i64 (b1.length : Int)), pl 39 (.int .i64 z3)] hF hS Fol (by kernel_rfl) (by kernel_rfl) (by kernel_rfl) ?_ (fun a w hF hS => ?_)
              · exact obs_cons (ob_ixI Und22 hi3 hs3 (hr_b1.sep hS) (fun _ => hp3)) <| obs_cons (ob_geti Agg3 (fun _ hS => ⟨_, (hr_b1.sep hS)⟩) (fun _ => hp3)) <| obs_nil
              refine wp_block ?_
              refine reg [] [] [1, 4, 5, 6, 11, 13, 31, 32, 33, 37, 38, 39, 45] [pl 1 (.slice A2 b1.length c2), pl 4 (.int .i64 wins7), pl 5 (.int .i64 ties7), pl 6 (.int .i64 losses7), pl 11 (.int .i64 (geti a1 z2)), pl 13 (.int .i64 (geti b1 z3)), pl 31 (.slice A1 a1.length c1), pl 32 (.int .i64 (a1.length : Int)), pl 33 (.int .i64 z2), pl 37 (.slice A2 b1.length c2), pl 38 (.int .i64 (b1.length : Int)), pl 39 (.int .i64 z3), pl 45 (.bool (decide ((geti b1 z3) < (geti a1 z2))))] hF hS Fol (by kernel_rfl) (by kernel_rfl) (by kernel_rfl) ?_ (fun a w hF hS => ?_)
              · exact obs_nil
              refine cond_ev (t := 45) (b := decide ((geti b1 z3) < (geti a1 z2))) hF (by kernel_rfl) (fun hb => ?_) (fun hb => ?_)
              · replace hm := if_t hm hb
                refine reg1 [] [] [1, 4, 5, 6, 11, 31, 32, 33, 37, 38, 39] [pl 1 (.slice A2 b1.length c2), pl 4 (.int .i64 (w64 (wins7 + 1))), pl 5 (.int .i64 ties7), pl 6 (.int .i64 losses7), pl 11 (.int .i64 (geti a1 z2)), pl 31 (.slice A1 a1.length c1), pl 32 (.int .i64 (a1.length : Int)), pl 33 (.int .i64 z2), pl 37 (.slice A2 b1.length c2), pl 38 (.int .i64 (b1.length : Int)), pl 39 (.int .i64 z3)] hF hS Fol (by kernel_rfl) (by kernel_rfl) (by kernel_rfl) ?_ (fun a w hF hS => ?_)
                · exact obs_nil
                refine block_n ?_
                refine block_n ?_
                refine then_n ?_
                exact ⟨(w64 (wins7 + 1)), ties7, losses7, hF.weak [1, 4, 5, 6, 11, 31, 32, 33, 37, 38, 39] (by kernel_rfl), hS, hm⟩
              · replace hm := if_f hm hb
                refine reg [] [] [1, 4, 5, 6, 11, 31, 32, 33, 37, 38, 39, 51] [pl 1 (.slice A2 b1.length c2), pl 4 (.int .i64 wins7), pl 5 (.int .i64 ties7), pl 6 (.int .i64 losses7), pl 11 (.int .i64 (geti a1 z2)), pl 31 (.slice A1 a1.length c1), pl 32 (.int .i64 (a1.length : Int)), pl 33 (.int .i64 z2), pl 37 (.slice A2 b1.length c2), pl 38 (.int .i64 (b1.length : Int)), pl 39 (.int .i64 z3), pl 51 (.bool ((geti a1 z2) == (geti b1 z3)))] hF hS Fol (by kernel_rfl) (by kernel_rfl) (by kernel_rfl) ?_ (fun a w hF hS => ?_)
                · exact obs_nil
                refine cond_ev (t := 51) (b := ((geti a1 z2) == (geti b1 z3))) hF (by kernel_rfl) (fun hb => ?_) (fun hb => ?_)
                · replace hm := if_t hm hb
                  refine reg1 [] [] [1, 4, 5, 6, 11, 31, 32, 33, 37, 38, 39] [pl 1 (.slice A2 b1.length c2), pl 4 (.int .i64 wins7), pl 5 (.int .i64 (w64 (ties7 + 1))), pl 6 (.int .i64 losses7), pl 11 (.int .i64 (geti a1 z2)), pl 31 (.slice A1 a1.length c1), pl 32 (.int .i64 (a1.length : Int)), pl 33 (.int .i64 z2), pl 37 (.slice A2 b1.length c2), pl 38 (.int .i64 (b1.length : Int)), pl 39 (.int .i64 z3)] hF hS Fol (by kernel_rfl) (by kernel_rfl) (by kernel_rfl) ?_ (fun a w hF hS => ?_)
                  · exact obs_nil
                  refine block_n ?_
                  refine block_n ?_
                  refine then_n ?_
                  exact ⟨wins7, (w64 (ties7 + 1)), losses7, hF.weak [1, 4, 5, 6, 11, 31, 32, 33, 37, 38, 39] (by kernel_rfl), hS, hm⟩
                · replace hm := if_f hm hb
                  refine reg1 [] [] [1, 4, 5, 6, 11, 31, 32, 33, 37, 38, 39] [pl 1 (.slice A2 b1.length c2), pl 4 (.int .i64 wins7), pl 5 (.int .i64 ties7), pl 6 (.int .i64 (w64 (losses7 + 1))), pl 11 (.int .i64 (geti a1 z2)), pl 31 (.slice A1 a1.length c1), pl 32 (.int .i64 (a1.length : Int)), pl 33 (.int .i64 z2), pl 37 (.slice A2 b1.length c2), pl 38 (.int .i64 (b1.length : Int)), pl 39 (.int .i64 z3)] hF hS Fol (by kernel_rfl) (by kernel_rfl) (by kernel_rfl) ?_ (fun a w hF hS => ?_)
                  · exact obs_nil
                  refine block_n ?_
                  refine block_n ?_
                  refine then_n ?_
                  exact ⟨wins7, ties7, (w64 (losses7 + 1)), hF.weak [1, 4, 5, 6, 11, 31, 32, 33, 37, 38, 39] (by kernel_rfl), hS, hm⟩
          · refine cond_ev (t := 40) (b := decide (z3 < (b1.length : Int))) hF (by kernel_rfl) (fun hb => ?_) (fun hb => ?_)
            · replace hm := if_t hm hb
              refine wp_skip ?_
              refine then_n ?_
              exact ⟨hF.weak [1, 4, 5, 6, 11, 31, 32, 33, 37, 38, 39] (by kernel_rfl), hS, hm⟩
            · replace hm := if_f hm hb
              refine wp_exit ?_
              refine then_e (then_e (block_e (block_n (then_n ?_))))
              rw [← hφ3] at hm
              have hm : ((dice_Duel_J6 z2) wins7 ties7 losses7).bind φ2 = some r := hm
              exact ⟨wins7, ties7, losses7, hF.weak [1, 4, 5, 6, 31, 32, 33] (by kernel_rfl), hS, hm⟩
      · refine cond_ev (t := 34) (b := decide (z2 < (a1.length : Int))) hF (by kernel_rfl) (fun hb => ?_) (fun hb => ?_)
        · replace hm := if_t hm hb
          refine wp_skip ?_
          refine then_n ?_
          exact ⟨hF.weak [1, 4, 5, 6, 31, 32, 33] (by kernel_rfl), hS, hm⟩
        · replace hm := if_f hm hb
          refine wp_exit ?_
          refine then_e (then_e (block_e (then_n ?_)))
          rw [← hφ2] at hm
          have hm : (dice_Duel_J4 wins5 ties5 losses5).bind some = some r := hm
          exact ⟨wins5, ties5, losses5, hF.weak [4, 5, 6] (by kernel_rfl), hS, hm⟩
  · refine seqR ?_
    refine at_run 2 [] [] [0, 1, 4, 5, 6, 14, 15] [pl 0 (.slice A1 a1.length c1), pl 1 (.slice A2 b1.length c2), pl 4 (.int .i64 0), pl 5 (.int .i64 0), pl 6 (.int .i64 0), pl 14 (.slice A1 a1.length c1), pl 15 (.slice A2 b1.length c2)] hF hS (by kernel_rfl) (by kernel_rfl) ?_ (fun a w hF hS => ?_)
    · exact obs_nil
    refine at_do (d := 16) (s := vS (Instr.buildSlice 23 2 #[(0, .slice A1 a1.length c1), (1, .slice A2 b1.length c2)])) (v := .slice (some ⟨w.heap.size, 0, none⟩) 2 2) (w' := w.alloc (.cells #[.slice A1 a1.length c1, .slice A2 b1.length c2] 22)) hF (by kernel_rfl) (by kernel_rfl) (by kernel_rfl) (fun a hF => ?_)
    have hS : Sep w0 w0.heap.size (w.alloc (.cells #[.slice A1 a1.length c1, .slice A2 b1.length c2] 22)) (own 22 (.slice (some (⟨w.heap.size, 0, none⟩ : Addr)) 2 2) [.slice A1 a1.length c1, .slice A2 b1.length c2] :: []) := hS.lit 22 #[.slice A1 a1.length c1, .slice A2 b1.length c2] 2 rfl (by omega)
    generalize (some (⟨w.heap.size, 0, none⟩ : Addr)) = g1 at hF hS
    generalize w.alloc (.cells #[.slice A1 a1.length c1, .slice A2 b1.length c2] 22) = w at hS ⊢
    refine at_run 2 [] [] [0, 1, 4, 5, 6, 16, 17, 18] [pl 0 (.slice A1 a1.length c1), pl 1 (.slice A2 b1.length c2), pl 4 (.int .i64 0), pl 5 (.int .i64 0), pl 6 (.int .i64 0), pl 16 (.slice g1 ([a1, b1] : List (List Int)).length 2), pl 17 (.int .i64 (([a1, b1] : List (List Int)).length : Int)), pl 18 (.int .i64 0)] hF hS (by kernel_rfl) (by kernel_rfl) ?_ (fun a w hF hS => ?_)
    · exact obs_nil
    refine at_end [0, 1, 4, 5, 6, 16, 17, 18] [pl 0 (.slice A1 a1.length c1), pl 1 (.slice A2 b1.length c2), pl 4 (.int .i64 0), pl 5 (.int .i64 0), pl 6 (.int .i64 0), pl 16 (.slice g1 ([a1, b1] : List (List Int)).length 2), pl 17 (.int .i64 (([a1, b1] : List (List Int)).length : Int)), pl 18 (.int .i64 0)] hF rfl (by kernel_rfl) (fun hF => ?_)
    refine then_n ?_
    refine wp_block ?_
    refine wp_loop_model (S := (Int × Int × Int × Int)) (R := (Fl (Int × Int × Int) (Int × Int × Int × Int))) (dice_Duel_L1 a1 b1) (fun x => ((dice_Duel_K1 a1 b1) x).bind some) r (fun (x : (Int × Int × Int × Int)) a w => Fr 62 [pl 0 (.slice A1 a1.length c1), pl 1 (.slice A2 b1.length c2), pl 4 (.int .i64 x.1), pl 5 (.int .i64 x.2.1), pl 6 (.int .i64 x.2.2.1), pl 16 (.slice g1 ([a1, b1] : List (List Int)).length 2), pl 17 (.int .i64 (([a1, b1] : List (List Int)).length : Int)), pl 18 (.int .i64 x.2.2.2)] a ∧ Sep w0 w0.heap.size w [own 22 (.slice g1 2 2) [.slice A1 a1.length c1, .slice A2 b1.length c2]]) (assoc_b hm) ⟨hF.weak [0, 1, 4, 5, 6, 16, 17, 18] (by kernel_rfl), hS⟩ ?_
    clear hF hS hm
    rintro nn1 ⟨wins2, ties2, losses2, z1⟩ a w ⟨hF, hS⟩ hm
    generalize hφ1 : stK (dice_Duel_L1 a1 b1) nn1 (fun x => ((dice_Duel_K1 a1 b1) x).bind some) = φ1 at hm
    unfold dice_Duel_L1 at hm
    dsimp only at hF hS hm
    refine reg [] [] [0, 1, 4, 5, 6, 16, 17, 18, 19] [pl 0 (.slice A1 a1.length c1), pl 1 (.slice A2 b1.length c2), pl 4 (.int .i64 wins2), pl 5 (.int .i64 ties2), pl 6 (.int .i64 losses2), pl 16 (.slice g1 ([a1, b1] : List (List Int)).length 2), pl 17 (.int .i64 (([a1, b1] : List (List Int)).length : Int)), pl 18 (.int .i64 z1), pl 19 (.bool (decide (z1 < (([a1, b1] : List (List Int)).length : Int))))] hF hS Fol (by kernel_rfl) (by kernel_rfl) (by kernel_rfl) ?_ (fun a w hF hS => ?_)
    · exact obs_nil
    refine seq_cut (fun a w => Fr 62 [pl 0 (.slice A1 a1.length c1), pl 1 (.slice A2 b1.length c2), pl 4 (.int .i64 wins2), pl 5 (.int .i64 ties2), pl 6 (.int .i64 losses2), pl 16 (.slice g1 ([a1, b1] : List (List Int)).length 2), pl 17 (.int .i64 (([a1, b1] : List (List Int)).length : Int)), pl 18 (.int .i64 z1)] a ∧ Sep w0 w0.heap.size w [own 22 (.slice g1 2 2) [.slice A1 a1.length c1, .slice A2 b1.length c2]] ∧ ((dice_Duel_J2 a1 b1 wins2 ties2 losses2 z1)).bind φ1 = some r) ?_ ?_
    · rintro a w ⟨hF, hS, hm⟩
      unfold dice_Duel_J2 at hm
      refine seq_cut (fun a w => ∃ (wins3 : Int) (ties3 : Int) (losses3 : Int), Fr 62 [pl 0 (.slice A1 a1.length c1), pl 1 (.slice A2 b1.length c2), pl 4 (.int .i64 wins3), pl 5 (.int .i64 ties3), pl 6 (.int .i64 losses3), pl 16 (.slice g1 ([a1, b1] : List (List Int)).length 2), pl 17 (.int .i64 (([a1, b1] : List (List Int)).length : Int)), pl 18 (.int .i64 z1)] a ∧ Sep w0 w0.heap.size w [own 22 (.slice g1 2 2) [.slice A1 a1.length c1, .slice A2 b1.length c2]] ∧ ((dice_Duel_J3 z1) wins3 ties3 losses3).bind φ1 = some r) ?_ ?_
      · rintro a w ⟨wins3, ties3, losses3, hF, hS, hm⟩
        unfold dice_Duel_J3 at hm
        refine reg1 [] [] [0, 1, 4, 5, 6, 16, 17, 18] [pl 0 (.slice A1 a1.length c1), pl 1 (.slice A2 b1.length c2), pl 4 (.int .i64 wins3), pl 5 (.int .i64 ties3), pl 6 (.int .i64 losses3), pl 16 (.slice g1 ([a1, b1] : List (List Int)).length 2), pl 17 (.int .i64 (([a1, b1] : List (List Int)).length : Int)), pl 18 (.int .i64 (w64 (z1 + 1)))] hF hS Fol (by kernel_rfl) (by kernel_rfl) (by kernel_rfl) ?_ (fun a w hF hS => ?_)
        · exact obs_nil
        refine then_n ?_
        rw [← hφ1] at hm
        exact ⟨(wins3, ties3, losses3, (w64 (z1 + 1))), ⟨hF.weak [0, 1, 4, 5, 6, 16, 17, 18] (by kernel_rfl), hS⟩, hm⟩
      · refine wp_block ?_
        obtain ⟨hp1, hm⟩ := asrt_b hm
        refine reg [⟨true, [], vS (Instr.indexAt 23 (.slice g1 ([a1, b1] : List (List Int)).length 2) (.int .i64 z1)), .pointer (some (sAddr g1 z1))⟩, ⟨false, [], vS (Instr.loadAt 22 (.pointer (some (sAddr g1 z1)))), .slice (hdA ([(A1, c1), (A2, c2)] : List Hd) z1) (geti2 ([a1, b1] : List (List Int)) z1).length (hdC ([(A1, c1), (A2, c2)] : List Hd) z1)⟩] [some (.pointer (some (sAddr g1 z1))), some (.slice (hdA ([(A1, c1), (A2, c2)] : List Hd) z1) (geti2 ([a1, b1] : List (List Int)) z1).length (hdC ([(A1, c1), (A2, c2)] : List Hd) z1)), none] [0, 1, 4, 5, 6, 9, 16, 17, 18] [pl 0 (.slice A1 a1.length c1), pl 1 (.slice A2 b1.length c2), pl 4 (.int .i64 wins2), pl 5 (.int .i64 ties2), pl 6 (.int .i64 losses2), pl 9 (.slice (hdA ([(A1, c1), (A2, c2)] : List Hd) z1) (geti2 ([a1, b1] : List (List Int)) z1).length (hdC ([(A1, c1), (A2, c2)] : List Hd) z1)), pl 16 (.slice g1 ([a1, b1] : List (List Int)).length 2), pl 17 (.int .i64 (([a1, b1] : List (List Int)).length : Int)), pl 18 (.int .i64 z1)] hF hS Fol (by kernel_rfl) (by kernel_rfl) (by kernel_rfl) ?_ (fun a w hF hS => ?_)
        · exact obs_cons (ob_ixR Und23 hi22 hs22 (rdLit (hd := ([(A1, c1), (A2, c2)] : List Hd)) (m := ([a1, b1] : List (List Int))) hS 0 rfl ⟨⟨(hr_a1.sep hS), _hc_a1⟩, ⟨(hr_b1.sep hS), _hc_b1⟩, trivial⟩) (fun _ => hp1)) <| obs_cons (ob_getR Agg22 (fun _ hS => ⟨_, (rdLit (hd := ([(A1, c1), (A2, c2)] : List Hd)) (m := ([a1, b1] : List (List Int))) hS 0 rfl ⟨⟨(hr_a1.sep hS), _hc_a1⟩, ⟨(hr_b1.sep hS), _hc_b1⟩, trivial⟩)⟩) (fun _ => hp1)) <| obs_nil
        refine reg [] [] [0, 1, 4, 5, 6, 16, 17, 18, 29] [pl 0 (.slice A1 a1.length c1), pl 1 (.slice A2 b1.length c2), pl 4 (.int .i64 wins2), pl 5 (.int .i64 ties2), pl 6 (.int .i64 losses2), pl 16 (.slice g1 ([a1, b1] : List (List Int)).length 2), pl 17 (.int .i64 (([a1, b1] : List (List Int)).length : Int)), pl 18 (.int .i64 z1), pl 29 (.bool ((decide (((geti2 ([a1, b1] : List (List Int)) z1).length : Int) < 1)) || (decide ((20 : Int) < ((geti2 ([a1, b1] : List (List Int)) z1).length : Int)))))] hF hS Fol (by kernel_rfl) (by kernel_rfl) (by kernel_rfl) ?_ (fun a w hF hS => ?_)
        · exact obs_nil
        refine cond_ev (t := 29) (b := (decide (((geti2 ([a1, b1] : List (List Int)) z1).length : Int) < 1)) || (decide ((20 : Int) < ((geti2 ([a1, b1] : List (List Int)) z1).length : Int)))) hF (by kernel_rfl) (fun hb => ?_) (fun hb => ?_)
        · replace hm := if_t hm hb
          refine reg [] [] [4, 5, 6, 7] [pl 4 (.int .i64 0), pl 5 (.int .i64 0), pl 6 (.int .i64 0), pl 7 (.int .i64 3)] hF hS Fol (by kernel_rfl) (by kernel_rfl) (by kernel_rfl) ?_ (fun a w hF hS => ?_)
          · exact obs_nil
          refine wp_ret ?_
          refine block_r (then_r (then_r (block_r (then_r ?_))))
          rw [← hφ1] at hm
          have hS := hS.pick [] (by decide)
          have hm : some (0, 0, 0, 3) = some r := hm
          obtain rfl := Option.some.inj hm
          exact retV (rs := [.tmp 4, .tmp 5, .tmp 6, .tmp 7]) (vs := [.int .i64 0, .int .i64 0, .int .i64 0, .int .i64 3]) hF rfl (rv_t (by kernel_rfl) <| rv_t (by kernel_rfl) <| rv_t (by kernel_rfl) <| rv_t (by kernel_rfl) <| rv_nil) rfl ⟨rfl, hS⟩
        · replace hm := if_f hm hb
          refine wp_skip ?_
          refine block_n ?_
          refine then_n ?_
          exact ⟨wins2, ties2, losses2, hF.weak [0, 1, 4, 5, 6, 16, 17, 18] (by kernel_rfl), hS, hm⟩
    · refine cond_ev (t := 19) (b := decide (z1 < (([a1, b1] : List (List Int)).length : Int))) hF (by kernel_rfl) (fun hb => ?_) (fun hb => ?_)
      · replace hm := if_t hm hb
        refine wp_skip ?_
        refine then_n ?_
        exact ⟨hF.weak [0, 1, 4, 5, 6, 16, 17, 18] (by kernel_rfl), hS, hm⟩
      · replace hm := if_f hm hb
        refine wp_exit ?_
        refine then_e (then_e (block_e (then_n ?_)))
        have hS := hS.pick [] (by decide)
        rw [← hφ1] at hm
        have hm : ((dice_Duel_J1 a1 b1) wins2 ties2 losses2).bind some = some r := hm
        exact ⟨wins2, ties2, losses2, hF.weak [0, 1, 4, 5, 6] (by kernel_rfl), hS, hm⟩

noncomputable def dice_check_1_m (s1 : Int) : Option Bool :=
  some ((decide (s1 < 1)) || (decide ((20 : Int) < s1)))

set_option maxRecDepth 100000 in
set_option maxHeartbeats 4000000 in
theorem dice_check_1_w {s1 : Int} {r : Bool} {w0 : World} (hm : dice_check_1_m s1 = some r) :
    Calls Try.prog 96 #[.int .i64 s1] w0 fun e w' => e = .returned (.bool r) ∧ Sep w0 w0.heap.size w' [] := by
  unfold dice_check_1_m at hm
  replace hm := start_b hm
  refine enterS (l := [.int .i64 s1]) (n := 9) Try.func96 rfl rfl (by simp) (fun a w hF hS => ?_)
  refine reg [] [] [0] [pl 0 (.int .i64 s1)] hF hS Fol (by kernel_rfl) (by kernel_rfl) (by kernel_rfl) ?_ (fun a w hF hS => ?_)
  · exact obs_nil
  refine reg [] [] [2] [pl 2 (.bool ((decide (s1 < 1)) || (decide ((20 : Int) < s1))))] hF hS Fol (by kernel_rfl) (by kernel_rfl) (by kernel_rfl) ?_ (fun a w hF hS => ?_)
  · exact obs_nil
  refine wp_ret ?_
  have hm : some ((decide (s1 < 1)) || (decide ((20 : Int) < s1))) = some r := hm
  obtain rfl := Option.some.inj hm
  exact retV (rs := [.tmp 2]) (vs := [.bool ((decide (s1 < 1)) || (decide ((20 : Int) < s1)))]) hF rfl (rv_t (by kernel_rfl) <| rv_nil) rfl ⟨rfl, hS⟩

noncomputable def slices_IndexFunc_f96_J1 : Option Int :=
  some (-1)

noncomputable def slices_IndexFunc_f96_K1 : (Fl Unit Int) → Option Int :=
  fun (x : (Fl Unit Int)) => match x with | .go () => slices_IndexFunc_f96_J1 | .ret x => some x

noncomputable def slices_IndexFunc_f96_J3 (z1 : Int) : Option (St Int (Fl Unit Int)) :=
  some (.next (w64 (z1 + 1)))

noncomputable def slices_IndexFunc_f96_J2 (s1 : List Int) (z1 : Int) : Option (St Int (Fl Unit Int)) :=
  asrt (0 ≤ z1 ∧ z1 < (s1.length : Int)) <| (dice_check_1_m (geti s1 z1)).bind fun r1 => if r1 then (some (.done (.ret z1))) else ((slices_IndexFunc_f96_J3 z1))

noncomputable def slices_IndexFunc_f96_L1 (s1 : List Int) : Int → Option (St Int (Fl Unit Int)) :=
  fun (x : Int) => match x with | z1 => if (decide (z1 < (s1.length : Int))) then ((slices_IndexFunc_f96_J2 s1 z1)) else (some (.done (.go ())))

noncomputable def slices_IndexFunc_f96_m (s1 : List Int) : Option Int :=
  (loop (slices_IndexFunc_f96_L1 s1) 0).bind slices_IndexFunc_f96_K1

set_option maxRecDepth 100000 in
set_option maxHeartbeats 4000000 in
theorem slices_IndexFunc_f96_w {A1 : Option Addr} {c1 : Nat} {s1 : List Int} {r : Int} {w0 : World} (hm : slices_IndexFunc_f96_m s1 = some r) (hr_s1 : Rd w0 w0.heap.size A1 (vI s1)) (_hc_s1 : s1.length ≤ c1) :
    Calls Try.prog 97 #[.slice A1 s1.length c1, .func (.func 96) #[] #[]] w0 fun e w' => e = .returned (.int .i64 r) ∧ Sep w0 w0.heap.size w' [] := by
  obtain ⟨i3, hi3, hz3, hs3, hb3⟩ := info_parts Info3
  unfold slices_IndexFunc_f96_m at hm
  replace hm := start_b hm
  refine enterS (l := [.slice A1 s1.length c1, .func (.func 96) #[] #[]]) (n := 19) Try.func97 rfl rfl (by simp) (fun a w hF hS => ?_)
  refine reg [] [] [0, 1] [pl 0 (.slice A1 s1.length c1), pl 1 (.func (.func 96) #[] #[])] hF hS Fol (by kernel_rfl) (by kernel_rfl) (by kernel_rfl) ?_ (fun a w hF hS => ?_)
  · exact obs_nil
  refine seq_cut (fun a w => Fr 19 [] a ∧ Sep w0 w0.heap.size w [] ∧ (slices_IndexFunc_f96_J1).bind some = some r) ?_ ?_
  · rintro a w ⟨hF, hS, hm⟩
    unfold slices_IndexFunc_f96_J1 at hm
    refine reg [] [] [4] [pl 4 (.int .i64 (-1))] hF hS Fol (by kernel_rfl) (by kernel_rfl) (by kernel_rfl) ?_ (fun a w hF hS => ?_)
    · exact obs_nil
    refine wp_ret ?_
    have hm : some (-1) = some r := hm
    obtain rfl := Option.some.inj hm
    exact retV (rs := [.tmp 4]) (vs := [.int .i64 (-1)]) hF rfl (rv_t (by kernel_rfl) <| rv_nil) rfl ⟨rfl, hS⟩
  · refine reg [] [] [0, 1, 7, 8] [pl 0 (.slice A1 s1.length c1), pl 1 (.func (.func 96) #[] #[]), pl 7 (.int .i64 (s1.length : Int)), pl 8 (.int .i64 0)] hF hS Fol (by kernel_rfl) (by kernel_rfl) (by kernel_rfl) ?_ (fun a w hF hS => ?_)
    · exact obs_nil
    refine wp_block ?_
    refine wp_loop_model (S := Int) (R := (Fl Unit Int)) (slices_IndexFunc_f96_L1 s1) (fun x => (slices_IndexFunc_f96_K1 x).bind some) r (fun (x : Int) a w => Fr 19 [pl 0 (.slice A1 s1.length c1), pl 1 (.func (.func 96) #[] #[]), pl 7 (.int .i64 (s1.length : Int)), pl 8 (.int .i64 x)] a ∧ Sep w0 w0.heap.size w []) (assoc_b hm) ⟨hF.weak [0, 1, 7, 8] (by kernel_rfl), hS⟩ ?_
    clear hF hS hm
    rintro nn1 z1 a w ⟨hF, hS⟩ hm
    generalize hφ1 : stK (slices_IndexFunc_f96_L1 s1) nn1 (fun x => (slices_IndexFunc_f96_K1 x).bind some) = φ1 at hm
    unfold slices_IndexFunc_f96_L1 at hm
    dsimp only at hm
    refine reg [] [] [0, 1, 7, 8, 9] [pl 0 (.slice A1 s1.length c1), pl 1 (.func (.func 96) #[] #[]), pl 7 (.int .i64 (s1.length : Int)), pl 8 (.int .i64 z1), pl 9 (.bool (decide (z1 < (s1.length : Int))))] hF hS Fol (by kernel_rfl) (by kernel_rfl) (by kernel_rfl) ?_ (fun a w hF hS => ?_)
    · exact obs_nil
    refine seq_cut (fun a w => Fr 19 [pl 0 (.slice A1 s1.length c1), pl 1 (.func (.func 96) #[] #[]), pl 7 (.int .i64 (s1.length : Int)), pl 8 (.int .i64 z1)] a ∧ Sep w0 w0.heap.size w [] ∧ ((slices_IndexFunc_f96_J2 s1 z1)).bind φ1 = some r) ?_ ?_
    · rintro a w ⟨hF, hS, hm⟩
      unfold slices_IndexFunc_f96_J2 at hm
      refine seq_cut (fun a w => Fr 19 [pl 0 (.slice A1 s1.length c1), pl 1 (.func (.func 96) #[] #[]), pl 7 (.int .i64 (s1.length : Int)), pl 8 (.int .i64 z1)] a ∧ Sep w0 w0.heap.size w [] ∧ ((slices_IndexFunc_f96_J3 z1)).bind φ1 = some r) ?_ ?_
      · rintro a w ⟨hF, hS, hm⟩
        unfold slices_IndexFunc_f96_J3 at hm
        refine reg1 [] [] [0, 1, 7, 8] [pl 0 (.slice A1 s1.length c1), pl 1 (.func (.func 96) #[] #[]), pl 7 (.int .i64 (s1.length : Int)), pl 8 (.int .i64 (w64 (z1 + 1)))] hF hS Fol (by kernel_rfl) (by kernel_rfl) (by kernel_rfl) ?_ (fun a w hF hS => ?_)
        · exact obs_nil
        refine then_n ?_
        rw [← hφ1] at hm
        exact ⟨(w64 (z1 + 1)), ⟨hF.weak [0, 1, 7, 8] (by kernel_rfl), hS⟩, hm⟩
      · refine wp_block ?_
        refine reg [] [] [0, 1, 5, 7, 8] [pl 0 (.slice A1 s1.length c1), pl 1 (.func (.func 96) #[] #[]), pl 5 (.int .i64 z1), pl 7 (.int .i64 (s1.length : Int)), pl 8 (.int .i64 z1)] hF hS Fol (by kernel_rfl) (by kernel_rfl) (by kernel_rfl) ?_ (fun a w hF hS => ?_)
        · exact obs_nil
        obtain ⟨hp1, hm⟩ := asrt_b hm
        obtain ⟨r1, hr1, hm⟩ := call_b hm
        refine reg [⟨true, [], vS (Instr.indexAt 22 (.slice A1 s1.length c1) (.int .i64 z1)), .pointer (some (sAddr A1 z1))⟩, ⟨false, [], vS (Instr.loadAt 3 (.pointer (some (sAddr A1 z1)))), .int .i64 (geti s1 z1)⟩, ⟨false, [], callFunc 96 #[.int .i64 (geti s1 z1)], .bool r1⟩] [none, none, none, some (.pointer (some (sAddr A1 z1))), some (.int .i64 (geti s1 z1)), some (.bool r1)] [0, 1, 5, 7, 8, 16] [pl 0 (.slice A1 s1.length c1), pl 1 (.func (.func 96) #[] #[]), pl 5 (.int .i64 z1), pl 7 (.int .i64 (s1.length : Int)), pl 8 (.int .i64 z1), pl 16 (.bool r1)] hF hS Fol (by kernel_rfl) (by kernel_rfl) (by kernel_rfl) ?_ (fun a w hF hS => ?_)
        · exact obs_cons (ob_ixI Und22 hi3 hs3 (hr_s1.sep hS) (fun _ => hp1)) <| obs_cons (ob_geti Agg3 (fun _ hS => ⟨_, (hr_s1.sep hS)⟩) (fun _ => hp1)) <| obs_cons (ob_call Try.func96 (by kernel_rfl) rfl (fun _ _ hS => quiet_of hS (dice_check_1_w hr1 ))) <| obs_nil
        refine cond_ev (t := 16) (b := r1) hF (by kernel_rfl) (fun hb => ?_) (fun hb => ?_)
        · replace hm := if_t hm hb
          refine reg [] [] [4] [pl 4 (.int .i64 z1)] hF hS Fol (by kernel_rfl) (by kernel_rfl) (by kernel_rfl) ?_ (fun a w hF hS => ?_)
          · exact obs_nil
          refine wp_ret ?_
          refine block_r (then_r (then_r (block_r (then_r ?_))))
          rw [← hφ1] at hm
          have hm : some z1 = some r := hm
          obtain rfl := Option.some.inj hm
          exact retV (rs := [.tmp 4]) (vs := [.int .i64 z1]) hF rfl (rv_t (by kernel_rfl) <| rv_nil) rfl ⟨rfl, hS⟩
        · replace hm := if_f hm hb
          refine wp_skip ?_
          refine block_n ?_
          refine then_n ?_
          exact ⟨hF.weak [0, 1, 7, 8] (by kernel_rfl), hS, hm⟩
    · refine cond_ev (t := 9) (b := decide (z1 < (s1.length : Int))) hF (by kernel_rfl) (fun hb => ?_) (fun hb => ?_)
      · replace hm := if_t hm hb
        refine wp_skip ?_
        refine then_n ?_
        exact ⟨hF.weak [0, 1, 7, 8] (by kernel_rfl), hS, hm⟩
      · replace hm := if_f hm hb
        refine wp_exit ?_
        refine then_e (then_e (block_e (then_n ?_)))
        rw [← hφ1] at hm
        have hm : (slices_IndexFunc_f96_J1).bind some = some r := hm
        exact ⟨hF.weak [] (by kernel_rfl), hS, hm⟩

noncomputable def slices_ContainsFunc_f96_m (s1 : List Int) : Option Bool :=
  (slices_IndexFunc_f96_m s1).bind fun r1 => some (decide ((0 : Int) ≤ r1))

set_option maxRecDepth 100000 in
set_option maxHeartbeats 4000000 in
theorem slices_ContainsFunc_f96_w {A1 : Option Addr} {c1 : Nat} {s1 : List Int} {r : Bool} {w0 : World} (hm : slices_ContainsFunc_f96_m s1 = some r) (hr_s1 : Rd w0 w0.heap.size A1 (vI s1)) (_hc_s1 : s1.length ≤ c1) :
    Calls Try.prog 95 #[.slice A1 s1.length c1, .func (.func 96) #[] #[]] w0 fun e w' => e = .returned (.bool r) ∧ Sep w0 w0.heap.size w' [] := by
  unfold slices_ContainsFunc_f96_m at hm
  replace hm := start_b hm
  refine enterS (l := [.slice A1 s1.length c1, .func (.func 96) #[] #[]]) (n := 9) Try.func95 rfl rfl (by simp) (fun a w hF hS => ?_)
  refine reg [] [] [0, 1] [pl 0 (.slice A1 s1.length c1), pl 1 (.func (.func 96) #[] #[])] hF hS Fol (by kernel_rfl) (by kernel_rfl) (by kernel_rfl) ?_ (fun a w hF hS => ?_)
  · exact obs_nil
  obtain ⟨r1, hr1, hm⟩ := call_b hm
  refine reg [⟨false, [], callFunc 97 #[.slice A1 s1.length c1, .func (.func 96) #[] #[]], .int .i64 r1⟩] [none, none, some (.int .i64 r1), none, none] [4] [pl 4 (.bool (decide ((0 : Int) ≤ r1)))] hF hS Fol (by kernel_rfl) (by kernel_rfl) (by kernel_rfl) ?_ (fun a w hF hS => ?_)
  · exact obs_cons (ob_call Try.func97 (by kernel_rfl) rfl (fun _ _ hS => quiet_of hS (slices_IndexFunc_f96_w hr1 (hr_s1.sep hS) _hc_s1))) <| obs_nil
  refine wp_ret ?_
  have hm : some (decide ((0 : Int) ≤ r1)) = some r := hm
  obtain rfl := Option.some.inj hm
  exact retV (rs := [.tmp 4]) (vs := [.bool (decide ((0 : Int) ≤ r1))]) hF rfl (rv_t (by kernel_rfl) <| rv_nil) rfl ⟨rfl, hS⟩

noncomputable def dice_check_J2 : Option Int :=
  some 0

noncomputable def dice_check_J1 (dice1 : List Int) : Option Int :=
  (slices_ContainsFunc_f96_m dice1).bind fun r1 => if r1 then (some 3) else (dice_check_J2)

noncomputable def dice_check_m (dice1 : List Int) : Option Int :=
  if ((decide ((dice1.length : Int) < 1)) || (decide ((10 : Int) < (dice1.length : Int)))) then (some 2) else ((dice_check_J1 dice1))

set_option maxRecDepth 100000 in
set_option maxHeartbeats 4000000 in
theorem dice_check_w {A1 : Option Addr} {c1 : Nat} {dice1 : List Int} {r : Int} {w0 : World} (hm : dice_check_m dice1 = some r) (hr_dice1 : Rd w0 w0.heap.size A1 (vI dice1)) (_hc_dice1 : dice1.length ≤ c1) :
    Calls Try.prog 79 #[.slice A1 dice1.length c1] w0 fun e w' => e = .returned (.int .i64 r) ∧ Sep w0 w0.heap.size w' [] := by
  unfold dice_check_m at hm
  replace hm := start_b hm
  refine enterS (l := [.slice A1 dice1.length c1]) (n := 13) Try.func79 rfl rfl (by simp) (fun a w hF hS => ?_)
  refine reg [] [] [0] [pl 0 (.slice A1 dice1.length c1)] hF hS Fol (by kernel_rfl) (by kernel_rfl) (by kernel_rfl) ?_ (fun a w hF hS => ?_)
  · exact obs_nil
  refine seq_cut (fun a w => Fr 13 [pl 0 (.slice A1 dice1.length c1)] a ∧ Sep w0 w0.heap.size w [] ∧ ((dice_check_J1 dice1)).bind some = some r) ?_ ?_
  · rintro a w ⟨hF, hS, hm⟩
    unfold dice_check_J1 at hm
    refine seq_cut (fun a w => Fr 13 [] a ∧ Sep w0 w0.heap.size w [] ∧ (dice_check_J2).bind some = some r) ?_ ?_
    · rintro a w ⟨hF, hS, hm⟩
      unfold dice_check_J2 at hm
      refine reg [] [] [2] [pl 2 (.int .i64 0)] hF hS Fol (by kernel_rfl) (by kernel_rfl) (by kernel_rfl) ?_ (fun a w hF hS => ?_)
      · exact obs_nil
      refine wp_ret ?_
      have hm : some 0 = some r := hm
      obtain rfl := Option.some.inj hm
      exact retV (rs := [.tmp 2]) (vs := [.int .i64 0]) hF rfl (rv_t (by kernel_rfl) <| rv_nil) rfl ⟨rfl, hS⟩
    · obtain ⟨r1, hr1, hm⟩ := call_b hm
      refine reg [⟨false, [], callFunc 95 #[.slice A1 dice1.length c1, .func (.func 96) #[] #[]], .bool r1⟩] [none, some (.bool r1)] [12] [pl 12 (.bool r1)] hF hS Fol (by kernel_rfl) (by kernel_rfl) (by kernel_rfl) ?_ (fun a w hF hS => ?_)
      · exact obs_cons (ob_call Try.func95 (by kernel_rfl) rfl (fun _ _ hS => quiet_of hS (slices_ContainsFunc_f96_w hr1 (hr_dice1.sep hS) _hc_dice1))) <| obs_nil
      refine cond_ev (t := 12) (b := r1) hF (by kernel_rfl) (fun hb => ?_) (fun hb => ?_)
      · replace hm := if_t hm hb
        refine reg [] [] [2] [pl 2 (.int .i64 3)] hF hS Fol (by kernel_rfl) (by kernel_rfl) (by kernel_rfl) ?_ (fun a w hF hS => ?_)
        · exact obs_nil
        refine wp_ret ?_
        refine then_r ?_
        have hm : some 3 = some r := hm
        obtain rfl := Option.some.inj hm
        exact retV (rs := [.tmp 2]) (vs := [.int .i64 3]) hF rfl (rv_t (by kernel_rfl) <| rv_nil) rfl ⟨rfl, hS⟩
      · replace hm := if_f hm hb
        refine wp_skip ?_
        refine then_n ?_
        exact ⟨hF.weak [] (by kernel_rfl), hS, hm⟩
  · refine reg [] [] [0, 10] [pl 0 (.slice A1 dice1.length c1), pl 10 (.bool ((decide ((dice1.length : Int) < 1)) || (decide ((10 : Int) < (dice1.length : Int)))))] hF hS Fol (by kernel_rfl) (by kernel_rfl) (by kernel_rfl) ?_ (fun a w hF hS => ?_)
    · exact obs_nil
    refine cond_ev (t := 10) (b := (decide ((dice1.length : Int) < 1)) || (decide ((10 : Int) < (dice1.length : Int)))) hF (by kernel_rfl) (fun hb => ?_) (fun hb => ?_)
    · replace hm := if_t hm hb
      refine reg [] [] [2] [pl 2 (.int .i64 2)] hF hS Fol (by kernel_rfl) (by kernel_rfl) (by kernel_rfl) ?_ (fun a w hF hS => ?_)
      · exact obs_nil
      refine wp_ret ?_
      refine then_r ?_
      have hm : some 2 = some r := hm
      obtain rfl := Option.some.inj hm
      exact retV (rs := [.tmp 2]) (vs := [.int .i64 2]) hF rfl (rv_t (by kernel_rfl) <| rv_nil) rfl ⟨rfl, hS⟩
    · replace hm := if_f hm hb
      refine wp_skip ?_
      refine then_n ?_
      exact ⟨hF.weak [0] (by kernel_rfl), hS, hm⟩

noncomputable def dice_Sums_J2 (l1 : List Int) : Option (List Int × Int) :=
  some (l1, 0)

noncomputable def dice_Sums_K1 : (List Int) → Option (List Int × Int) :=
  fun (x : (List Int)) => match x with | l1 => dice_Sums_J2 l1

noncomputable def dice_Sums_J4 (z1 : Int) (l3 : List Int) : Option (St (List Int × Int) (List Int)) :=
  some (.next (l3, (w64 (z1 + 1))))

noncomputable def dice_Sums_J5 (z1 : Int) (next1 : List Int) : Option (St (List Int × Int) (List Int)) :=
  (dice_Sums_J4 z1) next1

noncomputable def dice_Sums_K2 (z1 : Int) : (List Int) → Option (St (List Int × Int) (List Int)) :=
  fun (x : (List Int)) => match x with | next1 => (dice_Sums_J5 z1) next1

noncomputable def dice_Sums_J7 (z2 : Int) (next3 : List Int) : Option (St (List Int × Int) (List Int)) :=
  some (.next (next3, (w64 (z2 + 1))))

noncomputable def dice_Sums_K3 (z2 : Int) : (List Int) → Option (St (List Int × Int) (List Int)) :=
  fun (x : (List Int)) => match x with | next3 => (dice_Sums_J7 z2) next3

noncomputable def dice_Sums_J9 (z3 : Int) (next5 : List Int) : Option (St (List Int × Int) (List Int)) :=
  some (.next (next5, (w64 (z3 + 1))))

noncomputable def dice_Sums_J8 (l2 : List Int) (z2 : Int) (next4 : List Int) (z3 : Int) : Option (St (List Int × Int) (List Int)) :=
  asrt (0 ≤ (w64 (z2 + z3)) ∧ (w64 (z2 + z3)) < (next4.length : Int)) <| asrt (0 ≤ (w64 (z2 + z3)) ∧ (w64 (z2 + z3)) < (next4.length : Int)) <| (dice_Sums_J9 z3) (next4.set (Int.toNat (w64 (z2 + z3))) (w64 ((geti next4 (w64 (z2 + z3))) + (geti l2 z2))))

noncomputable def dice_Sums_L3 (dice1 : List Int) (l2 : List Int) (z1 : Int) (z2 : Int) : (List Int × Int) → Option (St (List Int × Int) (List Int)) :=
  fun (x : (List Int × Int)) => match x with | (next4, z3) => if (decide (z3 < (geti dice1 z1))) then ((dice_Sums_J8 l2 z2 next4 z3)) else (some (.done next4))

noncomputable def dice_Sums_J6 (dice1 : List Int) (l2 : List Int) (z1 : Int) (next2 : List Int) (z2 : Int) : Option (St (List Int × Int) (List Int)) :=
  asrt (0 ≤ z2 ∧ z2 < (l2.length : Int)) <| (loop (dice_Sums_L3 dice1 l2 z1 z2) (next2, 0)).bind (dice_Sums_K3 z2)

noncomputable def dice_Sums_L2 (dice1 : List Int) (l2 : List Int) (z1 : Int) : (List Int × Int) → Option (St (List Int × Int) (List Int)) :=
  fun (x : (List Int × Int)) => match x with | (next2, z2) => if (decide (z2 < (l2.length : Int))) then ((dice_Sums_J6 dice1 l2 z1 next2 z2)) else (some (.done next2))

noncomputable def dice_Sums_J3 (dice1 : List Int) (l2 : List Int) (z1 : Int) : Option (St (List Int × Int) (List Int)) :=
  asrt (0 ≤ z1 ∧ z1 < (dice1.length : Int)) <| asrt (0 ≤ (w64 ((w64 ((l2.length : Int) + (geti dice1 z1))) - 1)) ∧ (w64 ((w64 ((l2.length : Int) + (geti dice1 z1))) - 1)) ≤ bigN) <| (loop (dice_Sums_L2 dice1 l2 z1) ((List.replicate (Int.toNat (w64 ((w64 ((l2.length : Int) + (geti dice1 z1))) - 1))) (0 : Int)), 0)).bind (dice_Sums_K2 z1)

noncomputable def dice_Sums_L1 (dice1 : List Int) : (List Int × Int) → Option (St (List Int × Int) (List Int)) :=
  fun (x : (List Int × Int)) => match x with | (l2, z1) => if (decide (z1 < (dice1.length : Int))) then ((dice_Sums_J3 dice1 l2 z1)) else (some (.done l2))

noncomputable def dice_Sums_J1 (dice1 : List Int) : Option (List Int × Int) :=
  (loop (dice_Sums_L1 dice1) (([1]), 0)).bind dice_Sums_K1

noncomputable def dice_Sums_m (dice1 : List Int) : Option (List Int × Int) :=
  (dice_check_m dice1).bind fun r1 => if (r1 != 0) then (some (([] : List Int), r1)) else ((dice_Sums_J1 dice1))

def dice_Sums_post (r : (List Int × Int)) (v : Value) (w0 w' : World) : Prop := ∃ (A0 : Option Addr) (c0 : Nat), v = .tuple #[.slice A0 r.1.length c0, .int .i64 r.2] ∧ Sep w0 w0.heap.size w' [own 3 (.slice A0 r.1.length c0) (vI r.1)]

set_option maxRecDepth 100000 in
set_option maxHeartbeats 4000000 in
theorem dice_Sums_w {A1 : Option Addr} {c1 : Nat} {dice1 : List Int} {r : (List Int × Int)} {w0 : World} (hm : dice_Sums_m dice1 = some r) (hr_dice1 : Rd w0 w0.heap.size A1 (vI dice1)) (_hc_dice1 : dice1.length ≤ c1) :
    Calls Try.prog 42 #[.slice A1 dice1.length c1] w0 fun e w' => ∃ v, e = .returned v ∧ dice_Sums_post r v w0 w' := by
  obtain ⟨i3, hi3, hz3, hs3, hb3⟩ := info_parts Info3
  unfold dice_Sums_m at hm
  replace hm := start_b hm
  refine enterS (l := [.slice A1 dice1.length c1]) (n := 55) Try.func42 rfl rfl (by simp) (fun a w hF hS => ?_)
  refine reg [] [] [0] [pl 0 (.slice A1 dice1.length c1)] hF hS Fol (by kernel_rfl) (by kernel_rfl) (by kernel_rfl) ?_ (fun a w hF hS => ?_)
  · exact obs_nil
  refine seq_cut (fun a w => Fr 55 [pl 0 (.slice A1 dice1.length c1)] a ∧ Sep w0 w0.heap.size w [] ∧ ((dice_Sums_J1 dice1)).bind some = some r) ?_ ?_
  · rintro a w ⟨hF, hS, hm⟩
    unfold dice_Sums_J1 at hm
    refine seqR ?_
    refine at_do (d := 17) (s := vS (Instr.buildSlice 22 1 #[(0, .int .i64 1)])) (v := .slice (some ⟨w.heap.size, 0, none⟩) 1 1) (w' := w.alloc (.cells #[.int .i64 1] 3)) hF (by kernel_rfl) (by kernel_rfl) (by kernel_rfl) (fun a hF => ?_)
    have hS : Sep w0 w0.heap.size (w.alloc (.cells #[.int .i64 1] 3)) (own 3 (.slice (some (⟨w.heap.size, 0, none⟩ : Addr)) ([1]).length 1) (vI ([1])) :: []) := hS.lit 3 #[.int .i64 1] 1 rfl (by omega)
    generalize (some (⟨w.heap.size, 0, none⟩ : Addr)) = g1 at hF hS
    generalize w.alloc (.cells #[.int .i64 1] 3) = w at hS ⊢
    refine at_run 1 [] [] [0, 5] [pl 0 (.slice A1 dice1.length c1), pl 5 (.slice g1 ([1]).length 1)] hF hS (by kernel_rfl) (by kernel_rfl) ?_ (fun a w hF hS => ?_)
    · exact obs_nil
    refine at_end [0, 5] [pl 0 (.slice A1 dice1.length c1), pl 5 (.slice g1 ([1]).length 1)] hF rfl (by kernel_rfl) (fun hF => ?_)
    refine then_n ?_
    refine seq_cut (fun a w => ∃ (l1 : List Int) (A2 : Option Addr) (c2 : Nat), Fr 55 [pl 5 (.slice A2 l1.length c2)] a ∧ Sep w0 w0.heap.size w [own 3 (.slice A2 l1.length c2) (vI l1)] ∧ (dice_Sums_J2 l1).bind some = some r) ?_ ?_
    · rintro a w ⟨l1, A2, c2, hF, hS, hm⟩
      unfold dice_Sums_J2 at hm
      refine reg [] [] [2, 3] [pl 2 (.slice A2 l1.length c2), pl 3 (.int .i64 0)] hF hS Fol (by kernel_rfl) (by kernel_rfl) (by kernel_rfl) ?_ (fun a w hF hS => ?_)
      · exact obs_nil
      refine wp_ret ?_
      have hm : some (l1, 0) = some r := hm
      obtain rfl := Option.some.inj hm
      exact retV (rs := [.tmp 2, .tmp 3]) (vs := [.slice A2 l1.length c2, .int .i64 0]) hF rfl (rv_t (by kernel_rfl) <| rv_t (by kernel_rfl) <| rv_nil) rfl ⟨_, rfl, A2, c2, rfl, hS⟩
    · refine reg [] [] [5, 18, 19, 20] [pl 5 (.slice g1 ([1]).length 1), pl 18 (.slice A1 dice1.length c1), pl 19 (.int .i64 (dice1.length : Int)), pl 20 (.int .i64 0)] hF hS Fol (by kernel_rfl) (by kernel_rfl) (by kernel_rfl) ?_ (fun a w hF hS => ?_)
      · exact obs_nil
      refine wp_block ?_
      refine wp_loop_model (S := (List Int × Int)) (R := (List Int)) (dice_Sums_L1 dice1) (fun x => (dice_Sums_K1 x).bind some) r (fun (x : (List Int × Int)) a w => ∃ (A3 : Option Addr) (c3 : Nat), Fr 55 [pl 5 (.slice A3 x.1.length c3), pl 18 (.slice A1 dice1.length c1), pl 19 (.int .i64 (dice1.length : Int)), pl 20 (.int .i64 x.2)] a ∧ Sep w0 w0.heap.size w [own 3 (.slice A3 x.1.length c3) (vI x.1)]) (assoc_b hm) ⟨g1, 1, hF.weak [5, 18, 19, 20] (by kernel_rfl), hS⟩ ?_
      clear hF hS hm
      rintro nn1 ⟨l2, z1⟩ a w ⟨A3, c3, hF, hS⟩ hm
      generalize hφ1 : stK (dice_Sums_L1 dice1) nn1 (fun x => (dice_Sums_K1 x).bind some) = φ1 at hm
      unfold dice_Sums_L1 at hm
      dsimp only at hF hS hm
      refine reg [] [] [5, 18, 19, 20, 21] [pl 5 (.slice A3 l2.length c3), pl 18 (.slice A1 dice1.length c1), pl 19 (.int .i64 (dice1.length : Int)), pl 20 (.int .i64 z1), pl 21 (.bool (decide (z1 < (dice1.length : Int))))] hF hS Fol (by kernel_rfl) (by kernel_rfl) (by kernel_rfl) ?_ (fun a w hF hS => ?_)
      · exact obs_nil
      refine seq_cut (fun a w => Fr 55 [pl 5 (.slice A3 l2.length c3), pl 18 (.slice A1 dice1.length c1), pl 19 (.int .i64 (dice1.length : Int)), pl 20 (.int .i64 z1)] a ∧ Sep w0 w0.heap.size w [own 3 (.slice A3 l2.length c3) (vI l2)] ∧ ((dice_Sums_J3 dice1 l2 z1)).bind φ1 = some r) ?_ ?_
      · rintro a w ⟨hF, hS, hm⟩
        unfold dice_Sums_J3 at hm
        refine seq_cut (fun a w => ∃ (l3 : List Int) (A4 : Option Addr) (c4 : Nat), Fr 55 [pl 5 (.slice A4 l3.length c4), pl 18 (.slice A1 dice1.length c1), pl 19 (.int .i64 (dice1.length : Int)), pl 20 (.int .i64 z1)] a ∧ Sep w0 w0.heap.size w [own 3 (.slice A4 l3.length c4) (vI l3)] ∧ ((dice_Sums_J4 z1) l3).bind φ1 = some r) ?_ ?_
        · rintro a w ⟨l3, A4, c4, hF, hS, hm⟩
          unfold dice_Sums_J4 at hm
          refine reg1 [] [] [5, 18, 19, 20] [pl 5 (.slice A4 l3.length c4), pl 18 (.slice A1 dice1.length c1), pl 19 (.int .i64 (dice1.length : Int)), pl 20 (.int .i64 (w64 (z1 + 1)))] hF hS Fol (by kernel_rfl) (by kernel_rfl) (by kernel_rfl) ?_ (fun a w hF hS => ?_)
          · exact obs_nil
          refine then_n ?_
          rw [← hφ1] at hm
          exact ⟨(l3, (w64 (z1 + 1))), ⟨A4, c4, hF.weak [5, 18, 19, 20] (by kernel_rfl), hS⟩, hm⟩
        · refine wp_block ?_
          obtain ⟨hp1, hm⟩ := asrt_b hm
          refine reg [⟨true, [], vS (Instr.indexAt 22 (.slice A1 dice1.length c1) (.int .i64 z1)), .pointer (some (sAddr A1 z1))⟩, ⟨false, [], vS (Instr.loadAt 3 (.pointer (some (sAddr A1 z1)))), .int .i64 (geti dice1 z1)⟩] [some (.pointer (some (sAddr A1 z1))), some (.int .i64 (geti dice1 z1)), none] [5, 7, 18, 19, 20] [pl 5 (.slice A3 l2.length c3), pl 7 (.int .i64 (geti dice1 z1)), pl 18 (.slice A1 dice1.length c1), pl 19 (.int .i64 (dice1.length : Int)), pl 20 (.int .i64 z1)] hF hS Fol (by kernel_rfl) (by kernel_rfl) (by kernel_rfl) ?_ (fun a w hF hS => ?_)
          · exact obs_cons (ob_ixI Und22 hi3 hs3 (hr_dice1.sep hS) (fun _ => hp1)) <| obs_cons (ob_geti Agg3 (fun _ hS => ⟨_, (hr_dice1.sep hS)⟩) (fun _ => hp1)) <| obs_nil
          obtain ⟨hp2, hm⟩ := asrt_b hm
          refine seqR ?_
          refine at_run 5 [] [] [5, 7, 18, 19, 20, 28] [pl 5 (.slice A3 l2.length c3), pl 7 (.int .i64 (geti dice1 z1)), pl 18 (.slice A1 dice1.length c1), pl 19 (.int .i64 (dice1.length : Int)), pl 20 (.int .i64 z1), pl 28 (.int .i64 (w64 ((w64 ((l2.length : Int) + (geti dice1 z1))) - 1)))] hF hS (by kernel_rfl) (by kernel_rfl) ?_ (fun a w hF hS => ?_)
          · exact obs_nil
          obtain ⟨A5, c5, w, hrun, hS⟩ := run_mkI (P := Try.prog) (t := 22) hS .i64 .i64 Und22 hi3 hz3 hs3 hb3 hp2
          refine at_do (d := 29) hF (by kernel_rfl) (by kernel_rfl) hrun (fun a hF => ?_)
          refine at_run 1 [] [] [5, 7, 8, 18, 19, 20] [pl 5 (.slice A3 l2.length c3), pl 7 (.int .i64 (geti dice1 z1)), pl 8 (.slice A5 (List.replicate (Int.toNat (w64 ((w64 ((l2.length : Int) + (geti dice1 z1))) - 1))) (0 : Int)).length c5), pl 18 (.slice A1 dice1.length c1), pl 19 (.int .i64 (dice1.length : Int)), pl 20 (.int .i64 z1)] hF hS (by kernel_rfl) (by kernel_rfl) ?_ (fun a w hF hS => ?_)
          · exact obs_nil
          refine at_end [5, 7, 8, 18, 19, 20] [pl 5 (.slice A3 l2.length c3), pl 7 (.int .i64 (geti dice1 z1)), pl 8 (.slice A5 (List.replicate (Int.toNat (w64 ((w64 ((l2.length : Int) + (geti dice1 z1))) - 1))) (0 : Int)).length c5), pl 18 (.slice A1 dice1.length c1), pl 19 (.int .i64 (dice1.length : Int)), pl 20 (.int .i64 z1)] hF rfl (by kernel_rfl) (fun hF => ?_)
          refine then_n ?_
          refine seq_cut (fun a w => ∃ (next1 : List Int) (A6 : Option Addr) (c6 : Nat), Fr 55 [pl 8 (.slice A6 next1.length c6), pl 18 (.slice A1 dice1.length c1), pl 19 (.int .i64 (dice1.length : Int)), pl 20 (.int .i64 z1)] a ∧ Sep w0 w0.heap.size w [own 3 (.slice A6 next1.length c6) (vI next1)] ∧ ((dice_Sums_J5 z1) next1).bind φ1 = some r) ?_ ?_
          · rintro a w ⟨next1, A6, c6, hF, hS, hm⟩
            unfold dice_Sums_J5 at hm
            refine reg1 [] [] [5, 18, 19, 20] [pl 5 (.slice A6 next1.length c6), pl 18 (.slice A1 dice1.length c1), pl 19 (.int .i64 (dice1.length : Int)), pl 20 (.int .i64 z1)] hF hS Fol (by kernel_rfl) (by kernel_rfl) (by kernel_rfl) ?_ (fun a w hF hS => ?_)
            · exact obs_nil
            refine block_n ?_
            refine then_n ?_
            exact ⟨next1, A6, c6, hF.weak [5, 18, 19, 20] (by kernel_rfl), hS, hm⟩
          · refine reg [] [] [7, 8, 18, 19, 20, 30, 31, 32] [pl 7 (.int .i64 (geti dice1 z1)), pl 8 (.slice A5 (List.replicate (Int.toNat (w64 ((w64 ((l2.length : Int) + (geti dice1 z1))) - 1))) (0 : Int)).length c5), pl 18 (.slice A1 dice1.length c1), pl 19 (.int .i64 (dice1.length : Int)), pl 20 (.int .i64 z1), pl 30 (.slice A3 l2.length c3), pl 31 (.int .i64 (l2.length : Int)), pl 32 (.int .i64 0)] hF hS Fol (by kernel_rfl) (by kernel_rfl) (by kernel_rfl) ?_ (fun a w hF hS => ?_)
            · exact obs_nil
            refine wp_block ?_
            refine wp_loop_model (S := (List Int × Int)) (R := (List Int)) (dice_Sums_L2 dice1 l2 z1) (fun x => ((dice_Sums_K2 z1) x).bind φ1) r (fun (x : (List Int × Int)) a w => ∃ (A7 : Option Addr) (c7 : Nat), Fr 55 [pl 7 (.int .i64 (geti dice1 z1)), pl 8 (.slice A7 x.1.length c7), pl 18 (.slice A1 dice1.length c1), pl 19 (.int .i64 (dice1.length : Int)), pl 20 (.int .i64 z1), pl 30 (.slice A3 l2.length c3), pl 31 (.int .i64 (l2.length : Int)), pl 32 (.int .i64 x.2)] a ∧ Sep w0 w0.heap.size w [own 3 (.slice A7 x.1.length c7) (vI x.1), own 3 (.slice A3 l2.length c3) (vI l2)]) (assoc_b hm) ⟨A5, c5, hF.weak [7, 8, 18, 19, 20, 30, 31, 32] (by kernel_rfl), hS⟩ ?_
            clear hF hS hm
            rintro nn2 ⟨next2, z2⟩ a w ⟨A7, c7, hF, hS⟩ hm
            generalize hφ2 : stK (dice_Sums_L2 dice1 l2 z1) nn2 (fun x => ((dice_Sums_K2 z1) x).bind φ1) = φ2 at hm
            unfold dice_Sums_L2 at hm
            dsimp only at hF hS hm
            refine reg [] [] [7, 8, 18, 19, 20, 30, 31, 32, 33] [pl 7 (.int .i64 (geti dice1 z1)), pl 8 (.slice A7 next2.length c7), pl 18 (.slice A1 dice1.length c1), pl 19 (.int .i64 (dice1.length : Int)), pl 20 (.int .i64 z1), pl 30 (.slice A3 l2.length c3), pl 31 (.int .i64 (l2.length : Int)), pl 32 (.int .i64 z2), pl 33 (.bool (decide (z2 < (l2.length : Int))))] hF hS Fol (by kernel_rfl) (by kernel_rfl) (by kernel_rfl) ?_ (fun a w hF hS => ?_)
            · exact obs_nil
            refine seq_cut (fun a w => Fr 55 [pl 7 (.int .i64 (geti dice1 z1)), pl 8 (.slice A7 next2.length c7), pl 18 (.slice A1 dice1.length c1), pl 19 (.int .i64 (dice1.length : Int)), pl 20 (.int .i64 z1), pl 30 (.slice A3 l2.length c3), pl 31 (.int .i64 (l2.length : Int)), pl 32 (.int .i64 z2)] a ∧ Sep w0 w0.heap.size w [own 3 (.slice A7 next2.length c7) (vI next2), own 3 (.slice A3 l2.length c3) (vI l2)] ∧ ((dice_Sums_J6 dice1 l2 z1 next2 z2)).bind φ2 = some r) ?_ ?_
            · rintro a w ⟨hF, hS, hm⟩
              unfold dice_Sums_J6 at hm
              refine seq_cut (fun a w => ∃ (next3 : List Int) (A8 : Option Addr) (c8 : Nat), Fr 55 [pl 7 (.int .i64 (geti dice1 z1)), pl 8 (.slice A8 next3.length c8), pl 18 (.slice A1 dice1.length c1), pl 19 (.int .i64 (dice1.length : Int)), pl 20 (.int .i64 z1), pl 30 (.slice A3 l2.length c3), pl 31 (.int .i64 (l2.length : Int)), pl 32 (.int .i64 z2)] a ∧ Sep w0 w0.heap.size w [own 3 (.slice A8 next3.length c8) (vI next3), own 3 (.slice A3 l2.length c3) (vI l2)] ∧ ((dice_Sums_J7 z2) next3).bind φ2 = some r) ?_ ?_
              · rintro a w ⟨next3, A8, c8, hF, hS, hm⟩
                unfold dice_Sums_J7 at hm
                refine reg1 [] [] [7, 8, 18, 19, 20, 30, 31, 32] [pl 7 (.int .i64 (geti dice1 z1)), pl 8 (.slice A8 next3.length c8), pl 18 (.slice A1 dice1.length c1), pl 19 (.int .i64 (dice1.length : Int)), pl 20 (.int .i64 z1), pl 30 (.slice A3 l2.length c3), pl 31 (.int .i64 (l2.length : Int)), pl 32 (.int .i64 (w64 (z2 + 1)))] hF hS Fol (by kernel_rfl) (by kernel_rfl) (by kernel_rfl) ?_ (fun a w hF hS => ?_)
                · exact obs_nil
                refine then_n ?_
                rw [← hφ2] at hm
                exact ⟨(next3, (w64 (z2 + 1))), ⟨A8, c8, hF.weak [7, 8, 18, 19, 20, 30, 31, 32] (by kernel_rfl), hS⟩, hm⟩
              · refine wp_block ?_
                obtain ⟨hp3, hm⟩ := asrt_b hm
                refine reg [⟨true, [], vS (Instr.indexAt 22 (.slice A3 l2.length c3) (.int .i64 z2)), .pointer (some (sAddr A3 z2))⟩, ⟨false, [], vS (Instr.loadAt 3 (.pointer (some (sAddr A3 z2)))), .int .i64 (geti l2 z2)⟩] [none, some (.pointer (some (sAddr A3 z2))), some (.int .i64 (geti l2 z2)), none, none] [7, 8, 9, 10, 18, 19, 20, 30, 31, 32] [pl 7 (.int .i64 (geti dice1 z1)), pl 8 (.slice A7 next2.length c7), pl 9 (.int .i64 z2), pl 10 (.int .i64 (geti l2 z2)), pl 18 (.slice A1 dice1.length c1), pl 19 (.int .i64 (dice1.length : Int)), pl 20 (.int .i64 z1), pl 30 (.slice A3 l2.length c3), pl 31 (.int .i64 (l2.length : Int)), pl 32 (.int .i64 z2)] hF hS Fol (by kernel_rfl) (by kernel_rfl) (by kernel_rfl) ?_ (fun a w hF hS => ?_)
                · exact obs_cons (ob_ixI Und22 hi3 hs3 (hS.at_ 1 rfl).rd (fun _ => hp3)) <| obs_cons (ob_geti Agg3 (fun _ hS => ⟨_, (hS.at_ 1 rfl).rd⟩) (fun _ => hp3)) <| obs_nil
                refine reg [] [] [7, 8, 9, 10, 18, 19, 20, 30, 31, 32, 37, 38] [pl 7 (.int .i64 (geti dice1 z1)), pl 8 (.slice A7 next2.length c7), pl 9 (.int .i64 z2), pl 10 (.int .i64 (geti l2 z2)), pl 18 (.slice A1 dice1.length c1), pl 19 (.int .i64 (dice1.length : Int)), pl 20 (.int .i64 z1), pl 30 (.slice A3 l2.length c3), pl 31 (.int .i64 (l2.length : Int)), pl 32 (.int .i64 z2), pl 37 (.int .i64 (geti dice1 z1)), pl 38 (.int .i64 0)] hF hS Fol (by kernel_rfl) (by kernel_rfl) (by kernel_rfl) ?_ (fun a w hF hS => ?_)
                · exact obs_nil
                refine wp_block ?_
                refine wp_loop_model (S := (List Int × Int)) (R := (List Int)) (dice_Sums_L3 dice1 l2 z1 z2) (fun x => ((dice_Sums_K3 z2) x).bind φ2) r (fun (x : (List Int × Int)) a w => ∃ (A9 : Option Addr) (c9 : Nat), Fr 55 [pl 7 (.int .i64 (geti dice1 z1)), pl 8 (.slice A9 x.1.length c9), pl 9 (.int .i64 z2), pl 10 (.int .i64 (geti l2 z2)), pl 18 (.slice A1 dice1.length c1), pl 19 (.int .i64 (dice1.length : Int)), pl 20 (.int .i64 z1), pl 30 (.slice A3 l2.length c3), pl 31 (.int .i64 (l2.length : Int)), pl 32 (.int .i64 z2), pl 37 (.int .i64 (geti dice1 z1)), pl 38 (.int .i64 x.2)] a ∧ Sep w0 w0.heap.size w [own 3 (.slice A9 x.1.length c9) (vI x.1), own 3 (.slice A3 l2.length c3) (vI l2)]) (assoc_b hm) ⟨A7, c7, hF.weak [7, 8, 9, 10, 18, 19, 20, 30, 31, 32, 37, 38] (by kernel_rfl), hS⟩ ?_
                clear hF hS hm
                rintro nn3 ⟨next4, z3⟩ a w ⟨A9, c9, hF, hS⟩ hm
                generalize hφ3 : stK (dice_Sums_L3 dice1 l2 z1 z2) nn3 (fun x => ((dice_Sums_K3 z2) x).bind φ2) = φ3 at hm
                unfold dice_Sums_L3 at hm
                dsimp only at hF hS hm
                refine reg [] [] [7, 8, 9, 10, 18, 19, 20, 30, 31, 32, 37, 38, 39] [pl 7 (.int .i64 (geti dice1 z1)), pl 8 (.slice A9 next4.length c9), pl 9 (.int .i64 z2), pl 10 (.int .i64 (geti l2 z2)), pl 18 (.slice A1 dice1.length c1), pl 19 (.int .i64 (dice1.length : Int)), pl 20 (.int .i64 z1), pl 30 (.slice A3 l2.length c3), pl 31 (.int .i64 (l2.length : Int)), pl 32 (.int .i64 z2), pl 37 (.int .i64 (geti dice1 z1)), pl 38 (.int .i64 z3), pl 39 (.bool (decide (z3 < (geti dice1 z1))))] hF hS Fol (by kernel_rfl) (by kernel_rfl) (by kernel_rfl) ?_ (fun a w hF hS => ?_)
                · exact obs_nil
                refine seq_cut (fun a w => Fr 55 [pl 7 (.int .i64 (geti dice1 z1)), pl 8 (.slice A9 next4.length c9), pl 9 (.int .i64 z2), pl 10 (.int .i64 (geti l2 z2)), pl 18 (.slice A1 dice1.length c1), pl 19 (.int .i64 (dice1.length : Int)), pl 20 (.int .i64 z1), pl 30 (.slice A3 l2.length c3), pl 31 (.int .i64 (l2.length : Int)), pl 32 (.int .i64 z2), pl 37 (.int .i64 (geti dice1 z1)), pl 38 (.int .i64 z3)] a ∧ Sep w0 w0.heap.size w [own 3 (.slice A9 next4.length c9) (vI next4), own 3 (.slice A3 l2.length c3) (vI l2)] ∧ ((dice_Sums_J8 l2 z2 next4 z3)).bind φ3 = some r) ?_ ?_
                · rintro a w ⟨hF, hS, hm⟩
                  unfold dice_Sums_J8 at hm
                  refine seq_cut (fun a w => ∃ (next5 : List Int) (A10 : Option Addr) (c10 : Nat), Fr 55 [pl 7 (.int .i64 (geti dice1 z1)), pl 8 (.slice A10 next5.length c10), pl 9 (.int .i64 z2), pl 10 (.int .i64 (geti l2 z2)), pl 18 (.slice A1 dice1.length c1), pl 19 (.int .i64 (dice1.length : Int)), pl 20 (.int .i64 z1), pl 30 (.slice A3 l2.length c3), pl 31 (.int .i64 (l2.length : Int)), pl 32 (.int .i64 z2), pl 37 (.int .i64 (geti dice1 z1)), pl 38 (.int .i64 z3)] a ∧ Sep w0 w0.heap.size w [own 3 (.slice A10 next5.length c10) (vI next5), own 3 (.slice A3 l2.length c3) (vI l2)] ∧ ((dice_Sums_J9 z3) next5).bind φ3 = some r) ?_ ?_
                  · rintro a w ⟨next5, A10, c10, hF, hS, hm⟩
                    unfold dice_Sums_J9 at hm
                    refine reg1 [] [] [7, 8, 9, 10, 18, 19, 20, 30, 31, 32, 37, 38] [pl 7 (.int .i64 (geti dice1 z1)), pl 8 (.slice A10 next5.length c10), pl 9 (.int .i64 z2), pl 10 (.int .i64 (geti l2 z2)), pl 18 (.slice A1 dice1.length c1), pl 19 (.int .i64 (dice1.length : Int)), pl 20 (.int .i64 z1), pl 30 (.slice A3 l2.length c3), pl 31 (.int .i64 (l2.length : Int)), pl 32 (.int .i64 z2), pl 37 (.int .i64 (geti dice1 z1)), pl 38 (.int .i64 (w64 (z3 + 1)))] hF hS Fol (by kernel_rfl) (by kernel_rfl) (by kernel_rfl) ?_ (fun a w hF hS => ?_)
                    · exact obs_nil
                    refine then_n ?_
                    rw [← hφ3] at hm
                    exact ⟨(next5, (w64 (z3 + 1))), ⟨A10, c10, hF.weak [7, 8, 9, 10, 18, 19, 20, 30, 31, 32, 37, 38] (by kernel_rfl), hS⟩, hm⟩
                  · refine wp_block ?_
                    refine reg [] [] [7, 8, 9, 10, 11, 18, 19, 20, 30, 31, 32, 37, 38] [pl 7 (.int .i64 (geti dice1 z1)), pl 8 (.slice A9 next4.length c9), pl 9 (.int .i64 z2), pl 10 (.int .i64 (geti l2 z2)), pl 11 (.int .i64 z3), pl 18 (.slice A1 dice1.length c1), pl 19 (.int .i64 (dice1.length : Int)), pl 20 (.int .i64 z1), pl 30 (.slice A3 l2.length c3), pl 31 (.int .i64 (l2.length : Int)), pl 32 (.int .i64 z2), pl 37 (.int .i64 (geti dice1 z1)), pl 38 (.int .i64 z3)] hF hS Fol (by kernel_rfl) (by kernel_rfl) (by kernel_rfl) ?_ (fun a w hF hS => ?_)
                    · exact obs_nil
                    obtain ⟨hp4, hm⟩ := asrt_b hm
                    obtain ⟨hp5, hm⟩ := asrt_b hm
                    refine oneR ?_
                    refine at_run 9 [⟨true, [], vS (Instr.indexAt 22 (.slice A9 next4.length c9) (.int .i64 (w64 (z2 + z3)))), .pointer (some (sAddr A9 (w64 (z2 + z3))))⟩, ⟨false, [], vS (Instr.loadAt 3 (.pointer (some (sAddr A9 (w64 (z2 + z3)))))), .int .i64 (geti next4 (w64 (z2 + z3)))⟩, ⟨true, [], vS (Instr.indexAt 22 (.slice A9 next4.length c9) (.int .i64 (w64 (z2 + z3)))), .pointer (some (sAddr A9 (w64 (z2 + z3))))⟩] [none, none, none, none, some (.pointer (some (sAddr A9 (w64 (z2 + z3))))), some (.int .i64 (geti next4 (w64 (z2 + z3)))), none, none, some (.pointer (some (sAddr A9 (w64 (z2 + z3)))))] [7, 8, 9, 10, 18, 19, 20, 30, 31, 32, 37, 38, 48, 49] [pl 7 (.int .i64 (geti dice1 z1)), pl 8 (.slice A9 next4.length c9), pl 9 (.int .i64 z2), pl 10 (.int .i64 (geti l2 z2)), pl 18 (.slice A1 dice1.length c1), pl 19 (.int .i64 (dice1.length : Int)), pl 20 (.int .i64 z1), pl 30 (.slice A3 l2.length c3), pl 31 (.int .i64 (l2.length : Int)), pl 32 (.int .i64 z2), pl 37 (.int .i64 (geti dice1 z1)), pl 38 (.int .i64 z3), pl 48 (.int .i64 (w64 ((geti next4 (w64 (z2 + z3))) + (geti l2 z2)))), pl 49 (.pointer (some (sAddr A9 (w64 (z2 + z3)))))] hF hS (by kernel_rfl) (by kernel_rfl) ?_ (fun a w hF hS => ?_)
                    · exact obs_cons (ob_ixI Und22 hi3 hs3 (hS.at_ 0 rfl).rd (fun _ => hp4)) <| obs_cons (ob_geti Agg3 (fun _ hS => ⟨_, (hS.at_ 0 rfl).rd⟩) (fun _ => hp4)) <| obs_cons (ob_ixI Und22 hi3 hs3 (hS.at_ 0 rfl).rd (fun _ => hp5)) <| obs_nil
                    obtain ⟨w, hrun, hS⟩ := run_setI (P := Try.prog) (t := 3) (x := w64 ((geti next4 (w64 (z2 + z3))) + (geti l2 z2))) (hS.at_ 0 rfl) hi3 hs3 hp5
                    refine at_skip hF (by kernel_rfl) hrun ?_
                    have hS : Sep w0 w0.heap.size w [own 3 (.slice A9 (next4.set (Int.toNat (w64 (z2 + z3))) (w64 ((geti next4 (w64 (z2 + z3))) + (geti l2 z2)))).length c9) (vI (next4.set (Int.toNat (w64 (z2 + z3))) (w64 ((geti next4 (w64 (z2 + z3))) + (geti l2 z2))))), own 3 (.slice A3 l2.length c3) (vI l2)] := hS
                    have hF := hF.cast (t := 8) (v := .slice A9 next4.length c9) (v' := .slice A9 (next4.set (Int.toNat (w64 (z2 + z3))) (w64 ((geti next4 (w64 (z2 + z3))) + (geti l2 z2)))).length c9) rfl rfl (by rw [List.length_set])
                    refine at_end [7, 8, 9, 10, 18, 19, 20, 30, 31, 32, 37, 38] [pl 7 (.int .i64 (geti dice1 z1)), pl 8 (.slice A9 (next4.set (Int.toNat (w64 (z2 + z3))) (w64 ((geti next4 (w64 (z2 + z3))) + (geti l2 z2)))).length c9), pl 9 (.int .i64 z2), pl 10 (.int .i64 (geti l2 z2)), pl 18 (.slice A1 dice1.length c1), pl 19 (.int .i64 (dice1.length : Int)), pl 20 (.int .i64 z1), pl 30 (.slice A3 l2.length c3), pl 31 (.int .i64 (l2.length : Int)), pl 32 (.int .i64 z2), pl 37 (.int .i64 (geti dice1 z1)), pl 38 (.int .i64 z3)] hF rfl (by kernel_rfl) (fun hF => ?_)
                    refine block_n ?_
                    refine then_n ?_
                    exact ⟨(next4.set (Int.toNat (w64 (z2 + z3))) (w64 ((geti next4 (w64 (z2 + z3))) + (geti l2 z2)))), A9, c9, hF.weak [7, 8, 9, 10, 18, 19, 20, 30, 31, 32, 37, 38] (by kernel_rfl), hS, hm⟩
                · refine cond_ev (t := 39) (b := decide (z3 < (geti dice1 z1))) hF (by kernel_rfl) (fun hb => ?_) (fun hb => ?_)
                  · replace hm := if_t hm hb
                    refine wp_skip ?_
                    refine then_n ?_
                    exact ⟨hF.weak [7, 8, 9, 10, 18, 19, 20, 30, 31, 32, 37, 38] (by kernel_rfl), hS, hm⟩
                  · replace hm := if_f hm hb
                    refine wp_exit ?_
                    refine then_e (then_e (block_e (block_n (then_n ?_))))
                    rw [← hφ3] at hm
                    have hm : ((dice_Sums_J7 z2) next4).bind φ2 = some r := hm
                    exact ⟨next4, A9, c9, hF.weak [7, 8, 18, 19, 20, 30, 31, 32] (by kernel_rfl), hS, hm⟩
            · refine cond_ev (t := 33) (b := decide (z2 < (l2.length : Int))) hF (by kernel_rfl) (fun hb => ?_) (fun hb => ?_)
              · replace hm := if_t hm hb
                refine wp_skip ?_
                refine then_n ?_
                exact ⟨hF.weak [7, 8, 18, 19, 20, 30, 31, 32] (by kernel_rfl), hS, hm⟩
              · replace hm := if_f hm hb
                refine wp_exit ?_
                refine then_e (then_e (block_e (then_n ?_)))
                have hS := hS.pick [0] (by decide)
                rw [← hφ2] at hm
                have hm : ((dice_Sums_J5 z1) next2).bind φ1 = some r := hm
                exact ⟨next2, A7, c7, hF.weak [8, 18, 19, 20] (by kernel_rfl), hS, hm⟩
      · refine cond_ev (t := 21) (b := decide (z1 < (dice1.length : Int))) hF (by kernel_rfl) (fun hb => ?_) (fun hb => ?_)
        · replace hm := if_t hm hb
          refine wp_skip ?_
          refine then_n ?_
          exact ⟨hF.weak [5, 18, 19, 20] (by kernel_rfl), hS, hm⟩
        · replace hm := if_f hm hb
          refine wp_exit ?_
          refine then_e (then_e (block_e (then_n ?_)))
          rw [← hφ1] at hm
          have hm : (dice_Sums_J2 l2).bind some = some r := hm
          exact ⟨l2, A3, c3, hF.weak [5] (by kernel_rfl), hS, hm⟩
  · obtain ⟨r1, hr1, hm⟩ := call_b hm
    refine reg [⟨false, [], callFunc 79 #[.slice A1 dice1.length c1], .int .i64 r1⟩] [none, some (.int .i64 r1), none] [0, 4] [pl 0 (.slice A1 dice1.length c1), pl 4 (.int .i64 r1)] hF hS Fol (by kernel_rfl) (by kernel_rfl) (by kernel_rfl) ?_ (fun a w hF hS => ?_)
    · exact obs_cons (ob_call Try.func79 (by kernel_rfl) rfl (fun _ _ hS => quiet_of hS (dice_check_w hr1 (hr_dice1.sep hS) _hc_dice1))) <| obs_nil
    refine reg [] [] [0, 4, 15] [pl 0 (.slice A1 dice1.length c1), pl 4 (.int .i64 r1), pl 15 (.bool (r1 != 0))] hF hS Fol (by kernel_rfl) (by kernel_rfl) (by kernel_rfl) ?_ (fun a w hF hS => ?_)
    · exact obs_nil
    refine cond_ev (t := 15) (b := (r1 != 0)) hF (by kernel_rfl) (fun hb => ?_) (fun hb => ?_)
    · replace hm := if_t hm hb
      refine reg [] [] [2, 3] [pl 2 (.slice none 0 0), pl 3 (.int .i64 r1)] hF hS Fol (by kernel_rfl) (by kernel_rfl) (by kernel_rfl) ?_ (fun a w hF hS => ?_)
      · exact obs_nil
      refine wp_ret ?_
      refine then_r ?_
      have hS := hS.nil 3
      have hm : some (([] : List Int), r1) = some r := hm
      obtain rfl := Option.some.inj hm
      exact retV (rs := [.tmp 2, .tmp 3]) (vs := [.slice none 0 0, .int .i64 r1]) hF rfl (rv_t (by kernel_rfl) <| rv_t (by kernel_rfl) <| rv_nil) rfl ⟨_, rfl, none, 0, rfl, hS⟩
    · replace hm := if_f hm hb
      refine wp_skip ?_
      refine then_n ?_
      exact ⟨hF.weak [0] (by kernel_rfl), hS, hm⟩

noncomputable def gameroomlaw_DiceSums_J8 (k1 : Int) (x5 : Int) (y5 : Int) (z6 : Int) : Option (St (Int × Int × Int × Int) (Int × Int × Int)) :=
  some (.next (x5, y5, z6, (w64 (k1 + 1))))

noncomputable def gameroomlaw_DiceSums_J7 (a1 : List Int) (b1 : List Int) (i1 : Int) (x4 : Int) (y4 : Int) (z5 : Int) (k1 : Int) : Option (St (Int × Int × Int × Int) (Int × Int × Int)) :=
  asrt (0 ≤ i1 ∧ i1 < (a1.length : Int)) <| asrt (0 ≤ k1 ∧ k1 < (b1.length : Int)) <| if (decide ((geti b1 k1) < (geti a1 i1))) then ((gameroomlaw_DiceSums_J8 k1) (w64 (x4 + 1)) y4 z5) else (asrt (0 ≤ i1 ∧ i1 < (a1.length : Int)) <| asrt (0 ≤ k1 ∧ k1 < (b1.length : Int)) <| if ((geti a1 i1) == (geti b1 k1)) then ((gameroomlaw_DiceSums_J8 k1) x4 (w64 (y4 + 1)) z5) else ((gameroomlaw_DiceSums_J8 k1) x4 y4 (w64 (z5 + 1))))

noncomputable def gameroomlaw_DiceSums_L2 (a1 : List Int) (b1 : List Int) (i1 : Int) : (Int × Int × Int × Int) → Option (St (Int × Int × Int × Int) (Int × Int × Int)) :=
  fun (x : (Int × Int × Int × Int)) => match x with | (x4, y4, z5, k1) => if (decide (k1 < (b1.length : Int))) then ((gameroomlaw_DiceSums_J7 a1 b1 i1 x4 y4 z5 k1)) else (some (.done (x4, y4, z5)))

noncomputable def gameroomlaw_DiceSums_J6 (i1 : Int) (x3 : Int) (y3 : Int) (z4 : Int) : Option (St (Int × Int × Int × Int) (Int × Int × Int)) :=
  some (.next (x3, y3, z4, (w64 (i1 + 1))))

noncomputable def gameroomlaw_DiceSums_K2 (i1 : Int) : (Int × Int × Int) → Option (St (Int × Int × Int × Int) (Int × Int × Int)) :=
  fun (x : (Int × Int × Int)) => match x with | (x3, y3, z4) => (gameroomlaw_DiceSums_J6 i1) x3 y3 z4

noncomputable def gameroomlaw_DiceSums_J5 (a1 : List Int) (b1 : List Int) (x2 : Int) (y2 : Int) (z3 : Int) (i1 : Int) : Option (St (Int × Int × Int × Int) (Int × Int × Int)) :=
  (loop (gameroomlaw_DiceSums_L2 a1 b1 i1) (x2, y2, z3, 0)).bind (gameroomlaw_DiceSums_K2 i1)

noncomputable def gameroomlaw_DiceSums_L1 (a1 : List Int) (b1 : List Int) : (Int × Int × Int × Int) → Option (St (Int × Int × Int × Int) (Int × Int × Int)) :=
  fun (x : (Int × Int × Int × Int)) => match x with | (x2, y2, z3, i1) => if (decide (i1 < (a1.length : Int))) then ((gameroomlaw_DiceSums_J5 a1 b1 x2 y2 z3 i1)) else (some (.done (x2, y2, z3)))

noncomputable def gameroomlaw_DiceSums_J4 (r5 : (Int × Int × Int × Int)) (x1 : Int) (y1 : Int) (z2 : Int) : Option Bool :=
  some ((((r5.2.2.2 == 0) && (r5.1 == x1)) && (r5.2.1 == y1)) && (r5.2.2.1 == z2))

noncomputable def gameroomlaw_DiceSums_K1 (r5 : (Int × Int × Int × Int)) : (Int × Int × Int) → Option Bool :=
  fun (x : (Int × Int × Int)) => match x with | (x1, y1, z2) => (gameroomlaw_DiceSums_J4 r5) x1 y1 z2

noncomputable def gameroomlaw_DiceSums_J3 (a1 : List Int) (b1 : List Int) (r5 : (Int × Int × Int × Int)) : Option Bool :=
  (loop (gameroomlaw_DiceSums_L1 a1 b1) (0, 0, 0, 0)).bind (gameroomlaw_DiceSums_K1 r5)

noncomputable def gameroomlaw_DiceSums_J1 (a1 : List Int) (b1 : List Int) (r5 : (Int × Int × Int × Int)) : Option Bool :=
  if ((((decide ((a1.length : Int) < 1)) || (decide ((20 : Int) < (a1.length : Int)))) || (decide ((b1.length : Int) < 1))) || (decide ((20 : Int) < (b1.length : Int)))) then (some ((((r5.2.2.2 == 3) && (r5.1 == 0)) && (r5.2.1 == 0)) && (r5.2.2.1 == 0))) else ((gameroomlaw_DiceSums_J3 a1 b1 r5))

noncomputable def gameroomlaw_DiceSums_J2 (a1 : List Int) (b1 : List Int) (r5 : (Int × Int × Int × Int)) (z1 : Bool) : Option Bool :=
  if z1 then (some false) else ((gameroomlaw_DiceSums_J1 a1 b1 r5))

noncomputable def gameroomlaw_DiceSums_m (l1 : List Int) (a1 : List Int) (b1 : List Int) : Option Bool :=
  (gameroomlaw_ints_m l1).bind fun r1 => (dice_Sums_m r1).bind fun r2 => (gameroomlaw_ints_m a1).bind fun r3 => (gameroomlaw_ints_m b1).bind fun r4 => (dice_Duel_m r3 r4).bind fun r5 => (gameroomref_DiceMay_m l1).bind fun r6 => if (r6 != 0) then (if ((r2.2 != r6) || (decide ((0 : Int) < (r2.1.length : Int)))) then (some false) else ((gameroomlaw_DiceSums_J1 a1 b1 r5))) else (((if (!(r2.2 != 0)) then gameroomref_SumWays_m l1 else some [])).bind fun r7 => ((if (!(r2.2 != 0)) then gameroomlaw_sameInts_m r2.1 r7 else some false)).bind fun r8 => (gameroomlaw_DiceSums_J2 a1 b1 r5) ((r2.2 != 0) || (!r8)))

set_option maxRecDepth 100000 in
set_option maxHeartbeats 4000000 in
theorem gameroomlaw_DiceSums_w {A1 : Option Addr} {c1 : Nat} {l1 : List Int} {A2 : Option Addr} {c2 : Nat} {a1 : List Int} {A3 : Option Addr} {c3 : Nat} {b1 : List Int} {r : Bool} {w0 : World} (hm : gameroomlaw_DiceSums_m l1 a1 b1 = some r) (hr_l1 : Rd w0 w0.heap.size A1 (vI l1)) (_hc_l1 : l1.length ≤ c1) (hr_a1 : Rd w0 w0.heap.size A2 (vI a1)) (_hc_a1 : a1.length ≤ c2) (hr_b1 : Rd w0 w0.heap.size A3 (vI b1)) (_hc_b1 : b1.length ≤ c3) :
    Calls Try.prog 12 #[.slice A1 l1.length c1, .slice A2 a1.length c2, .slice A3 b1.length c3] w0 fun e w' => e = .returned (.bool r) ∧ Sep w0 w0.heap.size w' [] := by
  obtain ⟨i3, hi3, hz3, hs3, hb3⟩ := info_parts Info3
  unfold gameroomlaw_DiceSums_m at hm
  replace hm := start_b hm
  refine enterS (l := [.slice A1 l1.length c1, .slice A2 a1.length c2, .slice A3 b1.length c3]) (n := 141) Try.func12 rfl rfl (by simp) (fun a w hF hS => ?_)
  refine reg [] [] [0, 1, 2] [pl 0 (.slice A1 l1.length c1), pl 1 (.slice A2 a1.length c2), pl 2 (.slice A3 b1.length c3)] hF hS Fol (by kernel_rfl) (by kernel_rfl) (by kernel_rfl) ?_ (fun a w hF hS => ?_)
  · exact obs_nil
  obtain ⟨r1, hr1, hm⟩ := call_b hm
  obtain ⟨r2, hr2, hm⟩ := call_b hm
  refine seqR ?_
  refine at_run 1 [] [] [0, 1, 2, 20] [pl 0 (.slice A1 l1.length c1), pl 1 (.slice A2 a1.length c2), pl 2 (.slice A3 b1.length c3), pl 20 (.slice A1 l1.length c1)] hF hS (by kernel_rfl) (by kernel_rfl) ?_ (fun a w hF hS => ?_)
  · exact obs_nil
  refine at_call (f := 16) (args := #[.slice A1 l1.length c1]) (d := 21) hF (by kernel_rfl) (by kernel_rfl) Try.func16 (by kernel_rfl) rfl (gameroomlaw_ints_w hr1 (hr_l1.sep hS) _hc_l1) (fun v a w hR hF => ?_)
  obtain ⟨A4, c4, rfl, hS'⟩ := hR
  have hS : Sep w0 w0.heap.size w [own 3 (.slice A4 r1.length c4) (vI r1)] := hS.merge hS'
  refine at_call (f := 42) (args := #[.slice A4 r1.length c4]) (d := 22) hF (by kernel_rfl) (by kernel_rfl) Try.func42 (by kernel_rfl) rfl (dice_Sums_w hr2 (hS.at_ 0 rfl).rd (hS.at_ 0 rfl).cap) (fun v a w hR hF => ?_)
  obtain ⟨A5, c5, rfl, hS'⟩ := hR
  have hS : Sep w0 w0.heap.size w [own 3 (.slice A5 r2.1.length c5) (vI r2.1), own 3 (.slice A4 r1.length c4) (vI r1)] := hS.merge hS'
  refine at_run 5 [] [] [0, 1, 2, 7, 8] [pl 0 (.slice A1 l1.length c1), pl 1 (.slice A2 a1.length c2), pl 2 (.slice A3 b1.length c3), pl 7 (.slice A5 r2.1.length c5), pl 8 (.int .i64 r2.2)] hF hS (by kernel_rfl) (by kernel_rfl) ?_ (fun a w hF hS => ?_)
  · exact obs_nil
  refine at_end [0, 1, 2, 7, 8] [pl 0 (.slice A1 l1.length c1), pl 1 (.slice A2 a1.length c2), pl 2 (.slice A3 b1.length c3), pl 7 (.slice A5 r2.1.length c5), pl 8 (.int .i64 r2.2)] hF rfl (by kernel_rfl) (fun hF => ?_)
  refine then_n ?_
  obtain ⟨r3, hr3, hm⟩ := call_b hm
  obtain ⟨r4, hr4, hm⟩ := call_b hm
  obtain ⟨r5, hr5, hm⟩ := call_b hm
  refine seqR ?_
  refine at_run 1 [] [] [0, 1, 2, 7, 8, 26] [pl 0 (.slice A1 l1.length c1), pl 1 (.slice A2 a1.length c2), pl 2 (.slice A3 b1.length c3), pl 7 (.slice A5 r2.1.length c5), pl 8 (.int .i64 r2.2), pl 26 (.slice A2 a1.length c2)] hF hS (by kernel_rfl) (by kernel_rfl) ?_ (fun a w hF hS => ?_)
  · exact obs_nil
  refine at_call (f := 16) (args := #[.slice A2 a1.length c2]) (d := 27) hF (by kernel_rfl) (by kernel_rfl) Try.func16 (by kernel_rfl) rfl (gameroomlaw_ints_w hr3 (hr_a1.sep hS) _hc_a1) (fun v a w hR hF => ?_)
  obtain ⟨A6, c6, rfl, hS'⟩ := hR
  have hS : Sep w0 w0.heap.size w [own 3 (.slice A6 r3.length c6) (vI r3), own 3 (.slice A5 r2.1.length c5) (vI r2.1), own 3 (.slice A4 r1.length c4) (vI r1)] := hS.merge hS'
  refine at_run 1 [] [] [0, 1, 2, 7, 8, 27, 28] [pl 0 (.slice A1 l1.length c1), pl 1 (.slice A2 a1.length c2), pl 2 (.slice A3 b1.length c3), pl 7 (.slice A5 r2.1.length c5), pl 8 (.int .i64 r2.2), pl 27 (.slice A6 r3.length c6), pl 28 (.slice A3 b1.length c3)] hF hS (by kernel_rfl) (by kernel_rfl) ?_ (fun a w hF hS => ?_)
  · exact obs_nil
  refine at_call (f := 16) (args := #[.slice A3 b1.length c3]) (d := 29) hF (by kernel_rfl) (by kernel_rfl) Try.func16 (by kernel_rfl) rfl (gameroomlaw_ints_w hr4 (hr_b1.sep hS) _hc_b1) (fun v a w hR hF => ?_)
  obtain ⟨A7, c7, rfl, hS'⟩ := hR
  have hS : Sep w0 w0.heap.size w [own 3 (.slice A7 r4.length c7) (vI r4), own 3 (.slice A6 r3.length c6) (vI r3), own 3 (.slice A5 r2.1.length c5) (vI r2.1), own 3 (.slice A4 r1.length c4) (vI r1)] := hS.merge hS'
  refine at_run 10 [⟨false, [], callFunc 43 #[.slice A6 r3.length c6, .slice A7 r4.length c7], .tuple #[.int .i64 r5.1, .int .i64 r5.2.1, .int .i64 r5.2.2.1, .int .i64 r5.2.2.2]⟩] [some (.tuple #[.int .i64 r5.1, .int .i64 r5.2.1, .int .i64 r5.2.2.1, .int .i64 r5.2.2.2]), none, none, none, none, none, none, none, none, none] [0, 1, 2, 7, 8, 9, 10, 11, 12] [pl 0 (.slice A1 l1.length c1), pl 1 (.slice A2 a1.length c2), pl 2 (.slice A3 b1.length c3), pl 7 (.slice A5 r2.1.length c5), pl 8 (.int .i64 r2.2), pl 9 (.int .i64 r5.1), pl 10 (.int .i64 r5.2.1), pl 11 (.int .i64 r5.2.2.1), pl 12 (.int .i64 r5.2.2.2)] hF hS (by kernel_rfl) (by kernel_rfl) ?_ (fun a w hF hS => ?_)
  · exact obs_cons (ob_call Try.func43 (by kernel_rfl) rfl (fun _ _ hS => quiet_of hS (dice_Duel_w hr5 (hS.at_ 1 rfl).rd (hS.at_ 1 rfl).cap (hS.at_ 0 rfl).rd (hS.at_ 0 rfl).cap))) <| obs_nil
  refine at_end [0, 1, 2, 7, 8, 9, 10, 11, 12] [pl 0 (.slice A1 l1.length c1), pl 1 (.slice A2 a1.length c2), pl 2 (.slice A3 b1.length c3), pl 7 (.slice A5 r2.1.length c5), pl 8 (.int .i64 r2.2), pl 9 (.int .i64 r5.1), pl 10 (.int .i64 r5.2.1), pl 11 (.int .i64 r5.2.2.1), pl 12 (.int .i64 r5.2.2.2)] hF rfl (by kernel_rfl) (fun hF => ?_)
  refine then_n ?_
  obtain ⟨r6, hr6, hm⟩ := call_b hm
  refine reg [⟨false, [], callFunc 44 #[.slice A1 l1.length c1], .int .i64 r6⟩] [none, some (.int .i64 r6), none] [0, 1, 2, 7, 8, 9, 10, 11, 12, 13] [pl 0 (.slice A1 l1.length c1), pl 1 (.slice A2 a1.length c2), pl 2 (.slice A3 b1.length c3), pl 7 (.slice A5 r2.1.length c5), pl 8 (.int .i64 r2.2), pl 9 (.int .i64 r5.1), pl 10 (.int .i64 r5.2.1), pl 11 (.int .i64 r5.2.2.1), pl 12 (.int .i64 r5.2.2.2), pl 13 (.int .i64 r6)] hF hS Fol (by kernel_rfl) (by kernel_rfl) (by kernel_rfl) ?_ (fun a w hF hS => ?_)
  · exact obs_cons (ob_call Try.func44 (by kernel_rfl) rfl (fun _ _ hS => quiet_of hS (gameroomref_DiceMay_w hr6 (hr_l1.sep hS) _hc_l1))) <| obs_nil
  refine seq_cut (fun a w => Fr 141 [pl 1 (.slice A2 a1.length c2), pl 2 (.slice A3 b1.length c3), pl 9 (.int .i64 r5.1), pl 10 (.int .i64 r5.2.1), pl 11 (.int .i64 r5.2.2.1), pl 12 (.int .i64 r5.2.2.2)] a ∧ Sep w0 w0.heap.size w [] ∧ ((gameroomlaw_DiceSums_J1 a1 b1 r5)).bind some = some r) ?_ ?_
  · rintro a w ⟨hF, hS, hm⟩
    unfold gameroomlaw_DiceSums_J1 at hm
    refine seq_cut (fun a w => Fr 141 [pl 1 (.slice A2 a1.length c2), pl 2 (.slice A3 b1.length c3), pl 9 (.int .i64 r5.1), pl 10 (.int .i64 r5.2.1), pl 11 (.int .i64 r5.2.2.1), pl 12 (.int .i64 r5.2.2.2)] a ∧ Sep w0 w0.heap.size w [] ∧ ((gameroomlaw_DiceSums_J3 a1 b1 r5)).bind some = some r) ?_ ?_
    · rintro a w ⟨hF, hS, hm⟩
      unfold gameroomlaw_DiceSums_J3 at hm
      refine reg [] [] [1, 2, 9, 10, 11, 12, 14, 15, 16] [pl 1 (.slice A2 a1.length c2), pl 2 (.slice A3 b1.length c3), pl 9 (.int .i64 r5.1), pl 10 (.int .i64 r5.2.1), pl 11 (.int .i64 r5.2.2.1), pl 12 (.int .i64 r5.2.2.2), pl 14 (.int .i64 0), pl 15 (.int .i64 0), pl 16 (.int .i64 0)] hF hS Fol (by kernel_rfl) (by kernel_rfl) (by kernel_rfl) ?_ (fun a w hF hS => ?_)
      · exact obs_nil
      refine seq_cut (fun a w => ∃ (x1 : Int) (y1 : Int) (z2 : Int), Fr 141 [pl 9 (.int .i64 r5.1), pl 10 (.int .i64 r5.2.1), pl 11 (.int .i64 r5.2.2.1), pl 12 (.int .i64 r5.2.2.2), pl 14 (.int .i64 x1), pl 15 (.int .i64 y1), pl 16 (.int .i64 z2)] a ∧ Sep w0 w0.heap.size w [] ∧ ((gameroomlaw_DiceSums_J4 r5) x1 y1 z2).bind some = some r) ?_ ?_
      · rintro a w ⟨x1, y1, z2, hF, hS, hm⟩
        unfold gameroomlaw_DiceSums_J4 at hm
        refine reg [] [] [6] [pl 6 (.bool ((((r5.2.2.2 == 0) && (r5.1 == x1)) && (r5.2.1 == y1)) && (r5.2.2.1 == z2)))] hF hS Fol (by kernel_rfl) (by kernel_rfl) (by kernel_rfl) ?_ (fun a w hF hS => ?_)
        · exact obs_nil
        refine wp_ret ?_
        have hm : some ((((r5.2.2.2 == 0) && (r5.1 == x1)) && (r5.2.1 == y1)) && (r5.2.2.1 == z2)) = some r := hm
        obtain rfl := Option.some.inj hm
        exact retV (rs := [.tmp 6]) (vs := [.bool ((((r5.2.2.2 == 0) && (r5.1 == x1)) && (r5.2.1 == y1)) && (r5.2.2.1 == z2))]) hF rfl (rv_t (by kernel_rfl) <| rv_nil) rfl ⟨rfl, hS⟩
      · refine reg [] [] [1, 2, 9, 10, 11, 12, 14, 15, 16, 17] [pl 1 (.slice A2 a1.length c2), pl 2 (.slice A3 b1.length c3), pl 9 (.int .i64 r5.1), pl 10 (.int .i64 r5.2.1), pl 11 (.int .i64 r5.2.2.1), pl 12 (.int .i64 r5.2.2.2), pl 14 (.int .i64 0), pl 15 (.int .i64 0), pl 16 (.int .i64 0), pl 17 (.int .i64 0)] hF hS Fol (by kernel_rfl) (by kernel_rfl) (by kernel_rfl) ?_ (fun a w hF hS => ?_)
        · exact obs_nil
        refine wp_block ?_
        refine wp_loop_model (S := (Int × Int × Int × Int)) (R := (Int × Int × Int)) (gameroomlaw_DiceSums_L1 a1 b1) (fun x => ((gameroomlaw_DiceSums_K1 r5) x).bind some) r (fun (x : (Int × Int × Int × Int)) a w => Fr 141 [pl 1 (.slice A2 a1.length c2), pl 2 (.slice A3 b1.length c3), pl 9 (.int .i64 r5.1), pl 10 (.int .i64 r5.2.1), pl 11 (.int .i64 r5.2.2.1), pl 12 (.int .i64 r5.2.2.2), pl 14 (.int .i64 x.1), pl 15 (.int .i64 x.2.1), pl 16 (.int .i64 x.2.2.1), pl 17 (.int .i64 x.2.2.2)] a ∧ Sep w0 w0.heap.size w []) (assoc_b hm) ⟨hF.weak [1, 2, 9, 10, 11, 12, 14, 15, 16, 17] (by kernel_rfl), hS⟩ ?_
        clear hF hS hm
        rintro nn1 ⟨x2, y2, z3, i1⟩ a w ⟨hF, hS⟩ hm
        generalize hφ1 : stK (gameroomlaw_DiceSums_L1 a1 b1) nn1 (fun x => ((gameroomlaw_DiceSums_K1 r5) x).bind some) = φ1 at hm
        unfold gameroomlaw_DiceSums_L1 at hm
        dsimp only at hF hS hm
        refine seq_cut (fun a w => Fr 141 [pl 1 (.slice A2 a1.length c2), pl 2 (.slice A3 b1.length c3), pl 9 (.int .i64 r5.1), pl 10 (.int .i64 r5.2.1), pl 11 (.int .i64 r5.2.2.1), pl 12 (.int .i64 r5.2.2.2), pl 14 (.int .i64 x2), pl 15 (.int .i64 y2), pl 16 (.int .i64 z3), pl 17 (.int .i64 i1)] a ∧ Sep w0 w0.heap.size w [] ∧ ((gameroomlaw_DiceSums_J5 a1 b1 x2 y2 z3 i1)).bind φ1 = some r) ?_ ?_
        · rintro a w ⟨hF, hS, hm⟩
          unfold gameroomlaw_DiceSums_J5 at hm
          refine seq_cut (fun a w => ∃ (x3 : Int) (y3 : Int) (z4 : Int), Fr 141 [pl 1 (.slice A2 a1.length c2), pl 2 (.slice A3 b1.length c3), pl 9 (.int .i64 r5.1), pl 10 (.int .i64 r5.2.1), pl 11 (.int .i64 r5.2.2.1), pl 12 (.int .i64 r5.2.2.2), pl 14 (.int .i64 x3), pl 15 (.int .i64 y3), pl 16 (.int .i64 z4), pl 17 (.int .i64 i1)] a ∧ Sep w0 w0.heap.size w [] ∧ ((gameroomlaw_DiceSums_J6 i1) x3 y3 z4).bind φ1 = some r) ?_ ?_
          · rintro a w ⟨x3, y3, z4, hF, hS, hm⟩
            unfold gameroomlaw_DiceSums_J6 at hm
            refine reg1 [] [] [1, 2, 9, 10, 11, 12, 14, 15, 16, 17] [pl 1 (.slice A2 a1.length c2), pl 2 (.slice A3 b1.length c3), pl 9 (.int .i64 r5.1), pl 10 (.int .i64 r5.2.1), pl 11 (.int .i64 r5.2.2.1), pl 12 (.int .i64 r5.2.2.2), pl 14 (.int .i64 x3), pl 15 (.int .i64 y3), pl 16 (.int .i64 z4), pl 17 (.int .i64 (w64 (i1 + 1)))] hF hS Fol (by kernel_rfl) (by kernel_rfl) (by kernel_rfl) ?_ (fun a w hF hS => ?_)
            · exact obs_nil
            refine then_n ?_
            rw [← hφ1] at hm
            exact ⟨(x3, y3, z4, (w64 (i1 + 1))), ⟨hF.weak [1, 2, 9, 10, 11, 12, 14, 15, 16, 17] (by kernel_rfl), hS⟩, hm⟩
          · refine wp_block ?_
            refine reg [] [] [1, 2, 9, 10, 11, 12, 14, 15, 16, 17, 18] [pl 1 (.slice A2 a1.length c2), pl 2 (.slice A3 b1.length c3), pl 9 (.int .i64 r5.1), pl 10 (.int .i64 r5.2.1), pl 11 (.int .i64 r5.2.2.1), pl 12 (.int .i64 r5.2.2.2), pl 14 (.int .i64 x2), pl 15 (.int .i64 y2), pl 16 (.int .i64 z3), pl 17 (.int .i64 i1), pl 18 (.int .i64 0)] hF hS Fol (by kernel_rfl) (by kernel_rfl) (by kernel_rfl) ?_ (fun a w hF hS => ?_)
            · exact obs_nil
            refine wp_block ?_
            refine wp_loop_model (S := (Int × Int × Int × Int)) (R := (Int × Int × Int)) (gameroomlaw_DiceSums_L2 a1 b1 i1) (fun x => ((gameroomlaw_DiceSums_K2 i1) x).bind φ1) r (fun (x : (Int × Int × Int × Int)) a w => Fr 141 [pl 1 (.slice A2 a1.length c2), pl 2 (.slice A3 b1.length c3), pl 9 (.int .i64 r5.1), pl 10 (.int .i64 r5.2.1), pl 11 (.int .i64 r5.2.2.1), pl 12 (.int .i64 r5.2.2.2), pl 14 (.int .i64 x.1), pl 15 (.int .i64 x.2.1), pl 16 (.int .i64 x.2.2.1), pl 17 (.int .i64 i1), pl 18 (.int .i64 x.2.2.2)] a ∧ Sep w0 w0.heap.size w []) (assoc_b hm) ⟨hF.weak [1, 2, 9, 10, 11, 12, 14, 15, 16, 17, 18] (by kernel_rfl), hS⟩ ?_
            clear hF hS hm
            rintro nn2 ⟨x4, y4, z5, k1⟩ a w ⟨hF, hS⟩ hm
            generalize hφ2 : stK (gameroomlaw_DiceSums_L2 a1 b1 i1) nn2 (fun x => ((gameroomlaw_DiceSums_K2 i1) x).bind φ1) = φ2 at hm
            unfold gameroomlaw_DiceSums_L2 at hm
            dsimp only at hF hS hm
            refine seq_cut (fun a w => Fr 141 [pl 1 (.slice A2 a1.length c2), pl 2 (.slice A3 b1.length c3), pl 9 (.int .i64 r5.1), pl 10 (.int .i64 r5.2.1), pl 11 (.int .i64 r5.2.2.1), pl 12 (.int .i64 r5.2.2.2), pl 14 (.int .i64 x4), pl 15 (.int .i64 y4), pl 16 (.int .i64 z5), pl 17 (.int .i64 i1), pl 18 (.int .i64 k1)] a ∧ Sep w0 w0.heap.size w [] ∧ ((gameroomlaw_DiceSums_J7 a1 b1 i1 x4 y4 z5 k1)).bind φ2 = some r) ?_ ?_
            · rintro a w ⟨hF, hS, hm⟩
              unfold gameroomlaw_DiceSums_J7 at hm
              refine seq_cut (fun a w => ∃ (x5 : Int) (y5 : Int) (z6 : Int), Fr 141 [pl 1 (.slice A2 a1.length c2), pl 2 (.slice A3 b1.length c3), pl 9 (.int .i64 r5.1), pl 10 (.int .i64 r5.2.1), pl 11 (.int .i64 r5.2.2.1), pl 12 (.int .i64 r5.2.2.2), pl 14 (.int .i64 x5), pl 15 (.int .i64 y5), pl 16 (.int .i64 z6), pl 17 (.int .i64 i1), pl 18 (.int .i64 k1)] a ∧ Sep w0 w0.heap.size w [] ∧ ((gameroomlaw_DiceSums_J8 k1) x5 y5 z6).bind φ2 = some r) ?_ ?_
              · rintro a w ⟨x5, y5, z6, hF, hS, hm⟩
                unfold gameroomlaw_DiceSums_J8 at hm
                refine reg1 [] [] [1, 2, 9, 10, 11, 12, 14, 15, 16, 17, 18] [pl 1 (.slice A2 a1.length c2), pl 2 (.slice A3 b1.length c3), pl 9 (.int .i64 r5.1), pl 10 (.int .i64 r5.2.1), pl 11 (.int .i64 r5.2.2.1), pl 12 (.int .i64 r5.2.2.2), pl 14 (.int .i64 x5), pl 15 (.int .i64 y5), pl 16 (.int .i64 z6), pl 17 (.int .i64 i1), pl 18 (.int .i64 (w64 (k1 + 1)))] hF hS Fol (by kernel_rfl) (by kernel_rfl) (by kernel_rfl) ?_ (fun a w hF hS => ?_)
                · exact obs_nil
                refine then_n ?_
                rw [← hφ2] at hm
                exact ⟨(x5, y5, z6, (w64 (k1 + 1))), ⟨hF.weak [1, 2, 9, 10, 11, 12, 14, 15, 16, 17, 18] (by kernel_rfl), hS⟩, hm⟩
              · refine wp_block ?_
                obtain ⟨hp1, hm⟩ := asrt_b hm
                obtain ⟨hp2, hm⟩ := asrt_b hm
                refine reg [⟨true, [], vS (Instr.indexAt 22 (.slice A2 a1.length c2) (.int .i64 i1)), .pointer (some (sAddr A2 i1))⟩, ⟨false, [], vS (Instr.loadAt 3 (.pointer (some (sAddr A2 i1)))), .int .i64 (geti a1 i1)⟩, ⟨true, [], vS (Instr.indexAt 22 (.slice A3 b1.length c3) (.int .i64 k1)), .pointer (some (sAddr A3 k1))⟩, ⟨false, [], vS (Instr.loadAt 3 (.pointer (some (sAddr A3 k1)))), .int .i64 (geti b1 k1)⟩] [none, none, some (.pointer (some (sAddr A2 i1))), some (.int .i64 (geti a1 i1)), none, none, some (.pointer (some (sAddr A3 k1))), some (.int .i64 (geti b1 k1)), none] [1, 2, 9, 10, 11, 12, 14, 15, 16, 17, 18, 108] [pl 1 (.slice A2 a1.length c2), pl 2 (.slice A3 b1.length c3), pl 9 (.int .i64 r5.1), pl 10 (.int .i64 r5.2.1), pl 11 (.int .i64 r5.2.2.1), pl 12 (.int .i64 r5.2.2.2), pl 14 (.int .i64 x4), pl 15 (.int .i64 y4), pl 16 (.int .i64 z5), pl 17 (.int .i64 i1), pl 18 (.int .i64 k1), pl 108 (.bool (decide ((geti b1 k1) < (geti a1 i1))))] hF hS Fol (by kernel_rfl) (by kernel_rfl) (by kernel_rfl) ?_ (fun a w hF hS => ?_)
                · exact obs_cons (ob_ixI Und22 hi3 hs3 (hr_a1.sep hS) (fun _ => hp1)) <| obs_cons (ob_geti Agg3 (fun _ hS => ⟨_, (hr_a1.sep hS)⟩) (fun _ => hp1)) <| obs_cons (ob_ixI Und22 hi3 hs3 (hr_b1.sep hS) (fun _ => hp2)) <| obs_cons (ob_geti Agg3 (fun _ hS => ⟨_, (hr_b1.sep hS)⟩) (fun _ => hp2)) <| obs_nil
                refine cond_ev (t := 108) (b := decide ((geti b1 k1) < (geti a1 i1))) hF (by kernel_rfl) (fun hb => ?_) (fun hb => ?_)
                · replace hm := if_t hm hb
                  refine reg1 [] [] [1, 2, 9, 10, 11, 12, 14, 15, 16, 17, 18] [pl 1 (.slice A2 a1.length c2), pl 2 (.slice A3 b1.length c3), pl 9 (.int .i64 r5.1), pl 10 (.int .i64 r5.2.1), pl 11 (.int .i64 r5.2.2.1), pl 12 (.int .i64 r5.2.2.2), pl 14 (.int .i64 (w64 (x4 + 1))), pl 15 (.int .i64 y4), pl 16 (.int .i64 z5), pl 17 (.int .i64 i1), pl 18 (.int .i64 k1)] hF hS Fol (by kernel_rfl) (by kernel_rfl) (by kernel_rfl) ?_ (fun a w hF hS => ?_)
                  · exact obs_nil
                  refine block_n ?_
                  refine then_n ?_
                  exact ⟨(w64 (x4 + 1)), y4, z5, hF.weak [1, 2, 9, 10, 11, 12, 14, 15, 16, 17, 18] (by kernel_rfl), hS, hm⟩
                · replace hm := if_f hm hb
                  obtain ⟨hp3, hm⟩ := asrt_b hm
                  obtain ⟨hp4, hm⟩ := asrt_b hm
                  refine reg [⟨true, [], vS (Instr.indexAt 22 (.slice A2 a1.length c2) (.int .i64 i1)), .pointer (some (sAddr A2 i1))⟩, ⟨false, [], vS (Instr.loadAt 3 (.pointer (some (sAddr A2 i1)))), .int .i64 (geti a1 i1)⟩, ⟨true, [], vS (Instr.indexAt 22 (.slice A3 b1.length c3) (.int .i64 k1)), .pointer (some (sAddr A3 k1))⟩, ⟨false, [], vS (Instr.loadAt 3 (.pointer (some (sAddr A3 k1)))), .int .i64 (geti b1 k1)⟩] [none, none, some (.pointer (some (sAddr A2 i1))), some (.int .i64 (geti a1 i1)), none, none, some (.pointer (some (sAddr A3 k1))), some (.int .i64 (geti b1 k1)), none] [1, 2, 9, 10, 11, 12, 14, 15, 16, 17, 18, 119] [pl 1 (.slice A2 a1.length c2), pl 2 (.slice A3 b1.length c3), pl 9 (.int .i64 r5.1), pl 10 (.int .i64 r5.2.1), pl 11 (.int .i64 r5.2.2.1), pl 12 (.int .i64 r5.2.2.2), pl 14 (.int .i64 x4), pl 15 (.int .i64 y4), pl 16 (.int .i64 z5), pl 17 (.int .i64 i1), pl 18 (.int .i64 k1), pl 119 (.bool ((geti a1 i1) == (geti b1 k1)))] hF hS Fol (by kernel_rfl) (by kernel_rfl) (by kernel_rfl) ?_ (fun a w hF hS => ?_)
                  · exact obs_cons (ob_ixI Und22 hi3 hs3 (hr_a1.sep hS) (fun _ => hp3)) <| obs_cons (ob_geti Agg3 (fun _ hS => ⟨_, (hr_a1.sep hS)⟩) (fun _ => hp3)) <| obs_cons (ob_ixI Und22 hi3 hs3 (hr_b1.sep hS) (fun _ => hp4)) <| obs_cons (ob_geti Agg3 (fun _ hS => ⟨_, (hr_b1.sep hS)⟩) (fun _ => hp4)) <| obs_nil
                  refine cond_ev (t := 119) (b := ((geti a1 i1) == (geti b1 k1))) hF (by kernel_rfl) (fun hb => ?_) (fun hb => ?_)
                  · replace hm := if_t hm hb
                    refine reg1 [] [] [1, 2, 9, 10, 11, 12, 14, 15, 16, 17, 18] [pl 1 (.slice A2 a1.length c2), pl 2 (.slice A3 b1.length c3), pl 9 (.int .i64 r5.1), pl 10 (.int .i64 r5.2.1), pl 11 (.int .i64 r5.2.2.1), pl 12 (.int .i64 r5.2.2.2), pl 14 (.int .i64 x4), pl 15 (.int .i64 (w64 (y4 + 1))), pl 16 (.int .i64 z5), pl 17 (.int .i64 i1), pl 18 (.int .i64 k1)] hF hS Fol (by kernel_rfl) (by kernel_rfl) (by kernel_rfl) ?_ (fun a w hF hS => ?_)
                    · exact obs_nil
                    refine block_n ?_
                    refine then_n ?_
                    exact ⟨x4, (w64 (y4 + 1)), z5, hF.weak [1, 2, 9, 10, 11, 12, 14, 15, 16, 17, 18] (by kernel_rfl), hS, hm⟩
                  · replace hm := if_f hm hb
                    refine reg1 [] [] [1, 2, 9, 10, 11, 12, 14, 15, 16, 17, 18] [pl 1 (.slice A2 a1.length c2), pl 2 (.slice A3 b1.length c3), pl 9 (.int .i64 r5.1), pl 10 (.int .i64 r5.2.1), pl 11 (.int .i64 r5.2.2.1), pl 12 (.int .i64 r5.2.2.2), pl 14 (.int .i64 x4), pl 15 (.int .i64 y4), pl 16 (.int .i64 (w64 (z5 + 1))), pl 17 (.int .i64 i1), pl 18 (.int .i64 k1)] hF hS Fol (by kernel_rfl) (by kernel_rfl) (by kernel_rfl) ?_ (fun a w hF hS => ?_)
                    · exact obs_nil
                    refine block_n ?_
                    refine then_n ?_
                    exact ⟨x4, y4, (w64 (z5 + 1)), hF.weak [1, 2, 9, 10, 11, 12, 14, 15, 16, 17, 18] (by kernel_rfl), hS, hm⟩
            · refine reg [] [] [1, 2, 9, 10, 11, 12, 14, 15, 16, 17, 18, 97] [pl 1 (.slice A2 a1.length c2), pl 2 (.slice A3 b1.length c3), pl 9 (.int .i64 r5.1), pl 10 (.int .i64 r5.2.1), pl 11 (.int .i64 r5.2.2.1), pl 12 (.int .i64 r5.2.2.2), pl 14 (.int .i64 x4), pl 15 (.int .i64 y4), pl 16 (.int .i64 z5), pl 17 (.int .i64 i1), pl 18 (.int .i64 k1), pl 97 (.bool (decide (k1 < (b1.length : Int))))] hF hS Fol (by kernel_rfl) (by kernel_rfl) (by kernel_rfl) ?_ (fun a w hF hS => ?_)
              · exact obs_nil
              refine cond_ev (t := 97) (b := decide (k1 < (b1.length : Int))) hF (by kernel_rfl) (fun hb => ?_) (fun hb => ?_)
              · replace hm := if_t hm hb
                refine wp_skip ?_
                refine then_n ?_
                exact ⟨hF.weak [1, 2, 9, 10, 11, 12, 14, 15, 16, 17, 18] (by kernel_rfl), hS, hm⟩
              · replace hm := if_f hm hb
                refine wp_exit ?_
                refine then_e (then_e (block_e (block_n (then_n ?_))))
                rw [← hφ2] at hm
                have hm : ((gameroomlaw_DiceSums_J6 i1) x4 y4 z5).bind φ1 = some r := hm
                exact ⟨x4, y4, z5, hF.weak [1, 2, 9, 10, 11, 12, 14, 15, 16, 17] (by kernel_rfl), hS, hm⟩
        · refine reg [] [] [1, 2, 9, 10, 11, 12, 14, 15, 16, 17, 91] [pl 1 (.slice A2 a1.length c2), pl 2 (.slice A3 b1.length c3), pl 9 (.int .i64 r5.1), pl 10 (.int .i64 r5.2.1), pl 11 (.int .i64 r5.2.2.1), pl 12 (.int .i64 r5.2.2.2), pl 14 (.int .i64 x2), pl 15 (.int .i64 y2), pl 16 (.int .i64 z3), pl 17 (.int .i64 i1), pl 91 (.bool (decide (i1 < (a1.length : Int))))] hF hS Fol (by kernel_rfl) (by kernel_rfl) (by kernel_rfl) ?_ (fun a w hF hS => ?_)
          · exact obs_nil
          refine cond_ev (t := 91) (b := decide (i1 < (a1.length : Int))) hF (by kernel_rfl) (fun hb => ?_) (fun hb => ?_)
          · replace hm := if_t hm hb
            refine wp_skip ?_
            refine then_n ?_
            exact ⟨hF.weak [1, 2, 9, 10, 11, 12, 14, 15, 16, 17] (by kernel_rfl), hS, hm⟩
          · replace hm := if_f hm hb
            refine wp_exit ?_
            refine then_e (then_e (block_e (then_n ?_)))
            rw [← hφ1] at hm
            have hm : ((gameroomlaw_DiceSums_J4 r5) x2 y2 z3).bind some = some r := hm
            exact ⟨x2, y2, z3, hF.weak [9, 10, 11, 12, 14, 15, 16] (by kernel_rfl), hS, hm⟩
    · refine reg [] [] [1, 2, 9, 10, 11, 12, 73] [pl 1 (.slice A2 a1.length c2), pl 2 (.slice A3 b1.length c3), pl 9 (.int .i64 r5.1), pl 10 (.int .i64 r5.2.1), pl 11 (.int .i64 r5.2.2.1), pl 12 (.int .i64 r5.2.2.2), pl 73 (.bool ((((decide ((a1.length : Int) < 1)) || (decide ((20 : Int) < (a1.length : Int)))) || (decide ((b1.length : Int) < 1))) || (decide ((20 : Int) < (b1.length : Int)))))] hF hS Fol (by kernel_rfl) (by kernel_rfl) (by kernel_rfl) ?_ (fun a w hF hS => ?_)
      · exact obs_nil
      refine cond_ev (t := 73) (b := (((decide ((a1.length : Int) < 1)) || (decide ((20 : Int) < (a1.length : Int)))) || (decide ((b1.length : Int) < 1))) || (decide ((20 : Int) < (b1.length : Int)))) hF (by kernel_rfl) (fun hb => ?_) (fun hb => ?_)
      · replace hm := if_t hm hb
        refine reg [] [] [6] [pl 6 (.bool ((((r5.2.2.2 == 3) && (r5.1 == 0)) && (r5.2.1 == 0)) && (r5.2.2.1 == 0)))] hF hS Fol (by kernel_rfl) (by kernel_rfl) (by kernel_rfl) ?_ (fun a w hF hS => ?_)
        · exact obs_nil
        refine wp_ret ?_
        refine then_r ?_
        have hm : some ((((r5.2.2.2 == 3) && (r5.1 == 0)) && (r5.2.1 == 0)) && (r5.2.2.1 == 0)) = some r := hm
        obtain rfl := Option.some.inj hm
        exact retV (rs := [.tmp 6]) (vs := [.bool ((((r5.2.2.2 == 3) && (r5.1 == 0)) && (r5.2.1 == 0)) && (r5.2.2.1 == 0))]) hF rfl (rv_t (by kernel_rfl) <| rv_nil) rfl ⟨rfl, hS⟩
      · replace hm := if_f hm hb
        refine wp_skip ?_
        refine then_n ?_
        exact ⟨hF.weak [1, 2, 9, 10, 11, 12] (by kernel_rfl), hS, hm⟩
  · refine reg [] [] [0, 1, 2, 7, 8, 9, 10, 11, 12, 13, 38] [pl 0 (.slice A1 l1.length c1), pl 1 (.slice A2 a1.length c2), pl 2 (.slice A3 b1.length c3), pl 7 (.slice A5 r2.1.length c5), pl 8 (.int .i64 r2.2), pl 9 (.int .i64 r5.1), pl 10 (.int .i64 r5.2.1), pl 11 (.int .i64 r5.2.2.1), pl 12 (.int .i64 r5.2.2.2), pl 13 (.int .i64 r6), pl 38 (.bool (r6 != 0))] hF hS Fol (by kernel_rfl) (by kernel_rfl) (by kernel_rfl) ?_ (fun a w hF hS => ?_)
    · exact obs_nil
    refine cond_ev (t := 38) (b := (r6 != 0)) hF (by kernel_rfl) (fun hb => ?_) (fun hb => ?_)
    · replace hm := if_t hm hb
      refine reg [] [] [1, 2, 9, 10, 11, 12, 46] [pl 1 (.slice A2 a1.length c2), pl 2 (.slice A3 b1.length c3), pl 9 (.int .i64 r5.1), pl 10 (.int .i64 r5.2.1), pl 11 (.int .i64 r5.2.2.1), pl 12 (.int .i64 r5.2.2.2), pl 46 (.bool ((r2.2 != r6) || (decide ((0 : Int) < (r2.1.length : Int)))))] hF hS Fol (by kernel_rfl) (by kernel_rfl) (by kernel_rfl) ?_ (fun a w hF hS => ?_)
      · exact obs_nil
      refine cond_ev (t := 46) (b := (r2.2 != r6) || (decide ((0 : Int) < (r2.1.length : Int)))) hF (by kernel_rfl) (fun hb => ?_) (fun hb => ?_)
      · replace hm := if_t hm hb
        refine reg [] [] [6] [pl 6 (.bool false)] hF hS Fol (by kernel_rfl) (by kernel_rfl) (by kernel_rfl) ?_ (fun a w hF hS => ?_)
        · exact obs_nil
        refine wp_ret ?_
        refine then_r ?_
        have hS := hS.pick [] (by decide)
        have hm : some false = some r := hm
        obtain rfl := Option.some.inj hm
        exact retV (rs := [.tmp 6]) (vs := [.bool false]) hF rfl (rv_t (by kernel_rfl) <| rv_nil) rfl ⟨rfl, hS⟩
      · replace hm := if_f hm hb
        refine wp_skip ?_
        refine then_n ?_
        have hS := hS.pick [] (by decide)
        exact ⟨hF.weak [1, 2, 9, 10, 11, 12] (by kernel_rfl), hS, hm⟩
    · replace hm := if_f hm hb
      refine seq_cut (fun a w => ∃ (z1 : Bool), Fr 141 [pl 1 (.slice A2 a1.length c2), pl 2 (.slice A3 b1.length c3), pl 9 (.int .i64 r5.1), pl 10 (.int .i64 r5.2.1), pl 11 (.int .i64 r5.2.2.1), pl 12 (.int .i64 r5.2.2.2), pl 55 (.bool z1)] a ∧ Sep w0 w0.heap.size w [] ∧ ((gameroomlaw_DiceSums_J2 a1 b1 r5) z1).bind some = some r) ?_ ?_
      · rintro a w ⟨z1, hF, hS, hm⟩
        unfold gameroomlaw_DiceSums_J2 at hm
        refine cond_ev (t := 55) (b := z1) hF (by kernel_rfl) (fun hb => ?_) (fun hb => ?_)
        · replace hm := if_t hm hb
          refine reg [] [] [6] [pl 6 (.bool false)] hF hS Fol (by kernel_rfl) (by kernel_rfl) (by kernel_rfl) ?_ (fun a w hF hS => ?_)
          · exact obs_nil
          refine wp_ret ?_
          refine then_r ?_
          have hm : some false = some r := hm
          obtain rfl := Option.some.inj hm
          exact retV (rs := [.tmp 6]) (vs := [.bool false]) hF rfl (rv_t (by kernel_rfl) <| rv_nil) rfl ⟨rfl, hS⟩
        · replace hm := if_f hm hb
          refine wp_skip ?_
          refine then_n ?_
          exact ⟨hF.weak [1, 2, 9, 10, 11, 12] (by kernel_rfl), hS, hm⟩
      · refine oneR ?_
        refine at_run 5 [] [] [1, 2, 9, 10, 11, 12, 49, 50, 51] [pl 1 (.slice A2 a1.length c2), pl 2 (.slice A3 b1.length c3), pl 9 (.int .i64 r5.1), pl 10 (.int .i64 r5.2.1), pl 11 (.int .i64 r5.2.2.1), pl 12 (.int .i64 r5.2.2.2), pl 49 (.bool (r2.2 != 0)), ⟨50, [(49, false)], .slice A5 r2.1.length c5⟩, ⟨51, [(49, false)], .slice A1 l1.length c1⟩] hF hS (by kernel_rfl) (by kernel_rfl) ?_ (fun a w hF hS => ?_)
        · exact obs_nil
        rcases Bool.eq_false_or_eq_true (r2.2 != 0) with hg1 | hg1
        · obtain ⟨r7, hr7, hm⟩ := call_b hm
          obtain ⟨r8, hr8, hm⟩ := call_b hm
          refine at_gskip (d := 52) (v := .slice none r7.length 0) (hs := [((r2.2 != 0), false)]) (ctx := [(49, false)]) hF (by kernel_rfl) (by kernel_rfl) (fun h => absurd (h ((r2.2 != 0), false) (by simp)) (by simp [hg1])) (fun a hF => ?_)
          refine at_run 3 [⟨false, [((r2.2 != 0), false)], callFunc 17 #[.slice A5 r2.1.length c5, .slice none r7.length 0], .bool r8⟩] [some (.bool r8), none, none] [1, 2, 9, 10, 11, 12, 55] [pl 1 (.slice A2 a1.length c2), pl 2 (.slice A3 b1.length c3), pl 9 (.int .i64 r5.1), pl 10 (.int .i64 r5.2.1), pl 11 (.int .i64 r5.2.2.1), pl 12 (.int .i64 r5.2.2.2), pl 55 (.bool ((r2.2 != 0) || (!r8)))] hF hS (by kernel_rfl) (by kernel_rfl) ?_ (fun a w hF hS => ?_)
          · exact obs_cons (Ob.vac (fun h => absurd (h ((r2.2 != 0), false) (by simp)) (by simp [hg1]))) <| obs_nil
          refine at_end [1, 2, 9, 10, 11, 12, 55] [pl 1 (.slice A2 a1.length c2), pl 2 (.slice A3 b1.length c3), pl 9 (.int .i64 r5.1), pl 10 (.int .i64 r5.2.1), pl 11 (.int .i64 r5.2.2.1), pl 12 (.int .i64 r5.2.2.2), pl 55 (.bool ((r2.2 != 0) || (!r8)))] hF rfl (by kernel_rfl) (fun hF => ?_)
          refine then_n ?_
          have hS := hS.pick [] (by decide)
          exact ⟨((r2.2 != 0) || (!r8)), hF.weak [1, 2, 9, 10, 11, 12, 55] (by kernel_rfl), hS, hm⟩
        · obtain ⟨r7, hr7, hm⟩ := call_b hm
          obtain ⟨r8, hr8, hm⟩ := call_b hm
          refine at_gcall (hs := [((r2.2 != 0), false)]) (fun y hy => by simp only [List.mem_cons, List.not_mem_nil, or_false] at hy; subst hy; first | exact hg1) (f := 45) (args := #[.slice A1 l1.length c1]) (d := 52) hF (by kernel_rfl) (by kernel_rfl) Try.func45 (by kernel_rfl) rfl (gameroomref_SumWays_w (ite_some hr7 (by rw [show (r2.2 != 0) = false from hg1]; try rfl)) (hr_l1.sep hS) _hc_l1) (fun v a w hR hF => ?_)
          obtain ⟨A8, c8, rfl, hS'⟩ := hR
          have hS : Sep w0 w0.heap.size w [view (.slice A8 r7.length c8) (vI r7), own 3 (.slice A7 r4.length c7) (vI r4), own 3 (.slice A6 r3.length c6) (vI r3), own 3 (.slice A5 r2.1.length c5) (vI r2.1), own 3 (.slice A4 r1.length c4) (vI r1)] := hS.merge hS'
          refine at_run 3 [⟨false, [((r2.2 != 0), false)], callFunc 17 #[.slice A5 r2.1.length c5, .slice A8 r7.length c8], .bool r8⟩] [some (.bool r8), none, none] [1, 2, 9, 10, 11, 12, 55] [pl 1 (.slice A2 a1.length c2), pl 2 (.slice A3 b1.length c3), pl 9 (.int .i64 r5.1), pl 10 (.int .i64 r5.2.1), pl 11 (.int .i64 r5.2.2.1), pl 12 (.int .i64 r5.2.2.2), pl 55 (.bool ((r2.2 != 0) || (!r8)))] hF hS (by kernel_rfl) (by kernel_rfl) ?_ (fun a w hF hS => ?_)
          · exact obs_cons (ob_call Try.func17 (by kernel_rfl) rfl (fun hy _ hS => quiet_of hS (gameroomlaw_sameInts_w (ite_some hr8 (by rw [show (r2.2 != 0) = false from hy ((r2.2 != 0), false) (by simp)]; try rfl)) (hS.at_ 3 rfl).rd (hS.at_ 3 rfl).cap (hS.at_ 0 rfl).rdView (hS.at_ 0 rfl).capView))) <| obs_nil
          refine at_end [1, 2, 9, 10, 11, 12, 55] [pl 1 (.slice A2 a1.length c2), pl 2 (.slice A3 b1.length c3), pl 9 (.int .i64 r5.1), pl 10 (.int .i64 r5.2.1), pl 11 (.int .i64 r5.2.2.1), pl 12 (.int .i64 r5.2.2.2), pl 55 (.bool ((r2.2 != 0) || (!r8)))] hF rfl (by kernel_rfl) (fun hF => ?_)
          refine then_n ?_
          have hS := hS.pick [] (by decide)
          exact ⟨((r2.2 != 0) || (!r8)), hF.weak [1, 2, 9, 10, 11, 12, 55] (by kernel_rfl), hS, hm⟩

end Go.Proofs.Ytnplejebgbdfpaa
