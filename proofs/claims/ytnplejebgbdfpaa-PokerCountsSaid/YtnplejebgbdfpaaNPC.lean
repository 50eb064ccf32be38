/-
  Models and walks, printed by our own program (wip/gen).
-/
import Derived.Test.YtnplejebgbdfpaaFB
import Derived.Test.YtnplejebgbdfpaaLibJ
import Derived.Test.YtnplejebgbdfpaaLibBc
namespace Go.Proofs.Ytnplejebgbdfpaa
open Go Go.GL Go.RowKit


noncomputable def poker_over_J3  (n1 : Int) (c1 : Int) (z1 : Int) : Option (St (Int × Int) Int) :=
  some (.next ((w64 (Int.tdiv (w64 (c1 * (w64 (n1 - z1)))) (w64 (z1 + 1)))), (w64 (z1 + 1))))

noncomputable def poker_over_J2  (n1 : Int) (c1 : Int) (z1 : Int) : Option (St (Int × Int) Int) :=
  asrt ((w64 (z1 + 1)) ≠ (0 : Int)) <| (poker_over_J3 n1 c1 z1)

noncomputable def poker_over_J1  (c2 : Int) : Option Int :=
  some c2

noncomputable def poker_over_K1  : Int → Option Int :=
  fun (x : Int) => match x with | c2 => poker_over_J1 c2

noncomputable def poker_over_L1  (n1 : Int) (k1 : Int) : (Int × Int) → Option (St (Int × Int) Int) :=
  fun (x : (Int × Int)) => match x with | (c1, z1) => if (decide (z1 < k1)) then ((poker_over_J2 n1 c1 z1)) else (some (.done c1))

noncomputable def poker_over_m  (n1 : Int) (k1 : Int) : Option Int :=
  (loop (poker_over_L1 n1 k1) (1, 0)).bind poker_over_K1

set_option maxRecDepth 100000 in
set_option maxHeartbeats 4000000 in
theorem poker_over_w {n1 : Int} {k1 : Int} {r : Int} {w0 w : World} {B : Nat} {fs : List HP} (hm : poker_over_m n1 k1 = some r) (hS : Sep w0 B w (fs)) :
    Calls Try.prog 55 #[.int .i64 n1, .int .i64 k1] w fun e w' => e = .returned (.int .i64 r) ∧ Sep w0 B w' (fs) := by
  unfold poker_over_m at hm
  replace hm := start_b hm
  refine enter (l := [.int .i64 n1, .int .i64 k1]) (n := 21) Try.func55 rfl rfl (by simp) (fun a hF => ?_)
  refine reg [] [] [0, 1] [pl 0 (.int .i64 n1), pl 1 (.int .i64 k1)] hF hS Fol (by kernel_rfl) (by kernel_rfl) (by kernel_rfl) ?_ (fun a w hF hS => ?_)
  · exact obs_nil
  refine reg [] [] [0, 1, 5] [pl 0 (.int .i64 n1), pl 1 (.int .i64 k1), pl 5 (.int .i64 1)] hF hS Fol (by kernel_rfl) (by kernel_rfl) (by kernel_rfl) ?_ (fun a w hF hS => ?_)
  · exact obs_nil
  refine seq_cut (fun a w => ∃ (c2 : Int), Fr 21 [pl 5 (.int .i64 c2)] a ∧ Sep w0 B w (fs) ∧ (poker_over_J1 c2).bind some = some r) ?_ ?_
  · rintro a w ⟨c2, hF, hS, hm⟩
    unfold poker_over_J1 at hm
    refine reg [] [] [4] [pl 4 (.int .i64 c2)] hF hS Fol (by kernel_rfl) (by kernel_rfl) (by kernel_rfl) ?_ (fun a w hF hS => ?_)
    · exact obs_nil
    refine wpIn_ret ?_
    have hm : some c2 = some r := hm
    obtain rfl := Option.some.inj hm
    exact retV (rs := [.tmp 4]) (vs := [.int .i64 c2]) hF rfl (rv_t (by kernel_rfl) <| rv_nil) rfl ⟨rfl, hS⟩
  · refine reg [] [] [0, 5, 7, 8] [pl 0 (.int .i64 n1), pl 5 (.int .i64 1), pl 7 (.int .i64 k1), pl 8 (.int .i64 0)] hF hS Fol (by kernel_rfl) (by kernel_rfl) (by kernel_rfl) ?_ (fun a w hF hS => ?_)
    · exact obs_nil
    refine wpIn_block ?_
    refine wp_loop_model (S := (Int × Int)) (R := Int) (poker_over_L1 n1 k1) (fun x => (poker_over_K1 x).bind some) r (fun (x : (Int × Int)) a w => Fr 21 [pl 0 (.int .i64 n1), pl 5 (.int .i64 x.1), pl 7 (.int .i64 k1), pl 8 (.int .i64 x.2)] a ∧ Sep w0 B w (fs)) (assoc_b hm) ⟨hF.weak [0, 5, 7, 8] (by kernel_rfl), hS⟩ ?_
    clear hF hS hm
    rintro nn1 ⟨c1, z1⟩ a w ⟨hF, hS⟩ hm
    generalize hφ1 : stK (poker_over_L1 n1 k1) nn1 (fun x => (poker_over_K1 x).bind some) = φ1 at hm
    unfold poker_over_L1 at hm
    dsimp only at hF hS hm
    refine reg [] [] [0, 5, 7, 8, 9] [pl 0 (.int .i64 n1), pl 5 (.int .i64 c1), pl 7 (.int .i64 k1), pl 8 (.int .i64 z1), pl 9 (.bool (decide (z1 < k1)))] hF hS Fol (by kernel_rfl) (by kernel_rfl) (by kernel_rfl) ?_ (fun a w hF hS => ?_)
    · exact obs_nil
    refine seq_cut (fun a w => Fr 21 [pl 0 (.int .i64 n1), pl 5 (.int .i64 c1), pl 7 (.int .i64 k1), pl 8 (.int .i64 z1)] a ∧ Sep w0 B w (fs) ∧ ((poker_over_J2 n1 c1 z1)).bind φ1 = some r) ?_ ?_
    · rintro a w ⟨hF, hS, hm⟩
      unfold poker_over_J2 at hm
      refine seq_cut (fun a w => Fr 21 [pl 0 (.int .i64 n1), pl 5 (.int .i64 (w64 (Int.tdiv (w64 (c1 * (w64 (n1 - z1)))) (w64 (z1 + 1))))), pl 7 (.int .i64 k1), pl 8 (.int .i64 z1)] a ∧ Sep w0 B w (fs) ∧ ((poker_over_J3 n1 c1 z1)).bind φ1 = some r) ?_ ?_
      · rintro a w ⟨hF, hS, hm⟩
        unfold poker_over_J3 at hm
        refine reg1 [] [] [0, 5, 7, 8] [pl 0 (.int .i64 n1), pl 5 (.int .i64 (w64 (Int.tdiv (w64 (c1 * (w64 (n1 - z1)))) (w64 (z1 + 1))))), pl 7 (.int .i64 k1), pl 8 (.int .i64 (w64 (z1 + 1)))] hF hS Fol (by kernel_rfl) (by kernel_rfl) (by kernel_rfl) ?_ (fun a w hF hS => ?_)
        · exact obs_nil
        refine then_n ?_
        rw [← hφ1] at hm
        exact ⟨((w64 (Int.tdiv (w64 (c1 * (w64 (n1 - z1)))) (w64 (z1 + 1)))), (w64 (z1 + 1))), ⟨hF.weak [0, 5, 7, 8] (by kernel_rfl), hS⟩, hm⟩
      · refine wpIn_block ?_
        refine reg [] [] [0, 5, 6, 7, 8] [pl 0 (.int .i64 n1), pl 5 (.int .i64 c1), pl 6 (.int .i64 z1), pl 7 (.int .i64 k1), pl 8 (.int .i64 z1)] hF hS Fol (by kernel_rfl) (by kernel_rfl) (by kernel_rfl) ?_ (fun a w hF hS => ?_)
        · exact obs_nil
        obtain ⟨hp1, hm⟩ := asrt_b hm
        refine reg1 [⟨true, [], vS (Op.intDiv .quo .i64 (w64 (c1 * (w64 (n1 - z1)))) (w64 (z1 + 1))), .int .i64 (w64 (Int.tdiv (w64 (c1 * (w64 (n1 - z1)))) (w64 (z1 + 1))))⟩] [none, none, none, none, none, none, none, some (.int .i64 (w64 (Int.tdiv (w64 (c1 * (w64 (n1 - z1)))) (w64 (z1 + 1))))), none] [0, 5, 7, 8] [pl 0 (.int .i64 n1), pl 5 (.int .i64 (w64 (Int.tdiv (w64 (c1 * (w64 (n1 - z1)))) (w64 (z1 + 1))))), pl 7 (.int .i64 k1), pl 8 (.int .i64 z1)] hF hS Fol (by kernel_rfl) (by kernel_rfl) (by kernel_rfl) ?_ (fun a w hF hS => ?_)
        · exact obs_cons (ob_quo rfl (fun _ => hp1)) <| obs_nil
        refine block_n ?_
        refine then_n ?_
        exact ⟨hF.weak [0, 5, 7, 8] (by kernel_rfl), hS, hm⟩
    · refine cond_ev (t := 9) (b := decide (z1 < k1)) hF (by kernel_rfl) (fun hb => ?_) (fun hb => ?_)
      · replace hm := if_t hm hb
        refine wpIn_skip ?_
        refine then_n ?_
        exact ⟨hF.weak [0, 5, 7, 8] (by kernel_rfl), hS, hm⟩
      · replace hm := if_f hm hb
        refine wpIn_exit ?_
        refine then_e (then_e (block_e (then_n ?_)))
        rw [← hφ1] at hm
        replace hm := done_b hm
        unfold poker_over_K1 at hm
        try dsimp only at hm
        have hm : (poker_over_J1 c1).bind some = some r := hm
        exact ⟨c1, hF.weak [5] (by kernel_rfl), hS, hm⟩

noncomputable def poker_Counts_J4  (n2 : List Int) (z1 : Int) : Option (St (List Int × Int) (List Int)) :=
  some (.next ((n2.set (Int.toNat 0) (w64 ((geti n2 0) - (geti (List.drop 1 (pad 9 n2)) z1)))), (w64 (z1 + 1))))

noncomputable def poker_Counts_J3  (n2 : List Int) (z1 : Int) : Option (St (List Int × Int) (List Int)) :=
  asrt (0 ≤ z1 ∧ z1 < 8) <| asrt (0 ≤ (0 : Int) ∧ (0 : Int) < 9) <| asrt (0 ≤ (0 : Int) ∧ (0 : Int) < 9) <| asrt (0 < (n2.length : Int)) <| (poker_Counts_J4 n2 z1)

noncomputable def poker_Counts_J2  (n3 : List Int) : Option (List Int) :=
  some n3

noncomputable def poker_Counts_K1  : (List Int) → Option (List Int) :=
  fun (x : (List Int)) => match x with | n3 => poker_Counts_J2 n3

noncomputable def poker_Counts_L1  : (List Int × Int) → Option (St (List Int × Int) (List Int)) :=
  fun (x : (List Int × Int)) => match x with | (n2, z1) => if (decide (z1 < 8)) then ((poker_Counts_J3 n2 z1)) else (some (.done n2))

noncomputable def poker_Counts_J1  (n1 : List Int) : Option (List Int) :=
  asrt (0 ≤ (8 : Int) ∧ (8 : Int) < 9) <| asrt (0 ≤ (4 : Int) ∧ (4 : Int) < 9) <| asrt (4 < (n1.length : Int)) <| (poker_over_m 4 3).bind fun r4 => (poker_over_m 12 2).bind fun r5 => asrt (0 ≤ (3 : Int) ∧ (3 : Int) < 9) <| asrt (3 < ((n1.set (Int.toNat 4) (w64 (10240 - (geti n1 8)))).length : Int)) <| (poker_over_m 13 2).bind fun r6 => (poker_over_m 4 2).bind fun r7 => (poker_over_m 4 2).bind fun r8 => asrt (0 ≤ (2 : Int) ∧ (2 : Int) < 9) <| asrt (2 < (((n1.set (Int.toNat 4) (w64 (10240 - (geti n1 8)))).set (Int.toNat 3) (w64 ((w64 ((w64 (13 * r4)) * r5)) * 16))).length : Int)) <| (poker_over_m 4 2).bind fun r9 => (poker_over_m 12 3).bind fun r10 => asrt (0 ≤ (1 : Int) ∧ (1 : Int) < 9) <| asrt (1 < ((((n1.set (Int.toNat 4) (w64 (10240 - (geti n1 8)))).set (Int.toNat 3) (w64 ((w64 ((w64 (13 * r4)) * r5)) * 16))).set (Int.toNat 2) (w64 ((w64 ((w64 (r6 * r7)) * r8)) * 44))).length : Int)) <| (poker_over_m 52 5).bind fun r11 => asrt (0 ≤ (0 : Int) ∧ (0 : Int) < 9) <| asrt (0 < (((((n1.set (Int.toNat 4) (w64 (10240 - (geti n1 8)))).set (Int.toNat 3) (w64 ((w64 ((w64 (13 * r4)) * r5)) * 16))).set (Int.toNat 2) (w64 ((w64 ((w64 (r6 * r7)) * r8)) * 44))).set (Int.toNat 1) (w64 ((w64 ((w64 (13 * r9)) * r10)) * 64))).length : Int)) <| (loop poker_Counts_L1 ((((((n1.set (Int.toNat 4) (w64 (10240 - (geti n1 8)))).set (Int.toNat 3) (w64 ((w64 ((w64 (13 * r4)) * r5)) * 16))).set (Int.toNat 2) (w64 ((w64 ((w64 (r6 * r7)) * r8)) * 44))).set (Int.toNat 1) (w64 ((w64 ((w64 (13 * r9)) * r10)) * 64))).set (Int.toNat 0) r11), 0)).bind poker_Counts_K1

noncomputable def poker_Counts_m  : Option (List Int) :=
  asrt (0 ≤ (8 : Int) ∧ (8 : Int) < 9) <| asrt (8 < ((List.replicate 9 (0 : Int)).length : Int)) <| asrt (0 ≤ (7 : Int) ∧ (7 : Int) < 9) <| asrt (7 < (((List.replicate 9 (0 : Int)).set (Int.toNat 8) 40).length : Int)) <| (poker_over_m 4 3).bind fun r1 => (poker_over_m 4 2).bind fun r2 => asrt (0 ≤ (6 : Int) ∧ (6 : Int) < 9) <| asrt (6 < ((((List.replicate 9 (0 : Int)).set (Int.toNat 8) 40).set (Int.toNat 7) 624).length : Int)) <| asrt (0 ≤ (8 : Int) ∧ (8 : Int) < 9) <| (poker_over_m 13 5).bind fun r3 => asrt (0 ≤ (5 : Int) ∧ (5 : Int) < 9) <| asrt (5 < (((((List.replicate 9 (0 : Int)).set (Int.toNat 8) 40).set (Int.toNat 7) 624).set (Int.toNat 6) (w64 ((w64 ((w64 (13 * r1)) * 12)) * r2))).length : Int)) <| poker_Counts_J1 (((((List.replicate 9 (0 : Int)).set (Int.toNat 8) 40).set (Int.toNat 7) 624).set (Int.toNat 6) (w64 ((w64 ((w64 (13 * r1)) * 12)) * r2))).set (Int.toNat 5) (w64 ((w64 (4 * r3)) - (geti ((((List.replicate 9 (0 : Int)).set (Int.toNat 8) 40).set (Int.toNat 7) 624).set (Int.toNat 6) (w64 ((w64 ((w64 (13 * r1)) * 12)) * r2))) 8))))

set_option maxRecDepth 100000 in
set_option maxHeartbeats 4000000 in
theorem poker_Counts_w  {r : (List Int)} {w0 w : World} {B : Nat} {fs : List HP} (hm : poker_Counts_m = some r) (hS : Sep w0 B w (fs)) :
    Calls Try.prog 18 #[] w fun e w' => e = .returned (.agg (List.toArray (([] : List Value) ++ (arr1 (Value.int .i64) (0 : Int) 9 r ++ ([] : List Value))))) ∧ Sep w0 B w' (fs) := by
  obtain ⟨i3, hi3, hz3, hs3, hb3⟩ := info_parts Info3
  unfold poker_Counts_m at hm
  replace hm := start_b hm
  refine enter (l := []) (n := 55) Try.func18 rfl rfl (by simp) (fun a hF => ?_)
  refine seqR ?_
  refine at_do (d := 0) (s := vS (Instr.alloc 30 true (.tuple #[]))) (v := .pointer (some ⟨w.heap.size, 0, none⟩)) (w' := w.alloc (.cells (List.toArray (([] : List Value) ++ (arr1 (Value.int .i64) (0 : Int) 9 (List.replicate 9 (0 : Int)) ++ ([] : List Value)))) 30)) hF (by kernel_rfl) (by kernel_rfl) (by kernel_rfl) (fun a hF => ?_)
  have hS : Sep w0 B (w.alloc (.cells (List.toArray (([] : List Value) ++ (arr1 (Value.int .i64) (0 : Int) 9 (List.replicate 9 (0 : Int)) ++ ([] : List Value)))) 30)) (blk w.heap.size 30 (List.toArray (([] : List Value) ++ (arr1 (Value.int .i64) (0 : Int) 9 (List.replicate 9 (0 : Int)) ++ ([] : List Value)))) :: (fs)) := hS.box 30 (List.toArray (([] : List Value) ++ (arr1 (Value.int .i64) (0 : Int) 9 (List.replicate 9 (0 : Int)) ++ ([] : List Value))))
  generalize w.heap.size = g1 at hF hS
  generalize w.alloc (.cells (List.toArray (([] : List Value) ++ (arr1 (Value.int .i64) (0 : Int) 9 (List.replicate 9 (0 : Int)) ++ ([] : List Value)))) 30) = w at hS ⊢
  refine at_end [0] [pl 0 (.pointer (some ⟨g1, 0, none⟩))] hF rfl (by kernel_rfl) (fun hF => ?_)
  refine then_n ?_
  refine seqR ?_
  obtain ⟨hp1, hm⟩ := asrt_b hm
  obtain ⟨hp2, hm⟩ := asrt_b hm
  refine at_run 1 [⟨true, [], vS (Instr.indexAt 30 (.pointer (some ⟨g1, 0, none⟩)) (.int .i64 8)), .pointer (some ((⟨g1, 0, none⟩ : Addr).add (Int.toNat 8 * 1)))⟩] [some (.pointer (some ((⟨g1, 0, none⟩ : Addr).add (Int.toNat 8 * 1))))] [0, 3] [pl 0 (.pointer (some ⟨g1, 0, none⟩)), pl 3 (.pointer (some ((⟨g1, 0, none⟩ : Addr).add (Int.toNat 8 * 1))))] hF hS (by kernel_rfl) (by kernel_rfl) ?_ (fun a w hF hS => ?_)
  · exact obs_cons (ob_ixA UndA30 hi3 hs3 (fun _ => hp1)) <| obs_nil
  obtain ⟨w, hrun, hS⟩ := run_setA (P := Try.prog) (t := 3) (x := 40) (i := 8) (m := (List.replicate 9 (0 : Int))) (d := Int.toNat 8 * 1) (Value.int .i64) (0 : Int) 9 ([] : List Value) ([] : List Value) (hS.at_ 0 rfl) rfl hi3 hs3 rfl (by have h0 := hp1; omega) (by have h0 := hp1; have h9 := hp2; omega)
  refine at_skip hF (by kernel_rfl) hrun ?_
  have hS : Sep w0 B w (blk g1 30 (List.toArray (([] : List Value) ++ (arr1 (Value.int .i64) (0 : Int) 9 ((List.replicate 9 (0 : Int)).set (Int.toNat 8) 40) ++ ([] : List Value)))) :: fs) := hS
  refine at_end [0] [pl 0 (.pointer (some ⟨g1, 0, none⟩))] hF rfl (by kernel_rfl) (fun hF => ?_)
  refine then_n ?_
  refine seqR ?_
  obtain ⟨hp3, hm⟩ := asrt_b hm
  obtain ⟨hp4, hm⟩ := asrt_b hm
  refine at_run 1 [⟨true, [], vS (Instr.indexAt 30 (.pointer (some ⟨g1, 0, none⟩)) (.int .i64 7)), .pointer (some ((⟨g1, 0, none⟩ : Addr).add (Int.toNat 7 * 1)))⟩] [some (.pointer (some ((⟨g1, 0, none⟩ : Addr).add (Int.toNat 7 * 1))))] [0, 4] [pl 0 (.pointer (some ⟨g1, 0, none⟩)), pl 4 (.pointer (some ((⟨g1, 0, none⟩ : Addr).add (Int.toNat 7 * 1))))] hF hS (by kernel_rfl) (by kernel_rfl) ?_ (fun a w hF hS => ?_)
  · exact obs_cons (ob_ixA UndA30 hi3 hs3 (fun _ => hp3)) <| obs_nil
  obtain ⟨w, hrun, hS⟩ := run_setA (P := Try.prog) (t := 3) (x := 624) (i := 7) (m := ((List.replicate 9 (0 : Int)).set (Int.toNat 8) 40)) (d := Int.toNat 7 * 1) (Value.int .i64) (0 : Int) 9 ([] : List Value) ([] : List Value) (hS.at_ 0 rfl) rfl hi3 hs3 rfl (by have h0 := hp3; omega) (by have h0 := hp3; have h9 := hp4; omega)
  refine at_skip hF (by kernel_rfl) hrun ?_
  have hS : Sep w0 B w (blk g1 30 (List.toArray (([] : List Value) ++ (arr1 (Value.int .i64) (0 : Int) 9 (((List.replicate 9 (0 : Int)).set (Int.toNat 8) 40).set (Int.toNat 7) 624) ++ ([] : List Value)))) :: fs) := hS
  refine at_end [0] [pl 0 (.pointer (some ⟨g1, 0, none⟩))] hF rfl (by kernel_rfl) (fun hF => ?_)
  refine then_n ?_
  refine seqR ?_
  obtain ⟨r1, hr1, hm⟩ := call_b hm
  obtain ⟨r2, hr2, hm⟩ := call_b hm
  obtain ⟨hp5, hm⟩ := asrt_b hm
  obtain ⟨hp6, hm⟩ := asrt_b hm
  refine at_run 6 [⟨false, [], callFunc 55 #[.int .i64 4, .int .i64 3], .int .i64 r1⟩, ⟨false, [], callFunc 55 #[.int .i64 4, .int .i64 2], .int .i64 r2⟩, ⟨true, [], vS (Instr.indexAt 30 (.pointer (some ⟨g1, 0, none⟩)) (.int .i64 6)), .pointer (some ((⟨g1, 0, none⟩ : Addr).add (Int.toNat 6 * 1)))⟩] [some (.int .i64 r1), none, none, some (.int .i64 r2), none, some (.pointer (some ((⟨g1, 0, none⟩ : Addr).add (Int.toNat 6 * 1))))] [0, 9, 10] [pl 0 (.pointer (some ⟨g1, 0, none⟩)), pl 9 (.int .i64 (w64 ((w64 ((w64 (13 * r1)) * 12)) * r2))), pl 10 (.pointer (some ((⟨g1, 0, none⟩ : Addr).add (Int.toNat 6 * 1))))] hF hS (by kernel_rfl) (by kernel_rfl) ?_ (fun a w hF hS => ?_)
  · exact obs_cons (ob_call Try.func55 (by kernel_rfl) rfl (fun _ _ hS => poker_over_w hr1 hS )) <| obs_cons (ob_call Try.func55 (by kernel_rfl) rfl (fun _ _ hS => poker_over_w hr2 hS )) <| obs_cons (ob_ixA UndA30 hi3 hs3 (fun _ => hp5)) <| obs_nil
  obtain ⟨w, hrun, hS⟩ := run_setA (P := Try.prog) (t := 3) (x := (w64 ((w64 ((w64 (13 * r1)) * 12)) * r2))) (i := 6) (m := (((List.replicate 9 (0 : Int)).set (Int.toNat 8) 40).set (Int.toNat 7) 624)) (d := Int.toNat 6 * 1) (Value.int .i64) (0 : Int) 9 ([] : List Value) ([] : List Value) (hS.at_ 0 rfl) rfl hi3 hs3 rfl (by have h0 := hp5; omega) (by have h0 := hp5; have h9 := hp6; omega)
  refine at_skip hF (by kernel_rfl) hrun ?_
  have hS : Sep w0 B w (blk g1 30 (List.toArray (([] : List Value) ++ (arr1 (Value.int .i64) (0 : Int) 9 ((((List.replicate 9 (0 : Int)).set (Int.toNat 8) 40).set (Int.toNat 7) 624).set (Int.toNat 6) (w64 ((w64 ((w64 (13 * r1)) * 12)) * r2))) ++ ([] : List Value)))) :: fs) := hS
  refine at_end [0] [pl 0 (.pointer (some ⟨g1, 0, none⟩))] hF rfl (by kernel_rfl) (fun hF => ?_)
  refine then_n ?_
  refine seq_cut (fun a w => ∃ (n1 : List Int), Fr 55 [pl 0 (.pointer (some ⟨g1, 0, none⟩))] a ∧ Sep w0 B w (blk g1 30 (List.toArray (([] : List Value) ++ (arr1 (Value.int .i64) (0 : Int) 9 n1 ++ ([] : List Value)))) :: fs) ∧ (poker_Counts_J1 n1).bind some = some r) ?_ ?_
  · rintro a w ⟨n1, hF, hS, hm⟩
    unfold poker_Counts_J1 at hm
    refine seqR ?_
    obtain ⟨hp10, hm⟩ := asrt_b hm
    obtain ⟨hp11, hm⟩ := asrt_b hm
    obtain ⟨hp12, hm⟩ := asrt_b hm
    refine at_run 4 [⟨true, [], vS (Instr.indexAt 30 (.pointer (some ⟨g1, 0, none⟩)) (.int .i64 8)), .pointer (some ((⟨g1, 0, none⟩ : Addr).add (Int.toNat 8 * 1)))⟩, ⟨false, [], vS (Instr.loadAt 3 (.pointer (some ((⟨g1, 0, none⟩ : Addr).add (Int.toNat 8 * 1))))), .int .i64 (geti n1 8)⟩, ⟨true, [], vS (Instr.indexAt 30 (.pointer (some ⟨g1, 0, none⟩)) (.int .i64 4)), .pointer (some ((⟨g1, 0, none⟩ : Addr).add (Int.toNat 4 * 1)))⟩] [some (.pointer (some ((⟨g1, 0, none⟩ : Addr).add (Int.toNat 8 * 1)))), some (.int .i64 (geti n1 8)), none, some (.pointer (some ((⟨g1, 0, none⟩ : Addr).add (Int.toNat 4 * 1))))] [0, 19, 20] [pl 0 (.pointer (some ⟨g1, 0, none⟩)), pl 19 (.int .i64 (w64 (10240 - (geti n1 8)))), pl 20 (.pointer (some ((⟨g1, 0, none⟩ : Addr).add (Int.toNat 4 * 1))))] hF hS (by kernel_rfl) (by kernel_rfl) ?_ (fun a w hF hS => ?_)
    · exact obs_cons (ob_ixA UndA30 hi3 hs3 (fun _ => hp10)) <| obs_cons (ob_getA (m := n1) (Value.int .i64) (0 : Int) 9 ([] : List Value) ([] : List Value) 8 Agg3 rfl (fun _ hS => ⟨_, _, _, _, _, hS.at_ 0 rfl⟩) (fun hy => by have h0 := hp10; omega)) <| obs_cons (ob_ixA UndA30 hi3 hs3 (fun _ => hp11)) <| obs_nil
    obtain ⟨w, hrun, hS⟩ := run_setA (P := Try.prog) (t := 3) (x := (w64 (10240 - (geti n1 8)))) (i := 4) (m := n1) (d := Int.toNat 4 * 1) (Value.int .i64) (0 : Int) 9 ([] : List Value) ([] : List Value) (hS.at_ 0 rfl) rfl hi3 hs3 rfl (by have h0 := hp11; omega) (by have h0 := hp11; have h9 := hp12; omega)
    refine at_skip hF (by kernel_rfl) hrun ?_
    have hS : Sep w0 B w (blk g1 30 (List.toArray (([] : List Value) ++ (arr1 (Value.int .i64) (0 : Int) 9 (n1.set (Int.toNat 4) (w64 (10240 - (geti n1 8)))) ++ ([] : List Value)))) :: fs) := hS
    refine at_end [0] [pl 0 (.pointer (some ⟨g1, 0, none⟩))] hF rfl (by kernel_rfl) (fun hF => ?_)
    refine then_n ?_
    refine seqR ?_
    obtain ⟨r4, hr4, hm⟩ := call_b hm
    obtain ⟨r5, hr5, hm⟩ := call_b hm
    obtain ⟨hp13, hm⟩ := asrt_b hm
    obtain ⟨hp14, hm⟩ := asrt_b hm
    refine at_run 6 [⟨false, [], callFunc 55 #[.int .i64 4, .int .i64 3], .int .i64 r4⟩, ⟨false, [], callFunc 55 #[.int .i64 12, .int .i64 2], .int .i64 r5⟩, ⟨true, [], vS (Instr.indexAt 30 (.pointer (some ⟨g1, 0, none⟩)) (.int .i64 3)), .pointer (some ((⟨g1, 0, none⟩ : Addr).add (Int.toNat 3 * 1)))⟩] [some (.int .i64 r4), none, some (.int .i64 r5), none, none, some (.pointer (some ((⟨g1, 0, none⟩ : Addr).add (Int.toNat 3 * 1))))] [0, 25, 26] [pl 0 (.pointer (some ⟨g1, 0, none⟩)), pl 25 (.int .i64 (w64 ((w64 ((w64 (13 * r4)) * r5)) * 16))), pl 26 (.pointer (some ((⟨g1, 0, none⟩ : Addr).add (Int.toNat 3 * 1))))] hF hS (by kernel_rfl) (by kernel_rfl) ?_ (fun a w hF hS => ?_)
    · exact obs_cons (ob_call Try.func55 (by kernel_rfl) rfl (fun _ _ hS => poker_over_w hr4 hS )) <| obs_cons (ob_call Try.func55 (by kernel_rfl) rfl (fun _ _ hS => poker_over_w hr5 hS )) <| obs_cons (ob_ixA UndA30 hi3 hs3 (fun _ => hp13)) <| obs_nil
    obtain ⟨w, hrun, hS⟩ := run_setA (P := Try.prog) (t := 3) (x := (w64 ((w64 ((w64 (13 * r4)) * r5)) * 16))) (i := 3) (m := (n1.set (Int.toNat 4) (w64 (10240 - (geti n1 8))))) (d := Int.toNat 3 * 1) (Value.int .i64) (0 : Int) 9 ([] : List Value) ([] : List Value) (hS.at_ 0 rfl) rfl hi3 hs3 rfl (by have h0 := hp13; omega) (by have h0 := hp13; have h9 := hp14; omega)
    refine at_skip hF (by kernel_rfl) hrun ?_
    have hS : Sep w0 B w (blk g1 30 (List.toArray (([] : List Value) ++ (arr1 (Value.int .i64) (0 : Int) 9 ((n1.set (Int.toNat 4) (w64 (10240 - (geti n1 8)))).set (Int.toNat 3) (w64 ((w64 ((w64 (13 * r4)) * r5)) * 16))) ++ ([] : List Value)))) :: fs) := hS
    refine at_end [0] [pl 0 (.pointer (some ⟨g1, 0, none⟩))] hF rfl (by kernel_rfl) (fun hF => ?_)
    refine then_n ?_
    refine seqR ?_
    obtain ⟨r6, hr6, hm⟩ := call_b hm
    obtain ⟨r7, hr7, hm⟩ := call_b hm
    obtain ⟨r8, hr8, hm⟩ := call_b hm
    obtain ⟨hp15, hm⟩ := asrt_b hm
    obtain ⟨hp16, hm⟩ := asrt_b hm
    refine at_run 7 [⟨false, [], callFunc 55 #[.int .i64 13, .int .i64 2], .int .i64 r6⟩, ⟨false, [], callFunc 55 #[.int .i64 4, .int .i64 2], .int .i64 r7⟩, ⟨false, [], callFunc 55 #[.int .i64 4, .int .i64 2], .int .i64 r8⟩, ⟨true, [], vS (Instr.indexAt 30 (.pointer (some ⟨g1, 0, none⟩)) (.int .i64 2)), .pointer (some ((⟨g1, 0, none⟩ : Addr).add (Int.toNat 2 * 1)))⟩] [some (.int .i64 r6), some (.int .i64 r7), none, some (.int .i64 r8), none, none, some (.pointer (some ((⟨g1, 0, none⟩ : Addr).add (Int.toNat 2 * 1))))] [0, 32, 33] [pl 0 (.pointer (some ⟨g1, 0, none⟩)), pl 32 (.int .i64 (w64 ((w64 ((w64 (r6 * r7)) * r8)) * 44))), pl 33 (.pointer (some ((⟨g1, 0, none⟩ : Addr).add (Int.toNat 2 * 1))))] hF hS (by kernel_rfl) (by kernel_rfl) ?_ (fun a w hF hS => ?_)
    · exact obs_cons (ob_call Try.func55 (by kernel_rfl) rfl (fun _ _ hS => poker_over_w hr6 hS )) <| obs_cons (ob_call Try.func55 (by kernel_rfl) rfl (fun _ _ hS => poker_over_w hr7 hS )) <| obs_cons (ob_call Try.func55 (by kernel_rfl) rfl (fun _ _ hS => poker_over_w hr8 hS )) <| obs_cons (ob_ixA UndA30 hi3 hs3 (fun _ => hp15)) <| obs_nil
    obtain ⟨w, hrun, hS⟩ := run_setA (P := Try.prog) (t := 3) (x := (w64 ((w64 ((w64 (r6 * r7)) * r8)) * 44))) (i := 2) (m := ((n1.set (Int.toNat 4) (w64 (10240 - (geti n1 8)))).set (Int.toNat 3) (w64 ((w64 ((w64 (13 * r4)) * r5)) * 16)))) (d := Int.toNat 2 * 1) (Value.int .i64) (0 : Int) 9 ([] : List Value) ([] : List Value) (hS.at_ 0 rfl) rfl hi3 hs3 rfl (by have h0 := hp15; omega) (by have h0 := hp15; have h9 := hp16; omega)
    refine at_skip hF (by kernel_rfl) hrun ?_
    have hS : Sep w0 B w (blk g1 30 (List.toArray (([] : List Value) ++ (arr1 (Value.int .i64) (0 : Int) 9 (((n1.set (Int.toNat 4) (w64 (10240 - (geti n1 8)))).set (Int.toNat 3) (w64 ((w64 ((w64 (13 * r4)) * r5)) * 16))).set (Int.toNat 2) (w64 ((w64 ((w64 (r6 * r7)) * r8)) * 44))) ++ ([] : List Value)))) :: fs) := hS
    refine at_end [0] [pl 0 (.pointer (some ⟨g1, 0, none⟩))] hF rfl (by kernel_rfl) (fun hF => ?_)
    refine then_n ?_
    refine seqR ?_
    obtain ⟨r9, hr9, hm⟩ := call_b hm
    obtain ⟨r10, hr10, hm⟩ := call_b hm
    obtain ⟨hp17, hm⟩ := asrt_b hm
    obtain ⟨hp18, hm⟩ := asrt_b hm
    refine at_run 6 [⟨false, [], callFunc 55 #[.int .i64 4, .int .i64 2], .int .i64 r9⟩, ⟨false, [], callFunc 55 #[.int .i64 12, .int .i64 3], .int .i64 r10⟩, ⟨true, [], vS (Instr.indexAt 30 (.pointer (some ⟨g1, 0, none⟩)) (.int .i64 1)), .pointer (some ((⟨g1, 0, none⟩ : Addr).add (Int.toNat 1 * 1)))⟩] [some (.int .i64 r9), none, some (.int .i64 r10), none, none, some (.pointer (some ((⟨g1, 0, none⟩ : Addr).add (Int.toNat 1 * 1))))] [0, 38, 39] [pl 0 (.pointer (some ⟨g1, 0, none⟩)), pl 38 (.int .i64 (w64 ((w64 ((w64 (13 * r9)) * r10)) * 64))), pl 39 (.pointer (some ((⟨g1, 0, none⟩ : Addr).add (Int.toNat 1 * 1))))] hF hS (by kernel_rfl) (by kernel_rfl) ?_ (fun a w hF hS => ?_)
    · exact obs_cons (ob_call Try.func55 (by kernel_rfl) rfl (fun _ _ hS => poker_over_w hr9 hS )) <| obs_cons (ob_call Try.func55 (by kernel_rfl) rfl (fun _ _ hS => poker_over_w hr10 hS )) <| obs_cons (ob_ixA UndA30 hi3 hs3 (fun _ => hp17)) <| obs_nil
    obtain ⟨w, hrun, hS⟩ := run_setA (P := Try.prog) (t := 3) (x := (w64 ((w64 ((w64 (13 * r9)) * r10)) * 64))) (i := 1) (m := (((n1.set (Int.toNat 4) (w64 (10240 - (geti n1 8)))).set (Int.toNat 3) (w64 ((w64 ((w64 (13 * r4)) * r5)) * 16))).set (Int.toNat 2) (w64 ((w64 ((w64 (r6 * r7)) * r8)) * 44)))) (d := Int.toNat 1 * 1) (Value.int .i64) (0 : Int) 9 ([] : List Value) ([] : List Value) (hS.at_ 0 rfl) rfl hi3 hs3 rfl (by have h0 := hp17; omega) (by have h0 := hp17; have h9 := hp18; omega)
    refine at_skip hF (by kernel_rfl) hrun ?_
    have hS : Sep w0 B w (blk g1 30 (List.toArray (([] : List Value) ++ (arr1 (Value.int .i64) (0 : Int) 9 ((((n1.set (Int.toNat 4) (w64 (10240 - (geti n1 8)))).set (Int.toNat 3) (w64 ((w64 ((w64 (13 * r4)) * r5)) * 16))).set (Int.toNat 2) (w64 ((w64 ((w64 (r6 * r7)) * r8)) * 44))).set (Int.toNat 1) (w64 ((w64 ((w64 (13 * r9)) * r10)) * 64))) ++ ([] : List Value)))) :: fs) := hS
    refine at_end [0] [pl 0 (.pointer (some ⟨g1, 0, none⟩))] hF rfl (by kernel_rfl) (fun hF => ?_)
    refine then_n ?_
    refine seqR ?_
    obtain ⟨r11, hr11, hm⟩ := call_b hm
    obtain ⟨hp19, hm⟩ := asrt_b hm
    obtain ⟨hp20, hm⟩ := asrt_b hm
    refine at_run 2 [⟨false, [], callFunc 55 #[.int .i64 52, .int .i64 5], .int .i64 r11⟩, ⟨true, [], vS (Instr.indexAt 30 (.pointer (some ⟨g1, 0, none⟩)) (.int .i64 0)), .pointer (some ((⟨g1, 0, none⟩ : Addr).add (Int.toNat 0 * 1)))⟩] [some (.int .i64 r11), some (.pointer (some ((⟨g1, 0, none⟩ : Addr).add (Int.toNat 0 * 1))))] [0, 40, 41] [pl 0 (.pointer (some ⟨g1, 0, none⟩)), pl 40 (.int .i64 r11), pl 41 (.pointer (some ((⟨g1, 0, none⟩ : Addr).add (Int.toNat 0 * 1))))] hF hS (by kernel_rfl) (by kernel_rfl) ?_ (fun a w hF hS => ?_)
    · exact obs_cons (ob_call Try.func55 (by kernel_rfl) rfl (fun _ _ hS => poker_over_w hr11 hS )) <| obs_cons (ob_ixA UndA30 hi3 hs3 (fun _ => hp19)) <| obs_nil
    obtain ⟨w, hrun, hS⟩ := run_setA (P := Try.prog) (t := 3) (x := r11) (i := 0) (m := ((((n1.set (Int.toNat 4) (w64 (10240 - (geti n1 8)))).set (Int.toNat 3) (w64 ((w64 ((w64 (13 * r4)) * r5)) * 16))).set (Int.toNat 2) (w64 ((w64 ((w64 (r6 * r7)) * r8)) * 44))).set (Int.toNat 1) (w64 ((w64 ((w64 (13 * r9)) * r10)) * 64)))) (d := Int.toNat 0 * 1) (Value.int .i64) (0 : Int) 9 ([] : List Value) ([] : List Value) (hS.at_ 0 rfl) rfl hi3 hs3 rfl (by have h0 := hp19; omega) (by have h0 := hp19; have h9 := hp20; omega)
    refine at_skip hF (by kernel_rfl) hrun ?_
    have hS : Sep w0 B w (blk g1 30 (List.toArray (([] : List Value) ++ (arr1 (Value.int .i64) (0 : Int) 9 (((((n1.set (Int.toNat 4) (w64 (10240 - (geti n1 8)))).set (Int.toNat 3) (w64 ((w64 ((w64 (13 * r4)) * r5)) * 16))).set (Int.toNat 2) (w64 ((w64 ((w64 (r6 * r7)) * r8)) * 44))).set (Int.toNat 1) (w64 ((w64 ((w64 (13 * r9)) * r10)) * 64))).set (Int.toNat 0) r11) ++ ([] : List Value)))) :: fs) := hS
    refine at_end [0] [pl 0 (.pointer (some ⟨g1, 0, none⟩))] hF rfl (by kernel_rfl) (fun hF => ?_)
    refine then_n ?_
    refine seq_cut (fun a w => ∃ (n3 : List Int), Fr 55 [pl 0 (.pointer (some ⟨g1, 0, none⟩))] a ∧ Sep w0 B w (blk g1 30 (List.toArray (([] : List Value) ++ (arr1 (Value.int .i64) (0 : Int) 9 n3 ++ ([] : List Value)))) :: fs) ∧ (poker_Counts_J2 n3).bind some = some r) ?_ ?_
    · rintro a w ⟨n3, hF, hS, hm⟩
      unfold poker_Counts_J2 at hm
      refine seqR ?_
      refine at_run 1 [⟨false, [], vS (Instr.loadAt 30 (.pointer (some ⟨g1, 0, none⟩))), .agg (List.toArray (([] : List Value) ++ (arr1 (Value.int .i64) (0 : Int) 9 n3 ++ ([] : List Value))))⟩] [some (.agg (List.toArray (([] : List Value) ++ (arr1 (Value.int .i64) (0 : Int) 9 n3 ++ ([] : List Value)))))] [0, 54] [pl 0 (.pointer (some ⟨g1, 0, none⟩)), pl 54 (.agg (List.toArray (([] : List Value) ++ (arr1 (Value.int .i64) (0 : Int) 9 n3 ++ ([] : List Value)))))] hF hS (by kernel_rfl) (by kernel_rfl) ?_ (fun a w hF hS => ?_)
      · exact obs_cons (ob_loadA (cs := (List.toArray (([] : List Value) ++ (arr1 (Value.int .i64) (0 : Int) 9 n3 ++ ([] : List Value))))) (by kernel_rfl) (by kernel_rfl) (fun _ _ hS => (hS.at_ 0 rfl).cellsAt 0 (by rfl))) <| obs_nil
      obtain ⟨w, hrun, hS⟩ := run_putW (P := Try.prog) (t := 30) (us := (List.toArray (([] : List Value) ++ (arr1 (Value.int .i64) (0 : Int) 9 n3 ++ ([] : List Value))))) (hS.at_ 0 rfl) (by kernel_rfl) (all_one (by kernel_rfl)) (by kernel_rfl)
      refine at_skip hF (by kernel_rfl) hrun ?_
      have hS : Sep w0 B w (blk g1 30 (List.toArray (([] : List Value) ++ (arr1 (Value.int .i64) (0 : Int) 9 n3 ++ ([] : List Value)))) :: fs) := hS
      refine at_end [0] [pl 0 (.pointer (some ⟨g1, 0, none⟩))] hF rfl (by kernel_rfl) (fun hF => ?_)
      refine then_n ?_
      refine wpIn_ret ?_
      have hld0 := run_loadVarA (P := Try.prog) (t := 30) (cs := (List.toArray (([] : List Value) ++ (arr1 (Value.int .i64) (0 : Int) 9 n3 ++ ([] : List Value))))) (by kernel_rfl) (by kernel_rfl) ((hS.at_ 0 rfl).cellsAt 0 (by rfl))
      have hS := hS.pickN 1 [] (by decide)
      have hm : some n3 = some r := hm
      obtain rfl := Option.some.inj hm
      exact retV (rs := [.cell 0 30]) (vs := [.agg (List.toArray (([] : List Value) ++ (arr1 (Value.int .i64) (0 : Int) 9 n3 ++ ([] : List Value))))]) hF rfl (rv_c (by kernel_rfl) hld0 <| rv_nil) rfl ⟨rfl, hS⟩
    · refine reg [⟨true, [], vS (Instr.sliceAt 30 (.pointer (some ⟨g1, 0, none⟩)) (some (.int .i64 1)) none none), .slice (some (⟨g1, 1, none⟩ : Addr)) 8 8⟩] [some (.slice (some (⟨g1, 1, none⟩ : Addr)) 8 8), none, none] [0, 42, 43, 44] [pl 0 (.pointer (some ⟨g1, 0, none⟩)), pl 42 (.slice (some (⟨g1, 1, none⟩ : Addr)) 8 8), pl 43 (.int .i64 8), pl 44 (.int .i64 0)] hF hS Fol (by kernel_rfl) (by kernel_rfl) (by kernel_rfl) ?_ (fun a w hF hS => ?_)
      · exact obs_cons (ob_sliceBl (o := 0) (lo := 1) UndA30 hi3 hs3 (by decide)) <| obs_nil
      refine wpIn_block ?_
      refine wp_loop_model (S := (List Int × Int)) (R := (List Int)) poker_Counts_L1 (fun x => (poker_Counts_K1 x).bind some) r (fun (x : (List Int × Int)) a w => Fr 55 [pl 0 (.pointer (some ⟨g1, 0, none⟩)), pl 42 (.slice (some (⟨g1, 1, none⟩ : Addr)) 8 8), pl 43 (.int .i64 8), pl 44 (.int .i64 x.2)] a ∧ Sep w0 B w (blk g1 30 (List.toArray (([] : List Value) ++ (arr1 (Value.int .i64) (0 : Int) 9 x.1 ++ ([] : List Value)))) :: fs)) (assoc_b hm) ⟨hF.weak [0, 42, 43, 44] (by kernel_rfl), hS⟩ ?_
      clear hF hS hm
      rintro nn1 ⟨n2, z1⟩ a w ⟨hF, hS⟩ hm
      generalize hφ1 : stK poker_Counts_L1 nn1 (fun x => (poker_Counts_K1 x).bind some) = φ1 at hm
      unfold poker_Counts_L1 at hm
      dsimp only at hF hS hm
      refine reg [] [] [0, 42, 43, 44, 45] [pl 0 (.pointer (some ⟨g1, 0, none⟩)), pl 42 (.slice (some (⟨g1, 1, none⟩ : Addr)) 8 8), pl 43 (.int .i64 8), pl 44 (.int .i64 z1), pl 45 (.bool (decide (z1 < 8)))] hF hS Fol (by kernel_rfl) (by kernel_rfl) (by kernel_rfl) ?_ (fun a w hF hS => ?_)
      · exact obs_nil
      refine seq_cut (fun a w => Fr 55 [pl 0 (.pointer (some ⟨g1, 0, none⟩)), pl 42 (.slice (some (⟨g1, 1, none⟩ : Addr)) 8 8), pl 43 (.int .i64 8), pl 44 (.int .i64 z1)] a ∧ Sep w0 B w (blk g1 30 (List.toArray (([] : List Value) ++ (arr1 (Value.int .i64) (0 : Int) 9 n2 ++ ([] : List Value)))) :: fs) ∧ ((poker_Counts_J3 n2 z1)).bind φ1 = some r) ?_ ?_
      · rintro a w ⟨hF, hS, hm⟩
        unfold poker_Counts_J3 at hm
        refine seq_cut (fun a w => Fr 55 [pl 0 (.pointer (some ⟨g1, 0, none⟩)), pl 42 (.slice (some (⟨g1, 1, none⟩ : Addr)) 8 8), pl 43 (.int .i64 8), pl 44 (.int .i64 z1)] a ∧ Sep w0 B w (blk g1 30 (List.toArray (([] : List Value) ++ (arr1 (Value.int .i64) (0 : Int) 9 (n2.set (Int.toNat 0) (w64 ((geti n2 0) - (geti (List.drop 1 (pad 9 n2)) z1)))) ++ ([] : List Value)))) :: fs) ∧ ((poker_Counts_J4 n2 z1)).bind φ1 = some r) ?_ ?_
        · rintro a w ⟨hF, hS, hm⟩
          unfold poker_Counts_J4 at hm
          refine reg1 [] [] [0, 42, 43, 44] [pl 0 (.pointer (some ⟨g1, 0, none⟩)), pl 42 (.slice (some (⟨g1, 1, none⟩ : Addr)) 8 8), pl 43 (.int .i64 8), pl 44 (.int .i64 (w64 (z1 + 1)))] hF hS Fol (by kernel_rfl) (by kernel_rfl) (by kernel_rfl) ?_ (fun a w hF hS => ?_)
          · exact obs_nil
          refine then_n ?_
          rw [← hφ1] at hm
          exact ⟨((n2.set (Int.toNat 0) (w64 ((geti n2 0) - (geti (List.drop 1 (pad 9 n2)) z1)))), (w64 (z1 + 1))), ⟨hF.weak [0, 42, 43, 44] (by kernel_rfl), hS⟩, hm⟩
        · refine wpIn_block ?_
          obtain ⟨hp21, hm⟩ := asrt_b hm
          refine reg [⟨true, [], vS (Instr.indexAt 22 (.slice (some (⟨g1, 1, none⟩ : Addr)) 8 8) (.int .i64 z1)), .pointer (some (sAddr (some (⟨g1, 1, none⟩ : Addr)) z1))⟩, ⟨false, [], vS (Instr.loadAt 3 (.pointer (some (sAddr (some (⟨g1, 1, none⟩ : Addr)) z1)))), .int .i64 (geti (List.drop 1 (pad 9 n2)) z1)⟩] [some (.pointer (some (sAddr (some (⟨g1, 1, none⟩ : Addr)) z1))), some (.int .i64 (geti (List.drop 1 (pad 9 n2)) z1)), none] [0, 2, 42, 43, 44] [pl 0 (.pointer (some ⟨g1, 0, none⟩)), pl 2 (.int .i64 (geti (List.drop 1 (pad 9 n2)) z1)), pl 42 (.slice (some (⟨g1, 1, none⟩ : Addr)) 8 8), pl 43 (.int .i64 8), pl 44 (.int .i64 z1)] hF hS Fol (by kernel_rfl) (by kernel_rfl) (by kernel_rfl) ?_ (fun a w hF hS => ?_)
          · exact obs_cons (ob_ix1 (f := (Value.int .i64)) (m := (List.drop 1 (pad 9 n2))) Und22 hi3 hs3 (rdBlk ([] : List Value) ([] : List Value) 1 (hS.at_ 0 rfl) rfl) (drop_len 9 1 _) (fun _ => hp21)) <| obs_cons (ob_get1 (n := 8) (m := (List.drop 1 (pad 9 n2))) (Value.int .i64) (0 : Int) Agg3 (fun _ hS => ⟨_, (rdBlk ([] : List Value) ([] : List Value) 1 (hS.at_ 0 rfl) rfl)⟩) (fun _ hS => (drop_len 9 1 _)) (fun _ => hp21)) <| obs_nil
          refine oneR ?_
          obtain ⟨hp22, hm⟩ := asrt_b hm
          obtain ⟨hp23, hm⟩ := asrt_b hm
          obtain ⟨hp24, hm⟩ := asrt_b hm
          refine at_run 5 [⟨true, [], vS (Instr.indexAt 30 (.pointer (some ⟨g1, 0, none⟩)) (.int .i64 0)), .pointer (some ((⟨g1, 0, none⟩ : Addr).add (Int.toNat 0 * 1)))⟩, ⟨false, [], vS (Instr.loadAt 3 (.pointer (some ((⟨g1, 0, none⟩ : Addr).add (Int.toNat 0 * 1))))), .int .i64 (geti n2 0)⟩, ⟨true, [], vS (Instr.indexAt 30 (.pointer (some ⟨g1, 0, none⟩)) (.int .i64 0)), .pointer (some ((⟨g1, 0, none⟩ : Addr).add (Int.toNat 0 * 1)))⟩] [some (.pointer (some ((⟨g1, 0, none⟩ : Addr).add (Int.toNat 0 * 1)))), some (.int .i64 (geti n2 0)), none, none, some (.pointer (some ((⟨g1, 0, none⟩ : Addr).add (Int.toNat 0 * 1))))] [0, 42, 43, 44, 51, 52] [pl 0 (.pointer (some ⟨g1, 0, none⟩)), pl 42 (.slice (some (⟨g1, 1, none⟩ : Addr)) 8 8), pl 43 (.int .i64 8), pl 44 (.int .i64 z1), pl 51 (.int .i64 (w64 ((geti n2 0) - (geti (List.drop 1 (pad 9 n2)) z1)))), pl 52 (.pointer (some ((⟨g1, 0, none⟩ : Addr).add (Int.toNat 0 * 1))))] hF hS (by kernel_rfl) (by kernel_rfl) ?_ (fun a w hF hS => ?_)
          · exact obs_cons (ob_ixA UndA30 hi3 hs3 (fun _ => hp22)) <| obs_cons (ob_getA (m := n2) (Value.int .i64) (0 : Int) 9 ([] : List Value) ([] : List Value) 0 Agg3 rfl (fun _ hS => ⟨_, _, _, _, _, hS.at_ 0 rfl⟩) (fun hy => by have h0 := hp22; omega)) <| obs_cons (ob_ixA UndA30 hi3 hs3 (fun _ => hp23)) <| obs_nil
          obtain ⟨w, hrun, hS⟩ := run_setA (P := Try.prog) (t := 3) (x := (w64 ((geti n2 0) - (geti (List.drop 1 (pad 9 n2)) z1)))) (i := 0) (m := n2) (d := Int.toNat 0 * 1) (Value.int .i64) (0 : Int) 9 ([] : List Value) ([] : List Value) (hS.at_ 0 rfl) rfl hi3 hs3 rfl (by have h0 := hp23; omega) (by have h0 := hp23; have h9 := hp24; omega)
          refine at_skip hF (by kernel_rfl) hrun ?_
          have hS : Sep w0 B w (blk g1 30 (List.toArray (([] : List Value) ++ (arr1 (Value.int .i64) (0 : Int) 9 (n2.set (Int.toNat 0) (w64 ((geti n2 0) - (geti (List.drop 1 (pad 9 n2)) z1)))) ++ ([] : List Value)))) :: fs) := hS
          refine at_end [0, 42, 43, 44] [pl 0 (.pointer (some ⟨g1, 0, none⟩)), pl 42 (.slice (some (⟨g1, 1, none⟩ : Addr)) 8 8), pl 43 (.int .i64 8), pl 44 (.int .i64 z1)] hF rfl (by kernel_rfl) (fun hF => ?_)
          refine block_n ?_
          refine then_n ?_
          exact ⟨hF.weak [0, 42, 43, 44] (by kernel_rfl), hS, hm⟩
      · refine cond_ev (t := 45) (b := decide (z1 < 8)) hF (by kernel_rfl) (fun hb => ?_) (fun hb => ?_)
        · replace hm := if_t hm hb
          refine wpIn_skip ?_
          refine then_n ?_
          exact ⟨hF.weak [0, 42, 43, 44] (by kernel_rfl), hS, hm⟩
        · replace hm := if_f hm hb
          refine wpIn_exit ?_
          refine then_e (then_e (block_e (then_n ?_)))
          rw [← hφ1] at hm
          replace hm := done_b hm
          unfold poker_Counts_K1 at hm
          try dsimp only at hm
          have hm : (poker_Counts_J2 n2).bind some = some r := hm
          exact ⟨n2, hF.weak [0] (by kernel_rfl), hS, hm⟩
  · obtain ⟨hp7, hm⟩ := asrt_b hm
    obtain ⟨r3, hr3, hm⟩ := call_b hm
    obtain ⟨hp8, hm⟩ := asrt_b hm
    obtain ⟨hp9, hm⟩ := asrt_b hm
    refine regMix5 [2, 3] [6] 5 #[false, false, true, true, false, false, false] [⟨true, [], vS (Instr.indexAt 30 (.pointer (some ⟨g1, 0, none⟩)) (.int .i64 8)), .pointer (some ((⟨g1, 0, none⟩ : Addr).add (Int.toNat 8 * 1)))⟩, ⟨false, [], vS (Instr.loadAt 3 (.pointer (some ((⟨g1, 0, none⟩ : Addr).add (Int.toNat 8 * 1))))), .int .i64 (geti ((((List.replicate 9 (0 : Int)).set (Int.toNat 8) 40).set (Int.toNat 7) 624).set (Int.toNat 6) (w64 ((w64 ((w64 (13 * r1)) * 12)) * r2))) 8)⟩] [some (.pointer (some ((⟨g1, 0, none⟩ : Addr).add (Int.toNat 8 * 1)))), some (.int .i64 (geti ((((List.replicate 9 (0 : Int)).set (Int.toNat 8) 40).set (Int.toNat 7) 624).set (Int.toNat 6) (w64 ((w64 ((w64 (13 * r1)) * 12)) * r2))) 8))] [0, 14] [pl 0 (.pointer (some ⟨g1, 0, none⟩)), pl 14 (.int .i64 (geti ((((List.replicate 9 (0 : Int)).set (Int.toNat 8) 40).set (Int.toNat 7) 624).set (Int.toNat 6) (w64 ((w64 ((w64 (13 * r1)) * 12)) * r2))) 8))] hF hS Fol (by kernel_rfl) (by kernel_rfl) (by kernel_rfl) (by kernel_rfl) ?_ (fun a w hF hS => ?_)
    · exact obs_cons (ob_ixA UndA30 hi3 hs3 (fun _ => hp7)) <| obs_cons (ob_getA (m := ((((List.replicate 9 (0 : Int)).set (Int.toNat 8) 40).set (Int.toNat 7) 624).set (Int.toNat 6) (w64 ((w64 ((w64 (13 * r1)) * 12)) * r2)))) (Value.int .i64) (0 : Int) 9 ([] : List Value) ([] : List Value) 8 Agg3 rfl (fun _ hS => ⟨_, _, _, _, _, hS.at_ 0 rfl⟩) (fun hy => by have h0 := hp7; omega)) <| obs_nil
    refine any_step [0] (by kernel_rfl) rfl ?_
    refine (all_cons ?_ all_nil)
    · refine any_op (listed' := #[true, false, true, true, false, false, false]) (by kernel_rfl) (by kernel_rfl) ?_
      refine at_run 1 [⟨false, [], callFunc 55 #[.int .i64 13, .int .i64 5], .int .i64 r3⟩] [some (.int .i64 r3)] [0, 11, 14] [pl 0 (.pointer (some ⟨g1, 0, none⟩)), pl 11 (.int .i64 r3), pl 14 (.int .i64 (geti ((((List.replicate 9 (0 : Int)).set (Int.toNat 8) 40).set (Int.toNat 7) 624).set (Int.toNat 6) (w64 ((w64 ((w64 (13 * r1)) * 12)) * r2))) 8))] hF hS (by kernel_rfl) (by kernel_rfl) ?_ (fun a w hF hS => ?_)
      · exact obs_cons (ob_call Try.func55 (by kernel_rfl) rfl (fun _ _ hS => poker_over_w hr3 hS )) <| obs_nil
      refine any_fin rfl hS ?_
      refine any_step [1] (by kernel_rfl) rfl ?_
      refine (all_cons ?_ all_nil)
      · refine any_op (listed' := #[true, true, true, true, false, false, false]) (by kernel_rfl) (by kernel_rfl) ?_
        refine at_runW 1 [] [] [0, 12, 14] [pl 0 (.pointer (some ⟨g1, 0, none⟩)), pl 12 (.int .i64 (w64 (4 * r3))), pl 14 (.int .i64 (geti ((((List.replicate 9 (0 : Int)).set (Int.toNat 8) 40).set (Int.toNat 7) 624).set (Int.toNat 6) (w64 ((w64 ((w64 (13 * r1)) * 12)) * r2))) 8))] hF hS (by kernel_rfl) (by kernel_rfl) ?_ (fun a hF => ?_)
        · exact obs_nil
        refine any_finI rfl (fun h => h) ?_
        refine any_step [4] (by kernel_rfl) rfl ?_
        refine (all_cons ?_ all_nil)
        · refine any_op (listed' := #[true, true, true, true, true, false, false]) (by kernel_rfl) (by kernel_rfl) ?_
          refine at_runW 1 [] [] [0, 15] [pl 0 (.pointer (some ⟨g1, 0, none⟩)), pl 15 (.int .i64 (w64 ((w64 (4 * r3)) - (geti ((((List.replicate 9 (0 : Int)).set (Int.toNat 8) 40).set (Int.toNat 7) 624).set (Int.toNat 6) (w64 ((w64 ((w64 (13 * r1)) * 12)) * r2))) 8))))] hF hS (by kernel_rfl) (by kernel_rfl) ?_ (fun a hF => ?_)
          · exact obs_nil
          refine any_finI rfl (fun h => h) ?_
          refine any_step [5] (by kernel_rfl) rfl ?_
          refine (all_cons ?_ all_nil)
          · refine any_op (listed' := #[true, true, true, true, true, true, false]) (by kernel_rfl) (by kernel_rfl) ?_
            refine at_runW 1 [⟨true, [], vS (Instr.indexAt 30 (.pointer (some ⟨g1, 0, none⟩)) (.int .i64 5)), .pointer (some ((⟨g1, 0, none⟩ : Addr).add (Int.toNat 5 * 1)))⟩] [some (.pointer (some ((⟨g1, 0, none⟩ : Addr).add (Int.toNat 5 * 1))))] [0, 15, 16] [pl 0 (.pointer (some ⟨g1, 0, none⟩)), pl 15 (.int .i64 (w64 ((w64 (4 * r3)) - (geti ((((List.replicate 9 (0 : Int)).set (Int.toNat 8) 40).set (Int.toNat 7) 624).set (Int.toNat 6) (w64 ((w64 ((w64 (13 * r1)) * 12)) * r2))) 8)))), pl 16 (.pointer (some ((⟨g1, 0, none⟩ : Addr).add (Int.toNat 5 * 1))))] hF hS (by kernel_rfl) (by kernel_rfl) ?_ (fun a hF => ?_)
            · exact obs_cons (ob_ixA UndA30 hi3 hs3 (fun _ => hp8)) <| obs_nil
            refine any_finI rfl (fun h => h) ?_
            refine any_step [6] (by kernel_rfl) rfl ?_
            refine (all_cons ?_ all_nil)
            · refine any_op (listed' := #[true, true, true, true, true, true, true]) (by kernel_rfl) (by kernel_rfl) ?_
              obtain ⟨w, hrun, hS⟩ := run_setA (P := Try.prog) (t := 3) (x := (w64 ((w64 (4 * r3)) - (geti ((((List.replicate 9 (0 : Int)).set (Int.toNat 8) 40).set (Int.toNat 7) 624).set (Int.toNat 6) (w64 ((w64 ((w64 (13 * r1)) * 12)) * r2))) 8)))) (i := 5) (m := ((((List.replicate 9 (0 : Int)).set (Int.toNat 8) 40).set (Int.toNat 7) 624).set (Int.toNat 6) (w64 ((w64 ((w64 (13 * r1)) * 12)) * r2)))) (d := Int.toNat 5 * 1) (Value.int .i64) (0 : Int) 9 ([] : List Value) ([] : List Value) (hS.at_ 0 rfl) rfl hi3 hs3 rfl (by have h0 := hp8; omega) (by have h0 := hp8; have h9 := hp9; omega)
              refine at_skip hF (by kernel_rfl) hrun ?_
              have hS : Sep w0 B w (blk g1 30 (List.toArray (([] : List Value) ++ (arr1 (Value.int .i64) (0 : Int) 9 (((((List.replicate 9 (0 : Int)).set (Int.toNat 8) 40).set (Int.toNat 7) 624).set (Int.toNat 6) (w64 ((w64 ((w64 (13 * r1)) * 12)) * r2))).set (Int.toNat 5) (w64 ((w64 (4 * r3)) - (geti ((((List.replicate 9 (0 : Int)).set (Int.toNat 8) 40).set (Int.toNat 7) 624).set (Int.toNat 6) (w64 ((w64 ((w64 (13 * r1)) * 12)) * r2))) 8)))) ++ ([] : List Value)))) :: fs) := hS
              refine any_finE rfl (by decide) ?_
              refine any_end (by kernel_rfl) ?_
              refine np_n ?_
              refine then_n ?_
              exact ⟨(((((List.replicate 9 (0 : Int)).set (Int.toNat 8) 40).set (Int.toNat 7) 624).set (Int.toNat 6) (w64 ((w64 ((w64 (13 * r1)) * 12)) * r2))).set (Int.toNat 5) (w64 ((w64 (4 * r3)) - (geti ((((List.replicate 9 (0 : Int)).set (Int.toNat 8) 40).set (Int.toNat 7) 624).set (Int.toNat 6) (w64 ((w64 ((w64 (13 * r1)) * 12)) * r2))) 8)))), hF.weak [0] (by kernel_rfl), hS, hm⟩

noncomputable def gameroomref_HandValue_J3  (l1 : List Int) (many1 : List Int) (flush1 : Bool) (i1 : Int) : Option (St (List Int × Bool × Int) (List Int × Bool)) :=
  some (.next ((many1.set (Int.toNat (w64 (Int.tdiv (geti l1 i1) 4))) (w64 ((geti many1 (w64 (Int.tdiv (geti l1 i1) 4))) + 1))), (flush1 && ((Int.tmod (geti l1 i1) 4) == (Int.tmod (geti l1 0) 4))), (w64 (i1 + 1))))

noncomputable def gameroomref_HandValue_J2  (l1 : List Int) (many1 : List Int) (flush1 : Bool) (i1 : Int) : Option (St (List Int × Bool × Int) (List Int × Bool)) :=
  asrt (0 ≤ i1 ∧ i1 < (l1.length : Int)) <| asrt (0 ≤ (w64 (Int.tdiv (geti l1 i1) 4)) ∧ (w64 (Int.tdiv (geti l1 i1) 4)) < (((Int.toNat 13) : Nat) : Int)) <| asrt (0 ≤ (w64 (Int.tdiv (geti l1 i1) 4)) ∧ (w64 (Int.tdiv (geti l1 i1) 4)) < (((Int.toNat 13) : Nat) : Int)) <| asrt (flush1 = true → 0 ≤ i1 ∧ i1 < (l1.length : Int)) <| asrt (flush1 = true → 0 ≤ (0 : Int) ∧ (0 : Int) < (l1.length : Int)) <| (gameroomref_HandValue_J3 l1 many1 flush1 i1)

noncomputable def gameroomref_HandValue_J8  (r1 : Int) (signs5 : List Int) : Option (St (List Int × Int) (List Int)) :=
  some (.next (signs5, (w64 (r1 - 1))))

noncomputable def gameroomref_HandValue_J7  (many2 : List Int) (times1 : Int) (signs3 : List Int) (r1 : Int) : Option (St (List Int × Int) (List Int)) :=
  asrt (0 ≤ r1 ∧ r1 < (((Int.toNat 13) : Nat) : Int)) <| if ((geti many2 r1) == times1) then (asrt ((signs3.length : Int) + 1 ≤ bigN) <| (gameroomref_HandValue_J8 r1) (signs3 ++ ([r1] : List Int))) else ((gameroomref_HandValue_J8 r1) signs3)

noncomputable def gameroomref_HandValue_L3  (many2 : List Int) (times1 : Int) : (List Int × Int) → Option (St (List Int × Int) (List Int)) :=
  fun (x : (List Int × Int)) => match x with | (signs3, r1) => if (decide ((0 : Int) ≤ r1)) then ((gameroomref_HandValue_J7 many2 times1 signs3 r1)) else (some (.done signs3))

noncomputable def gameroomref_HandValue_J6  (times1 : Int) (signs4 : List Int) : Option (St (List Int × Int) (List Int)) :=
  some (.next (signs4, (w64 (times1 - 1))))

noncomputable def gameroomref_HandValue_K3  (times1 : Int) : (List Int) → Option (St (List Int × Int) (List Int)) :=
  fun (x : (List Int)) => match x with | signs4 => (gameroomref_HandValue_J6 times1) signs4

noncomputable def gameroomref_HandValue_J5  (many2 : List Int) (signs1 : List Int) (times1 : Int) : Option (St (List Int × Int) (List Int)) :=
  (loop (gameroomref_HandValue_L3 many2 times1) (signs1, 12)).bind (gameroomref_HandValue_K3 times1)

noncomputable def gameroomref_HandValue_L2  (many2 : List Int) : (List Int × Int) → Option (St (List Int × Int) (List Int)) :=
  fun (x : (List Int × Int)) => match x with | (signs1, times1) => if (decide ((0 : Int) < times1)) then ((gameroomref_HandValue_J5 many2 signs1 times1)) else (some (.done signs1))

noncomputable def gameroomref_HandValue_J14  (many2 : List Int) (r2 : Int) (all1 : Bool) (k1 : Int) : Option (St (Bool × Int) Bool) :=
  some (.next ((all1 && ((geti many2 (Int.tmod (w64 ((w64 (r2 - k1)) + 13)) 13)) == 1)), (w64 (k1 + 1))))

noncomputable def gameroomref_HandValue_J13  (many2 : List Int) (r2 : Int) (all1 : Bool) (k1 : Int) : Option (St (Bool × Int) Bool) :=
  asrt (all1 = true → 0 ≤ (Int.tmod (w64 ((w64 (r2 - k1)) + 13)) 13) ∧ (Int.tmod (w64 ((w64 (r2 - k1)) + 13)) 13) < (((Int.toNat 13) : Nat) : Int)) <| (gameroomref_HandValue_J14 many2 r2 all1 k1)

noncomputable def gameroomref_HandValue_L5  (many2 : List Int) (r2 : Int) : (Bool × Int) → Option (St (Bool × Int) Bool) :=
  fun (x : (Bool × Int)) => match x with | (all1, k1) => if (decide (k1 < 5)) then ((gameroomref_HandValue_J13 many2 r2 all1 k1)) else (some (.done all1))

noncomputable def gameroomref_HandValue_J11  (r2 : Int) (top3 : Int) : Option (St (Int × Int) Int) :=
  some (.next (top3, (w64 (r2 + 1))))

noncomputable def gameroomref_HandValue_J12  (top1 : Int) (r2 : Int) (all2 : Bool) : Option (St (Int × Int) Int) :=
  if all2 then ((gameroomref_HandValue_J11 r2) r2) else ((gameroomref_HandValue_J11 r2) top1)

noncomputable def gameroomref_HandValue_K5  (top1 : Int) (r2 : Int) : Bool → Option (St (Int × Int) Int) :=
  fun (x : Bool) => match x with | all2 => (gameroomref_HandValue_J12 top1 r2) all2

noncomputable def gameroomref_HandValue_J10  (many2 : List Int) (top1 : Int) (r2 : Int) : Option (St (Int × Int) Int) :=
  (loop (gameroomref_HandValue_L5 many2 r2) (true, 0)).bind (gameroomref_HandValue_K5 top1 r2)

noncomputable def gameroomref_HandValue_L4  (many2 : List Int) : (Int × Int) → Option (St (Int × Int) Int) :=
  fun (x : (Int × Int)) => match x with | (top1, r2) => if (decide (r2 < 13)) then ((gameroomref_HandValue_J10 many2 top1 r2)) else (some (.done top1))

noncomputable def gameroomref_HandValue_J18  (signs7 : List Int) : Option (St (List Int) (List Int)) :=
  asrt ((signs7.length : Int) + 1 ≤ bigN) <| some (.next (signs7 ++ ([0] : List Int)))

noncomputable def gameroomref_HandValue_L6  : (List Int) → Option (St (List Int) (List Int)) :=
  fun (x : (List Int)) => match x with | signs7 => if (decide ((signs7.length : Int) < 5)) then ((gameroomref_HandValue_J18 signs7)) else (some (.done signs7))

noncomputable def gameroomref_HandValue_J21  (signs8 : List Int) (v1 : Int) (i2 : Int) : Option (St (Int × Int) Int) :=
  some (.next ((w64 ((w64 (13 * v1)) + (geti signs8 i2))), (w64 (i2 + 1))))

noncomputable def gameroomref_HandValue_J20  (signs8 : List Int) (v1 : Int) (i2 : Int) : Option (St (Int × Int) Int) :=
  asrt (0 ≤ i2 ∧ i2 < (signs8.length : Int)) <| (gameroomref_HandValue_J21 signs8 v1 i2)

noncomputable def gameroomref_HandValue_L7  (signs8 : List Int) : (Int × Int) → Option (St (Int × Int) Int) :=
  fun (x : (Int × Int)) => match x with | (v1, i2) => if (decide (i2 < 5)) then ((gameroomref_HandValue_J20 signs8 v1 i2)) else (some (.done v1))

noncomputable def gameroomref_HandValue_J19  (v2 : Int) : Option Int :=
  some v2

noncomputable def gameroomref_HandValue_K7  : Int → Option Int :=
  fun (x : Int) => match x with | v2 => gameroomref_HandValue_J19 v2

noncomputable def gameroomref_HandValue_J17  (class1 : Int) (signs8 : List Int) : Option Int :=
  (loop (gameroomref_HandValue_L7 signs8) (class1, 0)).bind gameroomref_HandValue_K7

noncomputable def gameroomref_HandValue_K6  (class1 : Int) : (List Int) → Option Int :=
  fun (x : (List Int)) => match x with | signs8 => (gameroomref_HandValue_J17 class1) signs8

noncomputable def gameroomref_HandValue_J16  (class1 : Int) (signs6 : List Int) : Option Int :=
  (loop gameroomref_HandValue_L6 signs6).bind (gameroomref_HandValue_K6 class1)

noncomputable def gameroomref_HandValue_J15  (signs2 : List Int) (top2 : Int) (class1 : Int) : Option Int :=
  if (decide ((0 : Int) ≤ top2)) then ((gameroomref_HandValue_J16 class1) ([top2] : List Int)) else ((gameroomref_HandValue_J16 class1) signs2)

noncomputable def gameroomref_HandValue_J9  (many2 : List Int) (flush2 : Bool) (signs2 : List Int) (top2 : Int) : Option Int :=
  if ((decide ((0 : Int) ≤ top2)) && flush2) then ((gameroomref_HandValue_J15 signs2 top2) 8) else (asrt (0 ≤ (0 : Int) ∧ (0 : Int) < (signs2.length : Int)) <| asrt (0 ≤ (geti signs2 0) ∧ (geti signs2 0) < (((Int.toNat 13) : Nat) : Int)) <| if ((geti many2 (geti signs2 0)) == 4) then ((gameroomref_HandValue_J15 signs2 top2) 7) else (asrt (0 ≤ (0 : Int) ∧ (0 : Int) < (signs2.length : Int)) <| asrt (0 ≤ (geti signs2 0) ∧ (geti signs2 0) < (((Int.toNat 13) : Nat) : Int)) <| asrt (((geti many2 (geti signs2 0)) == 3) = true → 0 ≤ (1 : Int) ∧ (1 : Int) < (signs2.length : Int)) <| asrt (((geti many2 (geti signs2 0)) == 3) = true → 0 ≤ (geti signs2 1) ∧ (geti signs2 1) < (((Int.toNat 13) : Nat) : Int)) <| if (((geti many2 (geti signs2 0)) == 3) && ((geti many2 (geti signs2 1)) == 2)) then ((gameroomref_HandValue_J15 signs2 top2) 6) else (if flush2 then ((gameroomref_HandValue_J15 signs2 top2) 5) else (if (decide ((0 : Int) ≤ top2)) then ((gameroomref_HandValue_J15 signs2 top2) 4) else (asrt (0 ≤ (0 : Int) ∧ (0 : Int) < (signs2.length : Int)) <| asrt (0 ≤ (geti signs2 0) ∧ (geti signs2 0) < (((Int.toNat 13) : Nat) : Int)) <| if ((geti many2 (geti signs2 0)) == 3) then ((gameroomref_HandValue_J15 signs2 top2) 3) else (asrt (0 ≤ (0 : Int) ∧ (0 : Int) < (signs2.length : Int)) <| asrt (0 ≤ (geti signs2 0) ∧ (geti signs2 0) < (((Int.toNat 13) : Nat) : Int)) <| asrt (((geti many2 (geti signs2 0)) == 2) = true → 0 ≤ (1 : Int) ∧ (1 : Int) < (signs2.length : Int)) <| asrt (((geti many2 (geti signs2 0)) == 2) = true → 0 ≤ (geti signs2 1) ∧ (geti signs2 1) < (((Int.toNat 13) : Nat) : Int)) <| if (((geti many2 (geti signs2 0)) == 2) && ((geti many2 (geti signs2 1)) == 2)) then ((gameroomref_HandValue_J15 signs2 top2) 2) else (asrt (0 ≤ (0 : Int) ∧ (0 : Int) < (signs2.length : Int)) <| asrt (0 ≤ (geti signs2 0) ∧ (geti signs2 0) < (((Int.toNat 13) : Nat) : Int)) <| if ((geti many2 (geti signs2 0)) == 2) then ((gameroomref_HandValue_J15 signs2 top2) 1) else ((gameroomref_HandValue_J15 signs2 top2) 0))))))))

noncomputable def gameroomref_HandValue_K4  (many2 : List Int) (flush2 : Bool) (signs2 : List Int) : Int → Option Int :=
  fun (x : Int) => match x with | top2 => (gameroomref_HandValue_J9 many2 flush2 signs2) top2

noncomputable def gameroomref_HandValue_J4  (many2 : List Int) (flush2 : Bool) (signs2 : List Int) : Option Int :=
  (loop (gameroomref_HandValue_L4 many2) ((-1), 3)).bind (gameroomref_HandValue_K4 many2 flush2 signs2)

noncomputable def gameroomref_HandValue_K2  (many2 : List Int) (flush2 : Bool) : (List Int) → Option Int :=
  fun (x : (List Int)) => match x with | signs2 => (gameroomref_HandValue_J4 many2 flush2) signs2

noncomputable def gameroomref_HandValue_J1  (many2 : List Int) (flush2 : Bool) : Option Int :=
  (loop (gameroomref_HandValue_L2 many2) (([] : List Int), 4)).bind (gameroomref_HandValue_K2 many2 flush2)

noncomputable def gameroomref_HandValue_K1  : (List Int × Bool) → Option Int :=
  fun (x : (List Int × Bool)) => match x with | (many2, flush2) => gameroomref_HandValue_J1 many2 flush2

noncomputable def gameroomref_HandValue_L1  (l1 : List Int) : (List Int × Bool × Int) → Option (St (List Int × Bool × Int) (List Int × Bool)) :=
  fun (x : (List Int × Bool × Int)) => match x with | (many1, flush1, i1) => if (decide (i1 < 5)) then ((gameroomref_HandValue_J2 l1 many1 flush1 i1)) else (some (.done (many1, flush1)))

noncomputable def gameroomref_HandValue_m  (l1 : List Int) : Option Int :=
  asrt ((0 : Int) ≤ 13 ∧ 13 ≤ bigN) <| (loop (gameroomref_HandValue_L1 l1) ((List.replicate (Int.toNat 13) (0 : Int)), true, 0)).bind gameroomref_HandValue_K1

set_option maxRecDepth 100000 in
set_option maxHeartbeats 4000000 in
theorem gameroomref_HandValue_w {A1 : Option Addr} {c1 : Nat} {n1 : Nat} {l1 : List Int} {r : Int} {w0 w : World} {B : Nat} {fs : List HP} (hm : gameroomref_HandValue_m l1 = some r) (hS : Sep w0 B w (fs)) (hr_l1 : RdF w0 B fs A1 (vI l1)) (_hc_l1 : l1.length ≤ c1) (_hn_l1 : n1 = l1.length) :
    Calls Try.prog 91 #[.slice A1 n1 c1] w fun e w' => e = .returned (.int .i64 r) ∧ Sep w0 B w' (fs) := by
  obtain ⟨i3, hi3, hz3, hs3, hb3⟩ := info_parts Info3
  obtain rfl := _hn_l1
  unfold gameroomref_HandValue_m at hm
  replace hm := start_b hm
  refine enter (l := [.slice A1 l1.length c1]) (n := 168) Try.func91 rfl rfl (by simp) (fun a hF => ?_)
  refine reg [] [] [0] [pl 0 (.slice A1 l1.length c1)] hF hS Fol (by kernel_rfl) (by kernel_rfl) (by kernel_rfl) ?_ (fun a w hF hS => ?_)
  · exact obs_nil
  refine seqR ?_
  obtain ⟨hp1, hm⟩ := asrt_b hm
  obtain ⟨A2, c2, w, hrun, hS⟩ := run_mk1 (P := Try.prog) (t := 22) (Value.int .i64) (0 : Int) hS .i64 .i64 Und22 hi3 hz3 hs3 (by omega) rfl hp1
  have hS : Sep w0 B w (own 3 (.slice A2 (Int.toNat 13) c2) (vI (List.replicate (Int.toNat 13) (0 : Int))) :: fs) := hS
  refine at_do (d := 16) hF (by kernel_rfl) (by kernel_rfl) hrun (fun a hF => ?_)
  refine at_run 1 [] [] [0, 3] [pl 0 (.slice A1 l1.length c1), pl 3 (.slice A2 (Int.toNat 13) c2)] hF hS (by kernel_rfl) (by kernel_rfl) ?_ (fun a w hF hS => ?_)
  · exact obs_nil
  refine at_end [0, 3] [pl 0 (.slice A1 l1.length c1), pl 3 (.slice A2 (Int.toNat 13) c2)] hF rfl (by kernel_rfl) (fun hF => ?_)
  refine then_n ?_
  refine reg [] [] [0, 3, 4] [pl 0 (.slice A1 l1.length c1), pl 3 (.slice A2 (Int.toNat 13) c2), pl 4 (.bool true)] hF hS Fol (by kernel_rfl) (by kernel_rfl) (by kernel_rfl) ?_ (fun a w hF hS => ?_)
  · exact obs_nil
  refine seq_cut (fun a w => ∃ (many2 : List Int) (flush2 : Bool), Fr 168 [pl 3 (.slice A2 (Int.toNat 13) c2), pl 4 (.bool flush2)] a ∧ Sep w0 B w (own 3 (.slice A2 (Int.toNat 13) c2) (vI many2) :: fs) ∧ (gameroomref_HandValue_J1 many2 flush2).bind some = some r) ?_ ?_
  · rintro a w ⟨many2, flush2, hF, hS, hm⟩
    unfold gameroomref_HandValue_J1 at hm
    refine reg [] [] [3, 4, 6] [pl 3 (.slice A2 (Int.toNat 13) c2), pl 4 (.bool flush2), pl 6 (.slice none 0 0)] hF hS Fol (by kernel_rfl) (by kernel_rfl) (by kernel_rfl) ?_ (fun a w hF hS => ?_)
    · exact obs_nil
    refine seq_cut (fun a w => ∃ (signs2 : List Int) (A4 : Option Addr) (c4 : Nat), Fr 168 [pl 3 (.slice A2 (Int.toNat 13) c2), pl 4 (.bool flush2), pl 6 (.slice A4 signs2.length c4)] a ∧ Sep w0 B w (own 3 (.slice A2 (Int.toNat 13) c2) (vI many2) :: own 3 (.slice A4 signs2.length c4) (vI signs2) :: fs) ∧ ((gameroomref_HandValue_J4 many2 flush2) signs2).bind some = some r) ?_ ?_
    · rintro a w ⟨signs2, A4, c4, hF, hS, hm⟩
      unfold gameroomref_HandValue_J4 at hm
      refine reg [] [] [3, 4, 6, 9] [pl 3 (.slice A2 (Int.toNat 13) c2), pl 4 (.bool flush2), pl 6 (.slice A4 signs2.length c4), pl 9 (.int .i64 (-1))] hF hS Fol (by kernel_rfl) (by kernel_rfl) (by kernel_rfl) ?_ (fun a w hF hS => ?_)
      · exact obs_nil
      refine seq_cut (fun a w => ∃ (top2 : Int), Fr 168 [pl 3 (.slice A2 (Int.toNat 13) c2), pl 4 (.bool flush2), pl 6 (.slice A4 signs2.length c4), pl 9 (.int .i64 top2)] a ∧ Sep w0 B w (own 3 (.slice A2 (Int.toNat 13) c2) (vI many2) :: own 3 (.slice A4 signs2.length c4) (vI signs2) :: fs) ∧ ((gameroomref_HandValue_J9 many2 flush2 signs2) top2).bind some = some r) ?_ ?_
      · rintro a w ⟨top2, hF, hS, hm⟩
        unfold gameroomref_HandValue_J9 at hm
        refine reg [] [] [3, 4, 6, 9, 13] [pl 3 (.slice A2 (Int.toNat 13) c2), pl 4 (.bool flush2), pl 6 (.slice A4 signs2.length c4), pl 9 (.int .i64 top2), pl 13 (.int .i64 0)] hF hS Fol (by kernel_rfl) (by kernel_rfl) (by kernel_rfl) ?_ (fun a w hF hS => ?_)
        · exact obs_nil
        refine seq_cut (fun a w => ∃ (class1 : Int), Fr 168 [pl 6 (.slice A4 signs2.length c4), pl 9 (.int .i64 top2), pl 13 (.int .i64 class1)] a ∧ Sep w0 B w (own 3 (.slice A4 signs2.length c4) (vI signs2) :: fs) ∧ ((gameroomref_HandValue_J15 signs2 top2) class1).bind some = some r) ?_ ?_
        · rintro a w ⟨class1, hF, hS, hm⟩
          unfold gameroomref_HandValue_J15 at hm
          refine seq_cut (fun a w => ∃ (signs6 : List Int) (A9 : Option Addr) (c9 : Nat), Fr 168 [pl 6 (.slice A9 signs6.length c9), pl 13 (.int .i64 class1)] a ∧ Sep w0 B w (own 3 (.slice A9 signs6.length c9) (vI signs6) :: fs) ∧ ((gameroomref_HandValue_J16 class1) signs6).bind some = some r) ?_ ?_
          · rintro a w ⟨signs6, A9, c9, hF, hS, hm⟩
            unfold gameroomref_HandValue_J16 at hm
            refine seq_cut (fun a w => ∃ (signs8 : List Int) (A11 : Option Addr) (c11 : Nat), Fr 168 [pl 6 (.slice A11 signs8.length c11), pl 13 (.int .i64 class1)] a ∧ Sep w0 B w (own 3 (.slice A11 signs8.length c11) (vI signs8) :: fs) ∧ ((gameroomref_HandValue_J17 class1) signs8).bind some = some r) ?_ ?_
            · rintro a w ⟨signs8, A11, c11, hF, hS, hm⟩
              unfold gameroomref_HandValue_J17 at hm
              refine reg [] [] [6, 14] [pl 6 (.slice A11 signs8.length c11), pl 14 (.int .i64 class1)] hF hS Fol (by kernel_rfl) (by kernel_rfl) (by kernel_rfl) ?_ (fun a w hF hS => ?_)
              · exact obs_nil
              refine seq_cut (fun a w => ∃ (v2 : Int), Fr 168 [pl 14 (.int .i64 v2)] a ∧ Sep w0 B w (fs) ∧ (gameroomref_HandValue_J19 v2).bind some = some r) ?_ ?_
              · rintro a w ⟨v2, hF, hS, hm⟩
                unfold gameroomref_HandValue_J19 at hm
                refine reg [] [] [2] [pl 2 (.int .i64 v2)] hF hS Fol (by kernel_rfl) (by kernel_rfl) (by kernel_rfl) ?_ (fun a w hF hS => ?_)
                · exact obs_nil
                refine wpIn_ret ?_
                have hm : some v2 = some r := hm
                obtain rfl := Option.some.inj hm
                exact retV (rs := [.tmp 2]) (vs := [.int .i64 v2]) hF rfl (rv_t (by kernel_rfl) <| rv_nil) rfl ⟨rfl, hS⟩
              · refine reg [] [] [6, 14, 15] [pl 6 (.slice A11 signs8.length c11), pl 14 (.int .i64 class1), pl 15 (.int .i64 0)] hF hS Fol (by kernel_rfl) (by kernel_rfl) (by kernel_rfl) ?_ (fun a w hF hS => ?_)
                · exact obs_nil
                refine wpIn_block ?_
                refine wp_loop_model (S := (Int × Int)) (R := Int) (gameroomref_HandValue_L7 signs8) (fun x => (gameroomref_HandValue_K7 x).bind some) r (fun (x : (Int × Int)) a w => Fr 168 [pl 6 (.slice A11 signs8.length c11), pl 14 (.int .i64 x.1), pl 15 (.int .i64 x.2)] a ∧ Sep w0 B w (own 3 (.slice A11 signs8.length c11) (vI signs8) :: fs)) (assoc_b hm) ⟨hF.weak [6, 14, 15] (by kernel_rfl), hS⟩ ?_
                clear hF hS hm
                rintro nn7 ⟨v1, i2⟩ a w ⟨hF, hS⟩ hm
                generalize hφ7 : stK (gameroomref_HandValue_L7 signs8) nn7 (fun x => (gameroomref_HandValue_K7 x).bind some) = φ7 at hm
                unfold gameroomref_HandValue_L7 at hm
                dsimp only at hF hS hm
                refine seq_cut (fun a w => Fr 168 [pl 6 (.slice A11 signs8.length c11), pl 14 (.int .i64 v1), pl 15 (.int .i64 i2)] a ∧ Sep w0 B w (own 3 (.slice A11 signs8.length c11) (vI signs8) :: fs) ∧ ((gameroomref_HandValue_J20 signs8 v1 i2)).bind φ7 = some r) ?_ ?_
                · rintro a w ⟨hF, hS, hm⟩
                  unfold gameroomref_HandValue_J20 at hm
                  refine seq_cut (fun a w => Fr 168 [pl 6 (.slice A11 signs8.length c11), pl 14 (.int .i64 (w64 ((w64 (13 * v1)) + (geti signs8 i2)))), pl 15 (.int .i64 i2)] a ∧ Sep w0 B w (own 3 (.slice A11 signs8.length c11) (vI signs8) :: fs) ∧ ((gameroomref_HandValue_J21 signs8 v1 i2)).bind φ7 = some r) ?_ ?_
                  · rintro a w ⟨hF, hS, hm⟩
                    unfold gameroomref_HandValue_J21 at hm
                    refine reg1 [] [] [6, 14, 15] [pl 6 (.slice A11 signs8.length c11), pl 14 (.int .i64 (w64 ((w64 (13 * v1)) + (geti signs8 i2)))), pl 15 (.int .i64 (w64 (i2 + 1)))] hF hS Fol (by kernel_rfl) (by kernel_rfl) (by kernel_rfl) ?_ (fun a w hF hS => ?_)
                    · exact obs_nil
                    refine then_n ?_
                    rw [← hφ7] at hm
                    exact ⟨((w64 ((w64 (13 * v1)) + (geti signs8 i2))), (w64 (i2 + 1))), ⟨hF.weak [6, 14, 15] (by kernel_rfl), hS⟩, hm⟩
                  · refine wpIn_block ?_
                    obtain ⟨hp25, hm⟩ := asrt_b hm
                    refine reg1 [⟨true, [], vS (Instr.indexAt 22 (.slice A11 signs8.length c11) (.int .i64 i2)), .pointer (some (sAddr A11 i2))⟩, ⟨false, [], vS (Instr.loadAt 3 (.pointer (some (sAddr A11 i2)))), .int .i64 (geti signs8 i2)⟩] [none, none, none, none, some (.pointer (some (sAddr A11 i2))), some (.int .i64 (geti signs8 i2)), none, none] [6, 14, 15] [pl 6 (.slice A11 signs8.length c11), pl 14 (.int .i64 (w64 ((w64 (13 * v1)) + (geti signs8 i2)))), pl 15 (.int .i64 i2)] hF hS Fol (by kernel_rfl) (by kernel_rfl) (by kernel_rfl) ?_ (fun a w hF hS => ?_)
                    · exact obs_cons (ob_ix1 (f := (Value.int .i64)) (m := signs8) Und22 hi3 hs3 (hS.at_ 0 rfl).rd rfl (fun _ => hp25)) <| obs_cons (ob_get1 (n := signs8.length) (m := signs8) (Value.int .i64) (0 : Int) Agg3 (fun _ hS => ⟨_, (hS.at_ 0 rfl).rd⟩) (fun _ hS => rfl) (fun _ => hp25)) <| obs_nil
                    refine block_n ?_
                    refine then_n ?_
                    exact ⟨hF.weak [6, 14, 15] (by kernel_rfl), hS, hm⟩
                · refine reg [] [] [6, 14, 15, 157] [pl 6 (.slice A11 signs8.length c11), pl 14 (.int .i64 v1), pl 15 (.int .i64 i2), pl 157 (.bool (decide (i2 < 5)))] hF hS Fol (by kernel_rfl) (by kernel_rfl) (by kernel_rfl) ?_ (fun a w hF hS => ?_)
                  · exact obs_nil
                  refine cond_ev (t := 157) (b := decide (i2 < 5)) hF (by kernel_rfl) (fun hb => ?_) (fun hb => ?_)
                  · replace hm := if_t hm hb
                    refine wpIn_skip ?_
                    refine then_n ?_
                    exact ⟨hF.weak [6, 14, 15] (by kernel_rfl), hS, hm⟩
                  · replace hm := if_f hm hb
                    refine wpIn_exit ?_
                    refine then_e (then_e (block_e (then_n ?_)))
                    have hS := hS.pickN 1 [] (by decide)
                    rw [← hφ7] at hm
                    replace hm := done_b hm
                    unfold gameroomref_HandValue_K7 at hm
                    try dsimp only at hm
                    have hm : (gameroomref_HandValue_J19 v1).bind some = some r := hm
                    exact ⟨v1, hF.weak [14] (by kernel_rfl), hS, hm⟩
            · refine wpIn_block ?_
              refine wp_loop_model (S := (List Int)) (R := (List Int)) gameroomref_HandValue_L6 (fun x => ((gameroomref_HandValue_K6 class1) x).bind some) r (fun (x : (List Int)) a w => ∃ (A10 : Option Addr) (c10 : Nat), Fr 168 [pl 6 (.slice A10 x.length c10), pl 13 (.int .i64 class1)] a ∧ Sep w0 B w (own 3 (.slice A10 x.length c10) (vI x) :: fs)) (assoc_b hm) ⟨A9, c9, hF.weak [6, 13] (by kernel_rfl), hS⟩ ?_
              clear hF hS hm
              rintro nn6 signs7 a w ⟨A10, c10, hF, hS⟩ hm
              generalize hφ6 : stK gameroomref_HandValue_L6 nn6 (fun x => ((gameroomref_HandValue_K6 class1) x).bind some) = φ6 at hm
              unfold gameroomref_HandValue_L6 at hm
              dsimp only at hm
              refine seq_cut (fun a w => Fr 168 [pl 6 (.slice A10 signs7.length c10), pl 13 (.int .i64 class1)] a ∧ Sep w0 B w (own 3 (.slice A10 signs7.length c10) (vI signs7) :: fs) ∧ ((gameroomref_HandValue_J18 signs7)).bind φ6 = some r) ?_ ?_
              · rintro a w ⟨hF, hS, hm⟩
                unfold gameroomref_HandValue_J18 at hm
                refine wpIn_block ?_
                refine oneR ?_
                obtain ⟨hp24, hm⟩ := asrt_b hm
                refine at_run 1 [] [] [13, 152] [pl 13 (.int .i64 class1), pl 152 (.slice A10 signs7.length c10)] hF hS (by kernel_rfl) (by kernel_rfl) ?_ (fun a w hF hS => ?_)
                · exact obs_nil
                refine at_do (d := 153) (s := vS (Instr.buildSlice 22 1 #[(0, .int .i64 0)])) (v := .slice (some ⟨w.heap.size, 0, none⟩) 1 1) (w' := w.alloc (.cells #[.int .i64 0] 3)) hF (by kernel_rfl) (by kernel_rfl) (by kernel_rfl) (fun a hF => ?_)
                have hS : Sep w0 B (w.alloc (.cells #[.int .i64 0] 3)) (own 3 (.slice (some (⟨w.heap.size, 0, none⟩ : Addr)) 1 1) (vI ([0] : List Int)) :: (own 3 (.slice A10 signs7.length c10) (vI signs7) :: fs)) := hS.lit 3 #[.int .i64 0] 1 rfl (by omega)
                generalize (some (⟨w.heap.size, 0, none⟩ : Addr)) = g3 at hF hS
                generalize w.alloc (.cells #[.int .i64 0] 3) = w at hS ⊢
                obtain ⟨A12, c12, w, hrun, hS⟩ := run_app1 (P := Try.prog) (t := 22) (m := signs7) (ys := ([0] : List Int)) (A2 := g3) (m2 := 1) (c2 := 1) (Value.int .i64) (0 : Int) (hS.at_ 1 rfl) (hS.at_ 0 rfl).rd ((hS.at_ 0 rfl).len1) 22 Und22 hi3 hz3 hs3 (by omega) rfl (fun _ => rfl) hp24
                have hS : Sep w0 B w (own 3 (.slice g3 1 1) (vI ([0] : List Int)) :: own 3 (.slice A12 ((signs7 ++ ([0] : List Int)).length) c12) (vI (signs7 ++ ([0] : List Int))) :: fs) := hS
                refine at_do (d := 154) hF (by kernel_rfl) (by kernel_rfl) hrun (fun a hF => ?_)
                refine at_run 1 [] [] [6, 13] [pl 6 (.slice A12 ((signs7 ++ ([0] : List Int)).length) c12), pl 13 (.int .i64 class1)] hF hS (by kernel_rfl) (by kernel_rfl) ?_ (fun a w hF hS => ?_)
                · exact obs_nil
                refine at_end [6, 13] [pl 6 (.slice A12 ((signs7 ++ ([0] : List Int)).length) c12), pl 13 (.int .i64 class1)] hF rfl (by kernel_rfl) (fun hF => ?_)
                refine block_n ?_
                refine then_n ?_
                have hS := hS.pickN 2 [1] (by decide)
                rw [← hφ6] at hm
                exact ⟨(signs7 ++ ([0] : List Int)), ⟨A12, c12, hF.weak [6, 13] (by kernel_rfl), hS⟩, hm⟩
              · refine reg [] [] [6, 13, 151] [pl 6 (.slice A10 signs7.length c10), pl 13 (.int .i64 class1), pl 151 (.bool (decide ((signs7.length : Int) < 5)))] hF hS Fol (by kernel_rfl) (by kernel_rfl) (by kernel_rfl) ?_ (fun a w hF hS => ?_)
                · exact obs_nil
                refine cond_ev (t := 151) (b := decide ((signs7.length : Int) < 5)) hF (by kernel_rfl) (fun hb => ?_) (fun hb => ?_)
                · replace hm := if_t hm hb
                  refine wpIn_skip ?_
                  refine then_n ?_
                  exact ⟨hF.weak [6, 13] (by kernel_rfl), hS, hm⟩
                · replace hm := if_f hm hb
                  refine wpIn_exit ?_
                  refine then_e (then_e (block_e (then_n ?_)))
                  rw [← hφ6] at hm
                  replace hm := done_b hm
                  unfold gameroomref_HandValue_K6 at hm
                  try dsimp only at hm
                  have hm : ((gameroomref_HandValue_J17 class1) signs7).bind some = some r := hm
                  exact ⟨signs7, A10, c10, hF.weak [6, 13] (by kernel_rfl), hS, hm⟩
          · refine reg [] [] [6, 9, 13, 146] [pl 6 (.slice A4 signs2.length c4), pl 9 (.int .i64 top2), pl 13 (.int .i64 class1), pl 146 (.bool (decide ((0 : Int) ≤ top2)))] hF hS Fol (by kernel_rfl) (by kernel_rfl) (by kernel_rfl) ?_ (fun a w hF hS => ?_)
            · exact obs_nil
            refine cond_ev (t := 146) (b := decide ((0 : Int) ≤ top2)) hF (by kernel_rfl) (fun hb => ?_) (fun hb => ?_)
            · replace hm := if_t hm hb
              refine oneR ?_
              refine at_run 1 [] [] [13, 147] [pl 13 (.int .i64 class1), pl 147 (.int .i64 top2)] hF hS (by kernel_rfl) (by kernel_rfl) ?_ (fun a w hF hS => ?_)
              · exact obs_nil
              refine at_do (d := 148) (s := vS (Instr.buildSlice 22 1 #[(0, .int .i64 top2)])) (v := .slice (some ⟨w.heap.size, 0, none⟩) 1 1) (w' := w.alloc (.cells #[.int .i64 top2] 3)) hF (by kernel_rfl) (by kernel_rfl) (by kernel_rfl) (fun a hF => ?_)
              have hS : Sep w0 B (w.alloc (.cells #[.int .i64 top2] 3)) (own 3 (.slice (some (⟨w.heap.size, 0, none⟩ : Addr)) 1 1) (vI ([top2] : List Int)) :: (own 3 (.slice A4 signs2.length c4) (vI signs2) :: fs)) := hS.lit 3 #[.int .i64 top2] 1 rfl (by omega)
              generalize (some (⟨w.heap.size, 0, none⟩ : Addr)) = g2 at hF hS
              generalize w.alloc (.cells #[.int .i64 top2] 3) = w at hS ⊢
              refine at_run 1 [] [] [6, 13] [pl 6 (.slice g2 1 1), pl 13 (.int .i64 class1)] hF hS (by kernel_rfl) (by kernel_rfl) ?_ (fun a w hF hS => ?_)
              · exact obs_nil
              refine at_end [6, 13] [pl 6 (.slice g2 1 1), pl 13 (.int .i64 class1)] hF rfl (by kernel_rfl) (fun hF => ?_)
              refine then_n ?_
              have hl2 := (hS.at_ 0 rfl).len1
              have hS := (hS.at_ 0 rfl).reN hl2
              have hS : Sep w0 B w (own 3 (.slice g2 (([top2] : List Int).length) 1) (vI ([top2] : List Int)) :: own 3 (.slice A4 signs2.length c4) (vI signs2) :: fs) := hS
              have hF := hF.cast (t := 6) (v := .slice g2 1 1) (v' := .slice g2 (([top2] : List Int).length) 1) rfl rfl (congrArg (fun k => Value.slice g2 k 1) hl2)
              have hS := hS.pickN 2 [0] (by decide)
              exact ⟨([top2] : List Int), g2, 1, hF.weak [6, 13] (by kernel_rfl), hS, hm⟩
            · replace hm := if_f hm hb
              refine wpIn_skip ?_
              refine then_n ?_
              exact ⟨signs2, A4, c4, hF.weak [6, 13] (by kernel_rfl), hS, hm⟩
        · refine reg [] [] [3, 4, 6, 9, 13, 88] [pl 3 (.slice A2 (Int.toNat 13) c2), pl 4 (.bool flush2), pl 6 (.slice A4 signs2.length c4), pl 9 (.int .i64 top2), pl 13 (.int .i64 0), pl 88 (.bool ((decide ((0 : Int) ≤ top2)) && flush2))] hF hS Fol (by kernel_rfl) (by kernel_rfl) (by kernel_rfl) ?_ (fun a w hF hS => ?_)
          · exact obs_nil
          refine cond_ev (t := 88) (b := (decide ((0 : Int) ≤ top2)) && flush2) hF (by kernel_rfl) (fun hb => ?_) (fun hb => ?_)
          · replace hm := if_t hm hb
            refine reg1 [] [] [6, 9, 13] [pl 6 (.slice A4 signs2.length c4), pl 9 (.int .i64 top2), pl 13 (.int .i64 8)] hF hS Fol (by kernel_rfl) (by kernel_rfl) (by kernel_rfl) ?_ (fun a w hF hS => ?_)
            · exact obs_nil
            refine then_n ?_
            have hS := hS.pickN 2 [1] (by decide)
            exact ⟨8, hF.weak [6, 9, 13] (by kernel_rfl), hS, hm⟩
          · replace hm := if_f hm hb
            obtain ⟨hp10, hm⟩ := asrt_b hm
            obtain ⟨hp11, hm⟩ := asrt_b hm
            refine reg [⟨true, [], vS (Instr.indexAt 22 (.slice A4 signs2.length c4) (.int .i64 0)), .pointer (some (sAddr A4 0))⟩, ⟨false, [], vS (Instr.loadAt 3 (.pointer (some (sAddr A4 0)))), .int .i64 (geti signs2 0)⟩, ⟨true, [], vS (Instr.indexAt 22 (.slice A2 (Int.toNat 13) c2) (.int .i64 (geti signs2 0))), .pointer (some (sAddr A2 (geti signs2 0)))⟩, ⟨false, [], vS (Instr.loadAt 3 (.pointer (some (sAddr A2 (geti signs2 0))))), .int .i64 (geti many2 (geti signs2 0))⟩] [none, none, some (.pointer (some (sAddr A4 0))), some (.int .i64 (geti signs2 0)), some (.pointer (some (sAddr A2 (geti signs2 0)))), some (.int .i64 (geti many2 (geti signs2 0))), none] [3, 4, 6, 9, 13, 95] [pl 3 (.slice A2 (Int.toNat 13) c2), pl 4 (.bool flush2), pl 6 (.slice A4 signs2.length c4), pl 9 (.int .i64 top2), pl 13 (.int .i64 0), pl 95 (.bool ((geti many2 (geti signs2 0)) == 4))] hF hS Fol (by kernel_rfl) (by kernel_rfl) (by kernel_rfl) ?_ (fun a w hF hS => ?_)
            · exact obs_cons (ob_ix1 (f := (Value.int .i64)) (m := signs2) Und22 hi3 hs3 (hS.at_ 1 rfl).rd rfl (fun _ => hp10)) <| obs_cons (ob_get1 (n := signs2.length) (m := signs2) (Value.int .i64) (0 : Int) Agg3 (fun _ hS => ⟨_, (hS.at_ 1 rfl).rd⟩) (fun _ hS => rfl) (fun _ => hp10)) <| obs_cons (ob_ix1 (f := (Value.int .i64)) (m := many2) Und22 hi3 hs3 (hS.at_ 0 rfl).rd ((hS.at_ 0 rfl).len1) (fun _ => hp11)) <| obs_cons (ob_get1 (n := (Int.toNat 13)) (m := many2) (Value.int .i64) (0 : Int) Agg3 (fun _ hS => ⟨_, (hS.at_ 0 rfl).rd⟩) (fun _ hS => ((hS.at_ 0 rfl).len1)) (fun _ => hp11)) <| obs_nil
            refine cond_ev (t := 95) (b := ((geti many2 (geti signs2 0)) == 4)) hF (by kernel_rfl) (fun hb => ?_) (fun hb => ?_)
            · replace hm := if_t hm hb
              refine reg1 [] [] [6, 9, 13] [pl 6 (.slice A4 signs2.length c4), pl 9 (.int .i64 top2), pl 13 (.int .i64 7)] hF hS Fol (by kernel_rfl) (by kernel_rfl) (by kernel_rfl) ?_ (fun a w hF hS => ?_)
              · exact obs_nil
              refine then_n ?_
              have hS := hS.pickN 2 [1] (by decide)
              exact ⟨7, hF.weak [6, 9, 13] (by kernel_rfl), hS, hm⟩
            · replace hm := if_f hm hb
              obtain ⟨hp12, hm⟩ := asrt_b hm
              obtain ⟨hp13, hm⟩ := asrt_b hm
              obtain ⟨hp14, hm⟩ := asrt_b hm
              obtain ⟨hp15, hm⟩ := asrt_b hm
              refine reg [⟨true, [], vS (Instr.indexAt 22 (.slice A4 signs2.length c4) (.int .i64 0)), .pointer (some (sAddr A4 0))⟩, ⟨false, [], vS (Instr.loadAt 3 (.pointer (some (sAddr A4 0)))), .int .i64 (geti signs2 0)⟩, ⟨true, [], vS (Instr.indexAt 22 (.slice A2 (Int.toNat 13) c2) (.int .i64 (geti signs2 0))), .pointer (some (sAddr A2 (geti signs2 0)))⟩, ⟨false, [], vS (Instr.loadAt 3 (.pointer (some (sAddr A2 (geti signs2 0))))), .int .i64 (geti many2 (geti signs2 0))⟩, ⟨true, [(((geti many2 (geti signs2 0)) == 3), true)], vS (Instr.indexAt 22 (.slice A4 signs2.length c4) (.int .i64 1)), .pointer (some (sAddr A4 1))⟩, ⟨false, [(((geti many2 (geti signs2 0)) == 3), true)], vS (Instr.loadAt 3 (.pointer (some (sAddr A4 1)))), .int .i64 (geti signs2 1)⟩, ⟨true, [(((geti many2 (geti signs2 0)) == 3), true)], vS (Instr.indexAt 22 (.slice A2 (Int.toNat 13) c2) (.int .i64 (geti signs2 1))), .pointer (some (sAddr A2 (geti signs2 1)))⟩, ⟨false, [(((geti many2 (geti signs2 0)) == 3), true)], vS (Instr.loadAt 3 (.pointer (some (sAddr A2 (geti signs2 1))))), .int .i64 (geti many2 (geti signs2 1))⟩] [none, none, some (.pointer (some (sAddr A4 0))), some (.int .i64 (geti signs2 0)), some (.pointer (some (sAddr A2 (geti signs2 0)))), some (.int .i64 (geti many2 (geti signs2 0))), none, none, none, none, some (.pointer (some (sAddr A4 1))), some (.int .i64 (geti signs2 1)), some (.pointer (some (sAddr A2 (geti signs2 1)))), some (.int .i64 (geti many2 (geti signs2 1))), none, none] [3, 4, 6, 9, 13, 111] [pl 3 (.slice A2 (Int.toNat 13) c2), pl 4 (.bool flush2), pl 6 (.slice A4 signs2.length c4), pl 9 (.int .i64 top2), pl 13 (.int .i64 0), pl 111 (.bool (((geti many2 (geti signs2 0)) == 3) && ((geti many2 (geti signs2 1)) == 2)))] hF hS Fol (by kernel_rfl) (by kernel_rfl) (by kernel_rfl) ?_ (fun a w hF hS => ?_)
              · exact obs_cons (ob_ix1 (f := (Value.int .i64)) (m := signs2) Und22 hi3 hs3 (hS.at_ 1 rfl).rd rfl (fun _ => hp12)) <| obs_cons (ob_get1 (n := signs2.length) (m := signs2) (Value.int .i64) (0 : Int) Agg3 (fun _ hS => ⟨_, (hS.at_ 1 rfl).rd⟩) (fun _ hS => rfl) (fun _ => hp12)) <| obs_cons (ob_ix1 (f := (Value.int .i64)) (m := many2) Und22 hi3 hs3 (hS.at_ 0 rfl).rd ((hS.at_ 0 rfl).len1) (fun _ => hp13)) <| obs_cons (ob_get1 (n := (Int.toNat 13)) (m := many2) (Value.int .i64) (0 : Int) Agg3 (fun _ hS => ⟨_, (hS.at_ 0 rfl).rd⟩) (fun _ hS => ((hS.at_ 0 rfl).len1)) (fun _ => hp13)) <| obs_cons (ob_ix1 (f := (Value.int .i64)) (m := signs2) Und22 hi3 hs3 (hS.at_ 1 rfl).rd rfl (fun hy => hp14 (hy (((geti many2 (geti signs2 0)) == 3), true) (by simp)))) <| obs_cons (ob_get1 (n := signs2.length) (m := signs2) (Value.int .i64) (0 : Int) Agg3 (fun _ hS => ⟨_, (hS.at_ 1 rfl).rd⟩) (fun _ hS => rfl) (fun hy => hp14 (hy (((geti many2 (geti signs2 0)) == 3), true) (by simp)))) <| obs_cons (ob_ix1 (f := (Value.int .i64)) (m := many2) Und22 hi3 hs3 (hS.at_ 0 rfl).rd ((hS.at_ 0 rfl).len1) (fun hy => hp15 (hy (((geti many2 (geti signs2 0)) == 3), true) (by simp)))) <| obs_cons (ob_get1 (n := (Int.toNat 13)) (m := many2) (Value.int .i64) (0 : Int) Agg3 (fun _ hS => ⟨_, (hS.at_ 0 rfl).rd⟩) (fun _ hS => ((hS.at_ 0 rfl).len1)) (fun hy => hp15 (hy (((geti many2 (geti signs2 0)) == 3), true) (by simp)))) <| obs_nil
              refine cond_ev (t := 111) (b := ((geti many2 (geti signs2 0)) == 3) && ((geti many2 (geti signs2 1)) == 2)) hF (by kernel_rfl) (fun hb => ?_) (fun hb => ?_)
              · replace hm := if_t hm hb
                refine reg1 [] [] [6, 9, 13] [pl 6 (.slice A4 signs2.length c4), pl 9 (.int .i64 top2), pl 13 (.int .i64 6)] hF hS Fol (by kernel_rfl) (by kernel_rfl) (by kernel_rfl) ?_ (fun a w hF hS => ?_)
                · exact obs_nil
                refine then_n ?_
                have hS := hS.pickN 2 [1] (by decide)
                exact ⟨6, hF.weak [6, 9, 13] (by kernel_rfl), hS, hm⟩
              · replace hm := if_f hm hb
                refine reg [] [] [3, 6, 9, 13, 112] [pl 3 (.slice A2 (Int.toNat 13) c2), pl 6 (.slice A4 signs2.length c4), pl 9 (.int .i64 top2), pl 13 (.int .i64 0), pl 112 (.bool flush2)] hF hS Fol (by kernel_rfl) (by kernel_rfl) (by kernel_rfl) ?_ (fun a w hF hS => ?_)
                · exact obs_nil
                refine cond_ev (t := 112) (b := flush2) hF (by kernel_rfl) (fun hb => ?_) (fun hb => ?_)
                · replace hm := if_t hm hb
                  refine reg1 [] [] [6, 9, 13] [pl 6 (.slice A4 signs2.length c4), pl 9 (.int .i64 top2), pl 13 (.int .i64 5)] hF hS Fol (by kernel_rfl) (by kernel_rfl) (by kernel_rfl) ?_ (fun a w hF hS => ?_)
                  · exact obs_nil
                  refine then_n ?_
                  have hS := hS.pickN 2 [1] (by decide)
                  exact ⟨5, hF.weak [6, 9, 13] (by kernel_rfl), hS, hm⟩
                · replace hm := if_f hm hb
                  refine reg [] [] [3, 6, 9, 13, 114] [pl 3 (.slice A2 (Int.toNat 13) c2), pl 6 (.slice A4 signs2.length c4), pl 9 (.int .i64 top2), pl 13 (.int .i64 0), pl 114 (.bool (decide ((0 : Int) ≤ top2)))] hF hS Fol (by kernel_rfl) (by kernel_rfl) (by kernel_rfl) ?_ (fun a w hF hS => ?_)
                  · exact obs_nil
                  refine cond_ev (t := 114) (b := decide ((0 : Int) ≤ top2)) hF (by kernel_rfl) (fun hb => ?_) (fun hb => ?_)
                  · replace hm := if_t hm hb
                    refine reg1 [] [] [6, 9, 13] [pl 6 (.slice A4 signs2.length c4), pl 9 (.int .i64 top2), pl 13 (.int .i64 4)] hF hS Fol (by kernel_rfl) (by kernel_rfl) (by kernel_rfl) ?_ (fun a w hF hS => ?_)
                    · exact obs_nil
                    refine then_n ?_
                    have hS := hS.pickN 2 [1] (by decide)
                    exact ⟨4, hF.weak [6, 9, 13] (by kernel_rfl), hS, hm⟩
                  · replace hm := if_f hm hb
                    obtain ⟨hp16, hm⟩ := asrt_b hm
                    obtain ⟨hp17, hm⟩ := asrt_b hm
                    refine reg [⟨true, [], vS (Instr.indexAt 22 (.slice A4 signs2.length c4) (.int .i64 0)), .pointer (some (sAddr A4 0))⟩, ⟨false, [], vS (Instr.loadAt 3 (.pointer (some (sAddr A4 0)))), .int .i64 (geti signs2 0)⟩, ⟨true, [], vS (Instr.indexAt 22 (.slice A2 (Int.toNat 13) c2) (.int .i64 (geti signs2 0))), .pointer (some (sAddr A2 (geti signs2 0)))⟩, ⟨false, [], vS (Instr.loadAt 3 (.pointer (some (sAddr A2 (geti signs2 0))))), .int .i64 (geti many2 (geti signs2 0))⟩] [none, none, some (.pointer (some (sAddr A4 0))), some (.int .i64 (geti signs2 0)), some (.pointer (some (sAddr A2 (geti signs2 0)))), some (.int .i64 (geti many2 (geti signs2 0))), none] [3, 6, 9, 13, 121] [pl 3 (.slice A2 (Int.toNat 13) c2), pl 6 (.slice A4 signs2.length c4), pl 9 (.int .i64 top2), pl 13 (.int .i64 0), pl 121 (.bool ((geti many2 (geti signs2 0)) == 3))] hF hS Fol (by kernel_rfl) (by kernel_rfl) (by kernel_rfl) ?_ (fun a w hF hS => ?_)
                    · exact obs_cons (ob_ix1 (f := (Value.int .i64)) (m := signs2) Und22 hi3 hs3 (hS.at_ 1 rfl).rd rfl (fun _ => hp16)) <| obs_cons (ob_get1 (n := signs2.length) (m := signs2) (Value.int .i64) (0 : Int) Agg3 (fun _ hS => ⟨_, (hS.at_ 1 rfl).rd⟩) (fun _ hS => rfl) (fun _ => hp16)) <| obs_cons (ob_ix1 (f := (Value.int .i64)) (m := many2) Und22 hi3 hs3 (hS.at_ 0 rfl).rd ((hS.at_ 0 rfl).len1) (fun _ => hp17)) <| obs_cons (ob_get1 (n := (Int.toNat 13)) (m := many2) (Value.int .i64) (0 : Int) Agg3 (fun _ hS => ⟨_, (hS.at_ 0 rfl).rd⟩) (fun _ hS => ((hS.at_ 0 rfl).len1)) (fun _ => hp17)) <| obs_nil
                    refine cond_ev (t := 121) (b := ((geti many2 (geti signs2 0)) == 3)) hF (by kernel_rfl) (fun hb => ?_) (fun hb => ?_)
                    · replace hm := if_t hm hb
                      refine reg1 [] [] [6, 9, 13] [pl 6 (.slice A4 signs2.length c4), pl 9 (.int .i64 top2), pl 13 (.int .i64 3)] hF hS Fol (by kernel_rfl) (by kernel_rfl) (by kernel_rfl) ?_ (fun a w hF hS => ?_)
                      · exact obs_nil
                      refine then_n ?_
                      have hS := hS.pickN 2 [1] (by decide)
                      exact ⟨3, hF.weak [6, 9, 13] (by kernel_rfl), hS, hm⟩
                    · replace hm := if_f hm hb
                      obtain ⟨hp18, hm⟩ := asrt_b hm
                      obtain ⟨hp19, hm⟩ := asrt_b hm
                      obtain ⟨hp20, hm⟩ := asrt_b hm
                      obtain ⟨hp21, hm⟩ := asrt_b hm
                      refine reg [⟨true, [], vS (Instr.indexAt 22 (.slice A4 signs2.length c4) (.int .i64 0)), .pointer (some (sAddr A4 0))⟩, ⟨false, [], vS (Instr.loadAt 3 (.pointer (some (sAddr A4 0)))), .int .i64 (geti signs2 0)⟩, ⟨true, [], vS (Instr.indexAt 22 (.slice A2 (Int.toNat 13) c2) (.int .i64 (geti signs2 0))), .pointer (some (sAddr A2 (geti signs2 0)))⟩, ⟨false, [], vS (Instr.loadAt 3 (.pointer (some (sAddr A2 (geti signs2 0))))), .int .i64 (geti many2 (geti signs2 0))⟩, ⟨true, [(((geti many2 (geti signs2 0)) == 2), true)], vS (Instr.indexAt 22 (.slice A4 signs2.length c4) (.int .i64 1)), .pointer (some (sAddr A4 1))⟩, ⟨false, [(((geti many2 (geti signs2 0)) == 2), true)], vS (Instr.loadAt 3 (.pointer (some (sAddr A4 1)))), .int .i64 (geti signs2 1)⟩, ⟨true, [(((geti many2 (geti signs2 0)) == 2), true)], vS (Instr.indexAt 22 (.slice A2 (Int.toNat 13) c2) (.int .i64 (geti signs2 1))), .pointer (some (sAddr A2 (geti signs2 1)))⟩, ⟨false, [(((geti many2 (geti signs2 0)) == 2), true)], vS (Instr.loadAt 3 (.pointer (some (sAddr A2 (geti signs2 1))))), .int .i64 (geti many2 (geti signs2 1))⟩] [none, none, some (.pointer (some (sAddr A4 0))), some (.int .i64 (geti signs2 0)), some (.pointer (some (sAddr A2 (geti signs2 0)))), some (.int .i64 (geti many2 (geti signs2 0))), none, none, none, none, some (.pointer (some (sAddr A4 1))), some (.int .i64 (geti signs2 1)), some (.pointer (some (sAddr A2 (geti signs2 1)))), some (.int .i64 (geti many2 (geti signs2 1))), none, none] [3, 6, 9, 13, 137] [pl 3 (.slice A2 (Int.toNat 13) c2), pl 6 (.slice A4 signs2.length c4), pl 9 (.int .i64 top2), pl 13 (.int .i64 0), pl 137 (.bool (((geti many2 (geti signs2 0)) == 2) && ((geti many2 (geti signs2 1)) == 2)))] hF hS Fol (by kernel_rfl) (by kernel_rfl) (by kernel_rfl) ?_ (fun a w hF hS => ?_)
                      · exact obs_cons (ob_ix1 (f := (Value.int .i64)) (m := signs2) Und22 hi3 hs3 (hS.at_ 1 rfl).rd rfl (fun _ => hp18)) <| obs_cons (ob_get1 (n := signs2.length) (m := signs2) (Value.int .i64) (0 : Int) Agg3 (fun _ hS => ⟨_, (hS.at_ 1 rfl).rd⟩) (fun _ hS => rfl) (fun _ => hp18)) <| obs_cons (ob_ix1 (f := (Value.int .i64)) (m := many2) Und22 hi3 hs3 (hS.at_ 0 rfl).rd ((hS.at_ 0 rfl).len1) (fun _ => hp19)) <| obs_cons (ob_get1 (n := (Int.toNat 13)) (m := many2) (Value.int .i64) (0 : Int) Agg3 (fun _ hS => ⟨_, (hS.at_ 0 rfl).rd⟩) (fun _ hS => ((hS.at_ 0 rfl).len1)) (fun _ => hp19)) <| obs_cons (ob_ix1 (f := (Value.int .i64)) (m := signs2) Und22 hi3 hs3 (hS.at_ 1 rfl).rd rfl (fun hy => hp20 (hy (((geti many2 (geti signs2 0)) == 2), true) (by simp)))) <| obs_cons (ob_get1 (n := signs2.length) (m := signs2) (Value.int .i64) (0 : Int) Agg3 (fun _ hS => ⟨_, (hS.at_ 1 rfl).rd⟩) (fun _ hS => rfl) (fun hy => hp20 (hy (((geti many2 (geti signs2 0)) == 2), true) (by simp)))) <| obs_cons (ob_ix1 (f := (Value.int .i64)) (m := many2) Und22 hi3 hs3 (hS.at_ 0 rfl).rd ((hS.at_ 0 rfl).len1) (fun hy => hp21 (hy (((geti many2 (geti signs2 0)) == 2), true) (by simp)))) <| obs_cons (ob_get1 (n := (Int.toNat 13)) (m := many2) (Value.int .i64) (0 : Int) Agg3 (fun _ hS => ⟨_, (hS.at_ 0 rfl).rd⟩) (fun _ hS => ((hS.at_ 0 rfl).len1)) (fun hy => hp21 (hy (((geti many2 (geti signs2 0)) == 2), true) (by simp)))) <| obs_nil
                      refine cond_ev (t := 137) (b := ((geti many2 (geti signs2 0)) == 2) && ((geti many2 (geti signs2 1)) == 2)) hF (by kernel_rfl) (fun hb => ?_) (fun hb => ?_)
                      · replace hm := if_t hm hb
                        refine reg1 [] [] [6, 9, 13] [pl 6 (.slice A4 signs2.length c4), pl 9 (.int .i64 top2), pl 13 (.int .i64 2)] hF hS Fol (by kernel_rfl) (by kernel_rfl) (by kernel_rfl) ?_ (fun a w hF hS => ?_)
                        · exact obs_nil
                        refine then_n ?_
                        have hS := hS.pickN 2 [1] (by decide)
                        exact ⟨2, hF.weak [6, 9, 13] (by kernel_rfl), hS, hm⟩
                      · replace hm := if_f hm hb
                        obtain ⟨hp22, hm⟩ := asrt_b hm
                        obtain ⟨hp23, hm⟩ := asrt_b hm
                        refine reg [⟨true, [], vS (Instr.indexAt 22 (.slice A4 signs2.length c4) (.int .i64 0)), .pointer (some (sAddr A4 0))⟩, ⟨false, [], vS (Instr.loadAt 3 (.pointer (some (sAddr A4 0)))), .int .i64 (geti signs2 0)⟩, ⟨true, [], vS (Instr.indexAt 22 (.slice A2 (Int.toNat 13) c2) (.int .i64 (geti signs2 0))), .pointer (some (sAddr A2 (geti signs2 0)))⟩, ⟨false, [], vS (Instr.loadAt 3 (.pointer (some (sAddr A2 (geti signs2 0))))), .int .i64 (geti many2 (geti signs2 0))⟩] [none, none, some (.pointer (some (sAddr A4 0))), some (.int .i64 (geti signs2 0)), some (.pointer (some (sAddr A2 (geti signs2 0)))), some (.int .i64 (geti many2 (geti signs2 0))), none] [6, 9, 13, 144] [pl 6 (.slice A4 signs2.length c4), pl 9 (.int .i64 top2), pl 13 (.int .i64 0), pl 144 (.bool ((geti many2 (geti signs2 0)) == 2))] hF hS Fol (by kernel_rfl) (by kernel_rfl) (by kernel_rfl) ?_ (fun a w hF hS => ?_)
                        · exact obs_cons (ob_ix1 (f := (Value.int .i64)) (m := signs2) Und22 hi3 hs3 (hS.at_ 1 rfl).rd rfl (fun _ => hp22)) <| obs_cons (ob_get1 (n := signs2.length) (m := signs2) (Value.int .i64) (0 : Int) Agg3 (fun _ hS => ⟨_, (hS.at_ 1 rfl).rd⟩) (fun _ hS => rfl) (fun _ => hp22)) <| obs_cons (ob_ix1 (f := (Value.int .i64)) (m := many2) Und22 hi3 hs3 (hS.at_ 0 rfl).rd ((hS.at_ 0 rfl).len1) (fun _ => hp23)) <| obs_cons (ob_get1 (n := (Int.toNat 13)) (m := many2) (Value.int .i64) (0 : Int) Agg3 (fun _ hS => ⟨_, (hS.at_ 0 rfl).rd⟩) (fun _ hS => ((hS.at_ 0 rfl).len1)) (fun _ => hp23)) <| obs_nil
                        refine cond_ev (t := 144) (b := ((geti many2 (geti signs2 0)) == 2)) hF (by kernel_rfl) (fun hb => ?_) (fun hb => ?_)
                        · replace hm := if_t hm hb
                          refine reg1 [] [] [6, 9, 13] [pl 6 (.slice A4 signs2.length c4), pl 9 (.int .i64 top2), pl 13 (.int .i64 1)] hF hS Fol (by kernel_rfl) (by kernel_rfl) (by kernel_rfl) ?_ (fun a w hF hS => ?_)
                          · exact obs_nil
                          refine then_n ?_
                          have hS := hS.pickN 2 [1] (by decide)
                          exact ⟨1, hF.weak [6, 9, 13] (by kernel_rfl), hS, hm⟩
                        · replace hm := if_f hm hb
                          refine wpIn_skip ?_
                          refine then_n ?_
                          have hS := hS.pickN 2 [1] (by decide)
                          exact ⟨0, hF.weak [6, 9, 13] (by kernel_rfl), hS, hm⟩
      · refine reg [] [] [3, 4, 6, 9, 10] [pl 3 (.slice A2 (Int.toNat 13) c2), pl 4 (.bool flush2), pl 6 (.slice A4 signs2.length c4), pl 9 (.int .i64 (-1)), pl 10 (.int .i64 3)] hF hS Fol (by kernel_rfl) (by kernel_rfl) (by kernel_rfl) ?_ (fun a w hF hS => ?_)
        · exact obs_nil
        refine wpIn_block ?_
        refine wp_loop_model (S := (Int × Int)) (R := Int) (gameroomref_HandValue_L4 many2) (fun x => ((gameroomref_HandValue_K4 many2 flush2 signs2) x).bind some) r (fun (x : (Int × Int)) a w => Fr 168 [pl 3 (.slice A2 (Int.toNat 13) c2), pl 4 (.bool flush2), pl 6 (.slice A4 signs2.length c4), pl 9 (.int .i64 x.1), pl 10 (.int .i64 x.2)] a ∧ Sep w0 B w (own 3 (.slice A2 (Int.toNat 13) c2) (vI many2) :: own 3 (.slice A4 signs2.length c4) (vI signs2) :: fs)) (assoc_b hm) ⟨hF.weak [3, 4, 6, 9, 10] (by kernel_rfl), hS⟩ ?_
        clear hF hS hm
        rintro nn4 ⟨top1, r2⟩ a w ⟨hF, hS⟩ hm
        generalize hφ4 : stK (gameroomref_HandValue_L4 many2) nn4 (fun x => ((gameroomref_HandValue_K4 many2 flush2 signs2) x).bind some) = φ4 at hm
        unfold gameroomref_HandValue_L4 at hm
        dsimp only at hF hS hm
        refine seq_cut (fun a w => Fr 168 [pl 3 (.slice A2 (Int.toNat 13) c2), pl 4 (.bool flush2), pl 6 (.slice A4 signs2.length c4), pl 9 (.int .i64 top1), pl 10 (.int .i64 r2)] a ∧ Sep w0 B w (own 3 (.slice A2 (Int.toNat 13) c2) (vI many2) :: own 3 (.slice A4 signs2.length c4) (vI signs2) :: fs) ∧ ((gameroomref_HandValue_J10 many2 top1 r2)).bind φ4 = some r) ?_ ?_
        · rintro a w ⟨hF, hS, hm⟩
          unfold gameroomref_HandValue_J10 at hm
          refine seq_cut (fun a w => ∃ (top3 : Int), Fr 168 [pl 3 (.slice A2 (Int.toNat 13) c2), pl 4 (.bool flush2), pl 6 (.slice A4 signs2.length c4), pl 9 (.int .i64 top3), pl 10 (.int .i64 r2)] a ∧ Sep w0 B w (own 3 (.slice A2 (Int.toNat 13) c2) (vI many2) :: own 3 (.slice A4 signs2.length c4) (vI signs2) :: fs) ∧ ((gameroomref_HandValue_J11 r2) top3).bind φ4 = some r) ?_ ?_
          · rintro a w ⟨top3, hF, hS, hm⟩
            unfold gameroomref_HandValue_J11 at hm
            refine reg1 [] [] [3, 4, 6, 9, 10] [pl 3 (.slice A2 (Int.toNat 13) c2), pl 4 (.bool flush2), pl 6 (.slice A4 signs2.length c4), pl 9 (.int .i64 top3), pl 10 (.int .i64 (w64 (r2 + 1)))] hF hS Fol (by kernel_rfl) (by kernel_rfl) (by kernel_rfl) ?_ (fun a w hF hS => ?_)
            · exact obs_nil
            refine then_n ?_
            rw [← hφ4] at hm
            exact ⟨(top3, (w64 (r2 + 1))), ⟨hF.weak [3, 4, 6, 9, 10] (by kernel_rfl), hS⟩, hm⟩
          · refine wpIn_block ?_
            refine reg [] [] [3, 4, 6, 9, 10, 11] [pl 3 (.slice A2 (Int.toNat 13) c2), pl 4 (.bool flush2), pl 6 (.slice A4 signs2.length c4), pl 9 (.int .i64 top1), pl 10 (.int .i64 r2), pl 11 (.bool true)] hF hS Fol (by kernel_rfl) (by kernel_rfl) (by kernel_rfl) ?_ (fun a w hF hS => ?_)
            · exact obs_nil
            refine seq_cut (fun a w => ∃ (all2 : Bool), Fr 168 [pl 3 (.slice A2 (Int.toNat 13) c2), pl 4 (.bool flush2), pl 6 (.slice A4 signs2.length c4), pl 9 (.int .i64 top1), pl 10 (.int .i64 r2), pl 11 (.bool all2)] a ∧ Sep w0 B w (own 3 (.slice A2 (Int.toNat 13) c2) (vI many2) :: own 3 (.slice A4 signs2.length c4) (vI signs2) :: fs) ∧ ((gameroomref_HandValue_J12 top1 r2) all2).bind φ4 = some r) ?_ ?_
            · rintro a w ⟨all2, hF, hS, hm⟩
              unfold gameroomref_HandValue_J12 at hm
              refine reg [] [] [3, 4, 6, 9, 10, 82] [pl 3 (.slice A2 (Int.toNat 13) c2), pl 4 (.bool flush2), pl 6 (.slice A4 signs2.length c4), pl 9 (.int .i64 top1), pl 10 (.int .i64 r2), pl 82 (.bool all2)] hF hS Fol (by kernel_rfl) (by kernel_rfl) (by kernel_rfl) ?_ (fun a w hF hS => ?_)
              · exact obs_nil
              refine cond_ev (t := 82) (b := all2) hF (by kernel_rfl) (fun hb => ?_) (fun hb => ?_)
              · replace hm := if_t hm hb
                refine reg1 [] [] [3, 4, 6, 9, 10] [pl 3 (.slice A2 (Int.toNat 13) c2), pl 4 (.bool flush2), pl 6 (.slice A4 signs2.length c4), pl 9 (.int .i64 r2), pl 10 (.int .i64 r2)] hF hS Fol (by kernel_rfl) (by kernel_rfl) (by kernel_rfl) ?_ (fun a w hF hS => ?_)
                · exact obs_nil
                refine block_n ?_
                refine then_n ?_
                exact ⟨r2, hF.weak [3, 4, 6, 9, 10] (by kernel_rfl), hS, hm⟩
              · replace hm := if_f hm hb
                refine wpIn_skip ?_
                refine block_n ?_
                refine then_n ?_
                exact ⟨top1, hF.weak [3, 4, 6, 9, 10] (by kernel_rfl), hS, hm⟩
            · refine reg [] [] [3, 4, 6, 9, 10, 11, 12] [pl 3 (.slice A2 (Int.toNat 13) c2), pl 4 (.bool flush2), pl 6 (.slice A4 signs2.length c4), pl 9 (.int .i64 top1), pl 10 (.int .i64 r2), pl 11 (.bool true), pl 12 (.int .i64 0)] hF hS Fol (by kernel_rfl) (by kernel_rfl) (by kernel_rfl) ?_ (fun a w hF hS => ?_)
              · exact obs_nil
              refine wpIn_block ?_
              refine wp_loop_model (S := (Bool × Int)) (R := Bool) (gameroomref_HandValue_L5 many2 r2) (fun x => ((gameroomref_HandValue_K5 top1 r2) x).bind φ4) r (fun (x : (Bool × Int)) a w => Fr 168 [pl 3 (.slice A2 (Int.toNat 13) c2), pl 4 (.bool flush2), pl 6 (.slice A4 signs2.length c4), pl 9 (.int .i64 top1), pl 10 (.int .i64 r2), pl 11 (.bool x.1), pl 12 (.int .i64 x.2)] a ∧ Sep w0 B w (own 3 (.slice A2 (Int.toNat 13) c2) (vI many2) :: own 3 (.slice A4 signs2.length c4) (vI signs2) :: fs)) (assoc_b hm) ⟨hF.weak [3, 4, 6, 9, 10, 11, 12] (by kernel_rfl), hS⟩ ?_
              clear hF hS hm
              rintro nn5 ⟨all1, k1⟩ a w ⟨hF, hS⟩ hm
              generalize hφ5 : stK (gameroomref_HandValue_L5 many2 r2) nn5 (fun x => ((gameroomref_HandValue_K5 top1 r2) x).bind φ4) = φ5 at hm
              unfold gameroomref_HandValue_L5 at hm
              dsimp only at hF hS hm
              refine seq_cut (fun a w => Fr 168 [pl 3 (.slice A2 (Int.toNat 13) c2), pl 4 (.bool flush2), pl 6 (.slice A4 signs2.length c4), pl 9 (.int .i64 top1), pl 10 (.int .i64 r2), pl 11 (.bool all1), pl 12 (.int .i64 k1)] a ∧ Sep w0 B w (own 3 (.slice A2 (Int.toNat 13) c2) (vI many2) :: own 3 (.slice A4 signs2.length c4) (vI signs2) :: fs) ∧ ((gameroomref_HandValue_J13 many2 r2 all1 k1)).bind φ5 = some r) ?_ ?_
              · rintro a w ⟨hF, hS, hm⟩
                unfold gameroomref_HandValue_J13 at hm
                refine seq_cut (fun a w => Fr 168 [pl 3 (.slice A2 (Int.toNat 13) c2), pl 4 (.bool flush2), pl 6 (.slice A4 signs2.length c4), pl 9 (.int .i64 top1), pl 10 (.int .i64 r2), pl 11 (.bool (all1 && ((geti many2 (Int.tmod (w64 ((w64 (r2 - k1)) + 13)) 13)) == 1))), pl 12 (.int .i64 k1)] a ∧ Sep w0 B w (own 3 (.slice A2 (Int.toNat 13) c2) (vI many2) :: own 3 (.slice A4 signs2.length c4) (vI signs2) :: fs) ∧ ((gameroomref_HandValue_J14 many2 r2 all1 k1)).bind φ5 = some r) ?_ ?_
                · rintro a w ⟨hF, hS, hm⟩
                  unfold gameroomref_HandValue_J14 at hm
                  refine reg1 [] [] [3, 4, 6, 9, 10, 11, 12] [pl 3 (.slice A2 (Int.toNat 13) c2), pl 4 (.bool flush2), pl 6 (.slice A4 signs2.length c4), pl 9 (.int .i64 top1), pl 10 (.int .i64 r2), pl 11 (.bool (all1 && ((geti many2 (Int.tmod (w64 ((w64 (r2 - k1)) + 13)) 13)) == 1))), pl 12 (.int .i64 (w64 (k1 + 1)))] hF hS Fol (by kernel_rfl) (by kernel_rfl) (by kernel_rfl) ?_ (fun a w hF hS => ?_)
                  · exact obs_nil
                  refine then_n ?_
                  rw [← hφ5] at hm
                  exact ⟨((all1 && ((geti many2 (Int.tmod (w64 ((w64 (r2 - k1)) + 13)) 13)) == 1)), (w64 (k1 + 1))), ⟨hF.weak [3, 4, 6, 9, 10, 11, 12] (by kernel_rfl), hS⟩, hm⟩
                · refine wpIn_block ?_
                  obtain ⟨hp9, hm⟩ := asrt_b hm
                  refine reg1 [⟨true, [(all1, true)], vS (Instr.indexAt 22 (.slice A2 (Int.toNat 13) c2) (.int .i64 (Int.tmod (w64 ((w64 (r2 - k1)) + 13)) 13))), .pointer (some (sAddr A2 (Int.tmod (w64 ((w64 (r2 - k1)) + 13)) 13)))⟩, ⟨false, [(all1, true)], vS (Instr.loadAt 3 (.pointer (some (sAddr A2 (Int.tmod (w64 ((w64 (r2 - k1)) + 13)) 13))))), .int .i64 (geti many2 (Int.tmod (w64 ((w64 (r2 - k1)) + 13)) 13))⟩] [none, none, none, none, none, none, none, none, some (.pointer (some (sAddr A2 (Int.tmod (w64 ((w64 (r2 - k1)) + 13)) 13)))), some (.int .i64 (geti many2 (Int.tmod (w64 ((w64 (r2 - k1)) + 13)) 13))), none, none, none] [3, 4, 6, 9, 10, 11, 12] [pl 3 (.slice A2 (Int.toNat 13) c2), pl 4 (.bool flush2), pl 6 (.slice A4 signs2.length c4), pl 9 (.int .i64 top1), pl 10 (.int .i64 r2), pl 11 (.bool (all1 && ((geti many2 (Int.tmod (w64 ((w64 (r2 - k1)) + 13)) 13)) == 1))), pl 12 (.int .i64 k1)] hF hS Fol (by kernel_rfl) (by kernel_rfl) (by kernel_rfl) ?_ (fun a w hF hS => ?_)
                  · exact obs_cons (ob_ix1 (f := (Value.int .i64)) (m := many2) Und22 hi3 hs3 (hS.at_ 0 rfl).rd ((hS.at_ 0 rfl).len1) (fun hy => hp9 (hy (all1, true) (by simp)))) <| obs_cons (ob_get1 (n := (Int.toNat 13)) (m := many2) (Value.int .i64) (0 : Int) Agg3 (fun _ hS => ⟨_, (hS.at_ 0 rfl).rd⟩) (fun _ hS => ((hS.at_ 0 rfl).len1)) (fun hy => hp9 (hy (all1, true) (by simp)))) <| obs_nil
                  refine block_n ?_
                  refine then_n ?_
                  exact ⟨hF.weak [3, 4, 6, 9, 10, 11, 12] (by kernel_rfl), hS, hm⟩
              · refine reg [] [] [3, 4, 6, 9, 10, 11, 12, 67] [pl 3 (.slice A2 (Int.toNat 13) c2), pl 4 (.bool flush2), pl 6 (.slice A4 signs2.length c4), pl 9 (.int .i64 top1), pl 10 (.int .i64 r2), pl 11 (.bool all1), pl 12 (.int .i64 k1), pl 67 (.bool (decide (k1 < 5)))] hF hS Fol (by kernel_rfl) (by kernel_rfl) (by kernel_rfl) ?_ (fun a w hF hS => ?_)
                · exact obs_nil
                refine cond_ev (t := 67) (b := decide (k1 < 5)) hF (by kernel_rfl) (fun hb => ?_) (fun hb => ?_)
                · replace hm := if_t hm hb
                  refine wpIn_skip ?_
                  refine then_n ?_
                  exact ⟨hF.weak [3, 4, 6, 9, 10, 11, 12] (by kernel_rfl), hS, hm⟩
                · replace hm := if_f hm hb
                  refine wpIn_exit ?_
                  refine then_e (then_e (block_e (then_n ?_)))
                  rw [← hφ5] at hm
                  replace hm := done_b hm
                  unfold gameroomref_HandValue_K5 at hm
                  try dsimp only at hm
                  have hm : ((gameroomref_HandValue_J12 top1 r2) all1).bind φ4 = some r := hm
                  exact ⟨all1, hF.weak [3, 4, 6, 9, 10, 11] (by kernel_rfl), hS, hm⟩
        · refine reg [] [] [3, 4, 6, 9, 10, 63] [pl 3 (.slice A2 (Int.toNat 13) c2), pl 4 (.bool flush2), pl 6 (.slice A4 signs2.length c4), pl 9 (.int .i64 top1), pl 10 (.int .i64 r2), pl 63 (.bool (decide (r2 < 13)))] hF hS Fol (by kernel_rfl) (by kernel_rfl) (by kernel_rfl) ?_ (fun a w hF hS => ?_)
          · exact obs_nil
          refine cond_ev (t := 63) (b := decide (r2 < 13)) hF (by kernel_rfl) (fun hb => ?_) (fun hb => ?_)
          · replace hm := if_t hm hb
            refine wpIn_skip ?_
            refine then_n ?_
            exact ⟨hF.weak [3, 4, 6, 9, 10] (by kernel_rfl), hS, hm⟩
          · replace hm := if_f hm hb
            refine wpIn_exit ?_
            refine then_e (then_e (block_e (then_n ?_)))
            rw [← hφ4] at hm
            replace hm := done_b hm
            unfold gameroomref_HandValue_K4 at hm
            try dsimp only at hm
            have hm : ((gameroomref_HandValue_J9 many2 flush2 signs2) top1).bind some = some r := hm
            exact ⟨top1, hF.weak [3, 4, 6, 9] (by kernel_rfl), hS, hm⟩
    · refine reg [] [] [3, 4, 6, 7] [pl 3 (.slice A2 (Int.toNat 13) c2), pl 4 (.bool flush2), pl 6 (.slice none 0 0), pl 7 (.int .i64 4)] hF hS Fol (by kernel_rfl) (by kernel_rfl) (by kernel_rfl) ?_ (fun a w hF hS => ?_)
      · exact obs_nil
      refine wpIn_block ?_
      have hS : Sep w0 B w (own 3 (.slice none 0 0) (vI ([] : List Int)) :: own 3 (.slice A2 (Int.toNat 13) c2) (vI many2) :: fs) := hS.nil 3
      have hl1 := (hS.at_ 0 rfl).len1
      have hS := (hS.at_ 0 rfl).reN hl1
      have hS : Sep w0 B w (own 3 (.slice none (([] : List Int).length) 0) (vI ([] : List Int)) :: own 3 (.slice A2 (Int.toNat 13) c2) (vI many2) :: fs) := hS
      have hF := hF.cast (t := 6) (v := .slice none 0 0) (v' := .slice none (([] : List Int).length) 0) rfl rfl (congrArg (fun k => Value.slice none k 0) hl1)
      have hS := hS.pickN 2 [1, 0] (by decide)
      refine wp_loop_model (S := (List Int × Int)) (R := (List Int)) (gameroomref_HandValue_L2 many2) (fun x => ((gameroomref_HandValue_K2 many2 flush2) x).bind some) r (fun (x : (List Int × Int)) a w => ∃ (A3 : Option Addr) (c3 : Nat), Fr 168 [pl 3 (.slice A2 (Int.toNat 13) c2), pl 4 (.bool flush2), pl 6 (.slice A3 x.1.length c3), pl 7 (.int .i64 x.2)] a ∧ Sep w0 B w (own 3 (.slice A2 (Int.toNat 13) c2) (vI many2) :: own 3 (.slice A3 x.1.length c3) (vI x.1) :: fs)) (assoc_b hm) ⟨none, 0, hF.weak [3, 4, 6, 7] (by kernel_rfl), hS⟩ ?_
      clear hF hS hm
      rintro nn2 ⟨signs1, times1⟩ a w ⟨A3, c3, hF, hS⟩ hm
      generalize hφ2 : stK (gameroomref_HandValue_L2 many2) nn2 (fun x => ((gameroomref_HandValue_K2 many2 flush2) x).bind some) = φ2 at hm
      unfold gameroomref_HandValue_L2 at hm
      dsimp only at hF hS hm
      refine seq_cut (fun a w => Fr 168 [pl 3 (.slice A2 (Int.toNat 13) c2), pl 4 (.bool flush2), pl 6 (.slice A3 signs1.length c3), pl 7 (.int .i64 times1)] a ∧ Sep w0 B w (own 3 (.slice A2 (Int.toNat 13) c2) (vI many2) :: own 3 (.slice A3 signs1.length c3) (vI signs1) :: fs) ∧ ((gameroomref_HandValue_J5 many2 signs1 times1)).bind φ2 = some r) ?_ ?_
      · rintro a w ⟨hF, hS, hm⟩
        unfold gameroomref_HandValue_J5 at hm
        refine seq_cut (fun a w => ∃ (signs4 : List Int) (A6 : Option Addr) (c6 : Nat), Fr 168 [pl 3 (.slice A2 (Int.toNat 13) c2), pl 4 (.bool flush2), pl 6 (.slice A6 signs4.length c6), pl 7 (.int .i64 times1)] a ∧ Sep w0 B w (own 3 (.slice A2 (Int.toNat 13) c2) (vI many2) :: own 3 (.slice A6 signs4.length c6) (vI signs4) :: fs) ∧ ((gameroomref_HandValue_J6 times1) signs4).bind φ2 = some r) ?_ ?_
        · rintro a w ⟨signs4, A6, c6, hF, hS, hm⟩
          unfold gameroomref_HandValue_J6 at hm
          refine reg1 [] [] [3, 4, 6, 7] [pl 3 (.slice A2 (Int.toNat 13) c2), pl 4 (.bool flush2), pl 6 (.slice A6 signs4.length c6), pl 7 (.int .i64 (w64 (times1 - 1)))] hF hS Fol (by kernel_rfl) (by kernel_rfl) (by kernel_rfl) ?_ (fun a w hF hS => ?_)
          · exact obs_nil
          refine then_n ?_
          rw [← hφ2] at hm
          exact ⟨(signs4, (w64 (times1 - 1))), ⟨A6, c6, hF.weak [3, 4, 6, 7] (by kernel_rfl), hS⟩, hm⟩
        · refine wpIn_block ?_
          refine reg [] [] [3, 4, 6, 7, 8] [pl 3 (.slice A2 (Int.toNat 13) c2), pl 4 (.bool flush2), pl 6 (.slice A3 signs1.length c3), pl 7 (.int .i64 times1), pl 8 (.int .i64 12)] hF hS Fol (by kernel_rfl) (by kernel_rfl) (by kernel_rfl) ?_ (fun a w hF hS => ?_)
          · exact obs_nil
          refine wpIn_block ?_
          refine wp_loop_model (S := (List Int × Int)) (R := (List Int)) (gameroomref_HandValue_L3 many2 times1) (fun x => ((gameroomref_HandValue_K3 times1) x).bind φ2) r (fun (x : (List Int × Int)) a w => ∃ (A5 : Option Addr) (c5 : Nat), Fr 168 [pl 3 (.slice A2 (Int.toNat 13) c2), pl 4 (.bool flush2), pl 6 (.slice A5 x.1.length c5), pl 7 (.int .i64 times1), pl 8 (.int .i64 x.2)] a ∧ Sep w0 B w (own 3 (.slice A2 (Int.toNat 13) c2) (vI many2) :: own 3 (.slice A5 x.1.length c5) (vI x.1) :: fs)) (assoc_b hm) ⟨A3, c3, hF.weak [3, 4, 6, 7, 8] (by kernel_rfl), hS⟩ ?_
          clear hF hS hm
          rintro nn3 ⟨signs3, r1⟩ a w ⟨A5, c5, hF, hS⟩ hm
          generalize hφ3 : stK (gameroomref_HandValue_L3 many2 times1) nn3 (fun x => ((gameroomref_HandValue_K3 times1) x).bind φ2) = φ3 at hm
          unfold gameroomref_HandValue_L3 at hm
          dsimp only at hF hS hm
          refine seq_cut (fun a w => Fr 168 [pl 3 (.slice A2 (Int.toNat 13) c2), pl 4 (.bool flush2), pl 6 (.slice A5 signs3.length c5), pl 7 (.int .i64 times1), pl 8 (.int .i64 r1)] a ∧ Sep w0 B w (own 3 (.slice A2 (Int.toNat 13) c2) (vI many2) :: own 3 (.slice A5 signs3.length c5) (vI signs3) :: fs) ∧ ((gameroomref_HandValue_J7 many2 times1 signs3 r1)).bind φ3 = some r) ?_ ?_
          · rintro a w ⟨hF, hS, hm⟩
            unfold gameroomref_HandValue_J7 at hm
            refine seq_cut (fun a w => ∃ (signs5 : List Int) (A8 : Option Addr) (c8 : Nat), Fr 168 [pl 3 (.slice A2 (Int.toNat 13) c2), pl 4 (.bool flush2), pl 6 (.slice A8 signs5.length c8), pl 7 (.int .i64 times1), pl 8 (.int .i64 r1)] a ∧ Sep w0 B w (own 3 (.slice A2 (Int.toNat 13) c2) (vI many2) :: own 3 (.slice A8 signs5.length c8) (vI signs5) :: fs) ∧ ((gameroomref_HandValue_J8 r1) signs5).bind φ3 = some r) ?_ ?_
            · rintro a w ⟨signs5, A8, c8, hF, hS, hm⟩
              unfold gameroomref_HandValue_J8 at hm
              refine reg1 [] [] [3, 4, 6, 7, 8] [pl 3 (.slice A2 (Int.toNat 13) c2), pl 4 (.bool flush2), pl 6 (.slice A8 signs5.length c8), pl 7 (.int .i64 times1), pl 8 (.int .i64 (w64 (r1 - 1)))] hF hS Fol (by kernel_rfl) (by kernel_rfl) (by kernel_rfl) ?_ (fun a w hF hS => ?_)
              · exact obs_nil
              refine then_n ?_
              rw [← hφ3] at hm
              exact ⟨(signs5, (w64 (r1 - 1))), ⟨A8, c8, hF.weak [3, 4, 6, 7, 8] (by kernel_rfl), hS⟩, hm⟩
            · refine wpIn_block ?_
              obtain ⟨hp7, hm⟩ := asrt_b hm
              refine reg [⟨true, [], vS (Instr.indexAt 22 (.slice A2 (Int.toNat 13) c2) (.int .i64 r1)), .pointer (some (sAddr A2 r1))⟩, ⟨false, [], vS (Instr.loadAt 3 (.pointer (some (sAddr A2 r1)))), .int .i64 (geti many2 r1)⟩] [none, none, some (.pointer (some (sAddr A2 r1))), some (.int .i64 (geti many2 r1)), none, none] [3, 4, 6, 7, 8, 57] [pl 3 (.slice A2 (Int.toNat 13) c2), pl 4 (.bool flush2), pl 6 (.slice A5 signs3.length c5), pl 7 (.int .i64 times1), pl 8 (.int .i64 r1), pl 57 (.bool ((geti many2 r1) == times1))] hF hS Fol (by kernel_rfl) (by kernel_rfl) (by kernel_rfl) ?_ (fun a w hF hS => ?_)
              · exact obs_cons (ob_ix1 (f := (Value.int .i64)) (m := many2) Und22 hi3 hs3 (hS.at_ 0 rfl).rd ((hS.at_ 0 rfl).len1) (fun _ => hp7)) <| obs_cons (ob_get1 (n := (Int.toNat 13)) (m := many2) (Value.int .i64) (0 : Int) Agg3 (fun _ hS => ⟨_, (hS.at_ 0 rfl).rd⟩) (fun _ hS => ((hS.at_ 0 rfl).len1)) (fun _ => hp7)) <| obs_nil
              refine cond_ev (t := 57) (b := ((geti many2 r1) == times1)) hF (by kernel_rfl) (fun hb => ?_) (fun hb => ?_)
              · replace hm := if_t hm hb
                refine oneR ?_
                obtain ⟨hp8, hm⟩ := asrt_b hm
                refine at_run 2 [] [] [3, 4, 7, 8, 58, 59] [pl 3 (.slice A2 (Int.toNat 13) c2), pl 4 (.bool flush2), pl 7 (.int .i64 times1), pl 8 (.int .i64 r1), pl 58 (.slice A5 signs3.length c5), pl 59 (.int .i64 r1)] hF hS (by kernel_rfl) (by kernel_rfl) ?_ (fun a w hF hS => ?_)
                · exact obs_nil
                refine at_do (d := 60) (s := vS (Instr.buildSlice 22 1 #[(0, .int .i64 r1)])) (v := .slice (some ⟨w.heap.size, 0, none⟩) 1 1) (w' := w.alloc (.cells #[.int .i64 r1] 3)) hF (by kernel_rfl) (by kernel_rfl) (by kernel_rfl) (fun a hF => ?_)
                have hS : Sep w0 B (w.alloc (.cells #[.int .i64 r1] 3)) (own 3 (.slice (some (⟨w.heap.size, 0, none⟩ : Addr)) 1 1) (vI ([r1] : List Int)) :: (own 3 (.slice A2 (Int.toNat 13) c2) (vI many2) :: own 3 (.slice A5 signs3.length c5) (vI signs3) :: fs)) := hS.lit 3 #[.int .i64 r1] 1 rfl (by omega)
                generalize (some (⟨w.heap.size, 0, none⟩ : Addr)) = g1 at hF hS
                generalize w.alloc (.cells #[.int .i64 r1] 3) = w at hS ⊢
                obtain ⟨A7, c7, w, hrun, hS⟩ := run_app1 (P := Try.prog) (t := 22) (m := signs3) (ys := ([r1] : List Int)) (A2 := g1) (m2 := 1) (c2 := 1) (Value.int .i64) (0 : Int) (hS.at_ 2 rfl) (hS.at_ 0 rfl).rd ((hS.at_ 0 rfl).len1) 22 Und22 hi3 hz3 hs3 (by omega) rfl (fun _ => rfl) hp8
                have hS : Sep w0 B w (own 3 (.slice g1 1 1) (vI ([r1] : List Int)) :: own 3 (.slice A2 (Int.toNat 13) c2) (vI many2) :: own 3 (.slice A7 ((signs3 ++ ([r1] : List Int)).length) c7) (vI (signs3 ++ ([r1] : List Int))) :: fs) := hS
                refine at_do (d := 61) hF (by kernel_rfl) (by kernel_rfl) hrun (fun a hF => ?_)
                refine at_run 1 [] [] [3, 4, 6, 7, 8] [pl 3 (.slice A2 (Int.toNat 13) c2), pl 4 (.bool flush2), pl 6 (.slice A7 ((signs3 ++ ([r1] : List Int)).length) c7), pl 7 (.int .i64 times1), pl 8 (.int .i64 r1)] hF hS (by kernel_rfl) (by kernel_rfl) ?_ (fun a w hF hS => ?_)
                · exact obs_nil
                refine at_end [3, 4, 6, 7, 8] [pl 3 (.slice A2 (Int.toNat 13) c2), pl 4 (.bool flush2), pl 6 (.slice A7 ((signs3 ++ ([r1] : List Int)).length) c7), pl 7 (.int .i64 times1), pl 8 (.int .i64 r1)] hF rfl (by kernel_rfl) (fun hF => ?_)
                refine block_n ?_
                refine then_n ?_
                have hS := hS.pickN 3 [1, 2] (by decide)
                exact ⟨(signs3 ++ ([r1] : List Int)), A7, c7, hF.weak [3, 4, 6, 7, 8] (by kernel_rfl), hS, hm⟩
              · replace hm := if_f hm hb
                refine wpIn_skip ?_
                refine block_n ?_
                refine then_n ?_
                exact ⟨signs3, A5, c5, hF.weak [3, 4, 6, 7, 8] (by kernel_rfl), hS, hm⟩
          · refine reg [] [] [3, 4, 6, 7, 8, 49] [pl 3 (.slice A2 (Int.toNat 13) c2), pl 4 (.bool flush2), pl 6 (.slice A5 signs3.length c5), pl 7 (.int .i64 times1), pl 8 (.int .i64 r1), pl 49 (.bool (decide ((0 : Int) ≤ r1)))] hF hS Fol (by kernel_rfl) (by kernel_rfl) (by kernel_rfl) ?_ (fun a w hF hS => ?_)
            · exact obs_nil
            refine cond_ev (t := 49) (b := decide ((0 : Int) ≤ r1)) hF (by kernel_rfl) (fun hb => ?_) (fun hb => ?_)
            · replace hm := if_t hm hb
              refine wpIn_skip ?_
              refine then_n ?_
              exact ⟨hF.weak [3, 4, 6, 7, 8] (by kernel_rfl), hS, hm⟩
            · replace hm := if_f hm hb
              refine wpIn_exit ?_
              refine then_e (then_e (block_e (block_n (then_n ?_))))
              rw [← hφ3] at hm
              replace hm := done_b hm
              unfold gameroomref_HandValue_K3 at hm
              try dsimp only at hm
              have hm : ((gameroomref_HandValue_J6 times1) signs3).bind φ2 = some r := hm
              exact ⟨signs3, A5, c5, hF.weak [3, 4, 6, 7] (by kernel_rfl), hS, hm⟩
      · refine reg [] [] [3, 4, 6, 7, 45] [pl 3 (.slice A2 (Int.toNat 13) c2), pl 4 (.bool flush2), pl 6 (.slice A3 signs1.length c3), pl 7 (.int .i64 times1), pl 45 (.bool (decide ((0 : Int) < times1)))] hF hS Fol (by kernel_rfl) (by kernel_rfl) (by kernel_rfl) ?_ (fun a w hF hS => ?_)
        · exact obs_nil
        refine cond_ev (t := 45) (b := decide ((0 : Int) < times1)) hF (by kernel_rfl) (fun hb => ?_) (fun hb => ?_)
        · replace hm := if_t hm hb
          refine wpIn_skip ?_
          refine then_n ?_
          exact ⟨hF.weak [3, 4, 6, 7] (by kernel_rfl), hS, hm⟩
        · replace hm := if_f hm hb
          refine wpIn_exit ?_
          refine then_e (then_e (block_e (then_n ?_)))
          rw [← hφ2] at hm
          replace hm := done_b hm
          unfold gameroomref_HandValue_K2 at hm
          try dsimp only at hm
          have hm : ((gameroomref_HandValue_J4 many2 flush2) signs1).bind some = some r := hm
          exact ⟨signs1, A3, c3, hF.weak [3, 4, 6] (by kernel_rfl), hS, hm⟩
  · refine reg [] [] [0, 3, 4, 5] [pl 0 (.slice A1 l1.length c1), pl 3 (.slice A2 (Int.toNat 13) c2), pl 4 (.bool true), pl 5 (.int .i64 0)] hF hS Fol (by kernel_rfl) (by kernel_rfl) (by kernel_rfl) ?_ (fun a w hF hS => ?_)
    · exact obs_nil
    refine wpIn_block ?_
    refine wp_loop_model (S := (List Int × Bool × Int)) (R := (List Int × Bool)) (gameroomref_HandValue_L1 l1) (fun x => (gameroomref_HandValue_K1 x).bind some) r (fun (x : (List Int × Bool × Int)) a w => Fr 168 [pl 0 (.slice A1 l1.length c1), pl 3 (.slice A2 (Int.toNat 13) c2), pl 4 (.bool x.2.1), pl 5 (.int .i64 x.2.2)] a ∧ Sep w0 B w (own 3 (.slice A2 (Int.toNat 13) c2) (vI x.1) :: fs)) (assoc_b hm) ⟨hF.weak [0, 3, 4, 5] (by kernel_rfl), hS⟩ ?_
    clear hF hS hm
    rintro nn1 ⟨many1, flush1, i1⟩ a w ⟨hF, hS⟩ hm
    generalize hφ1 : stK (gameroomref_HandValue_L1 l1) nn1 (fun x => (gameroomref_HandValue_K1 x).bind some) = φ1 at hm
    unfold gameroomref_HandValue_L1 at hm
    dsimp only at hF hS hm
    refine seq_cut (fun a w => Fr 168 [pl 0 (.slice A1 l1.length c1), pl 3 (.slice A2 (Int.toNat 13) c2), pl 4 (.bool flush1), pl 5 (.int .i64 i1)] a ∧ Sep w0 B w (own 3 (.slice A2 (Int.toNat 13) c2) (vI many1) :: fs) ∧ ((gameroomref_HandValue_J2 l1 many1 flush1 i1)).bind φ1 = some r) ?_ ?_
    · rintro a w ⟨hF, hS, hm⟩
      unfold gameroomref_HandValue_J2 at hm
      refine seq_cut (fun a w => Fr 168 [pl 0 (.slice A1 l1.length c1), pl 3 (.slice A2 (Int.toNat 13) c2), pl 4 (.bool (flush1 && ((Int.tmod (geti l1 i1) 4) == (Int.tmod (geti l1 0) 4)))), pl 5 (.int .i64 i1)] a ∧ Sep w0 B w (own 3 (.slice A2 (Int.toNat 13) c2) (vI (many1.set (Int.toNat (w64 (Int.tdiv (geti l1 i1) 4))) (w64 ((geti many1 (w64 (Int.tdiv (geti l1 i1) 4))) + 1)))) :: fs) ∧ ((gameroomref_HandValue_J3 l1 many1 flush1 i1)).bind φ1 = some r) ?_ ?_
      · rintro a w ⟨hF, hS, hm⟩
        unfold gameroomref_HandValue_J3 at hm
        refine reg1 [] [] [0, 3, 4, 5] [pl 0 (.slice A1 l1.length c1), pl 3 (.slice A2 (Int.toNat 13) c2), pl 4 (.bool (flush1 && ((Int.tmod (geti l1 i1) 4) == (Int.tmod (geti l1 0) 4)))), pl 5 (.int .i64 (w64 (i1 + 1)))] hF hS Fol (by kernel_rfl) (by kernel_rfl) (by kernel_rfl) ?_ (fun a w hF hS => ?_)
        · exact obs_nil
        refine then_n ?_
        rw [← hφ1] at hm
        exact ⟨((many1.set (Int.toNat (w64 (Int.tdiv (geti l1 i1) 4))) (w64 ((geti many1 (w64 (Int.tdiv (geti l1 i1) 4))) + 1))), (flush1 && ((Int.tmod (geti l1 i1) 4) == (Int.tmod (geti l1 0) 4))), (w64 (i1 + 1))), ⟨hF.weak [0, 3, 4, 5] (by kernel_rfl), hS⟩, hm⟩
      · refine wpIn_block ?_
        refine seqR ?_
        obtain ⟨hp2, hm⟩ := asrt_b hm
        obtain ⟨hp3, hm⟩ := asrt_b hm
        obtain ⟨hp4, hm⟩ := asrt_b hm
        refine at_run 10 [⟨true, [], vS (Instr.indexAt 22 (.slice A1 l1.length c1) (.int .i64 i1)), .pointer (some (sAddr A1 i1))⟩, ⟨false, [], vS (Instr.loadAt 3 (.pointer (some (sAddr A1 i1)))), .int .i64 (geti l1 i1)⟩, ⟨true, [], vS (Instr.indexAt 22 (.slice A2 (Int.toNat 13) c2) (.int .i64 (w64 (Int.tdiv (geti l1 i1) 4)))), .pointer (some (sAddr A2 (w64 (Int.tdiv (geti l1 i1) 4))))⟩, ⟨false, [], vS (Instr.loadAt 3 (.pointer (some (sAddr A2 (w64 (Int.tdiv (geti l1 i1) 4)))))), .int .i64 (geti many1 (w64 (Int.tdiv (geti l1 i1) 4)))⟩, ⟨true, [], vS (Instr.indexAt 22 (.slice A2 (Int.toNat 13) c2) (.int .i64 (w64 (Int.tdiv (geti l1 i1) 4)))), .pointer (some (sAddr A2 (w64 (Int.tdiv (geti l1 i1) 4))))⟩] [none, none, none, some (.pointer (some (sAddr A1 i1))), some (.int .i64 (geti l1 i1)), none, some (.pointer (some (sAddr A2 (w64 (Int.tdiv (geti l1 i1) 4))))), some (.int .i64 (geti many1 (w64 (Int.tdiv (geti l1 i1) 4)))), none, some (.pointer (some (sAddr A2 (w64 (Int.tdiv (geti l1 i1) 4)))))] [0, 3, 4, 5, 29, 30] [pl 0 (.slice A1 l1.length c1), pl 3 (.slice A2 (Int.toNat 13) c2), pl 4 (.bool flush1), pl 5 (.int .i64 i1), pl 29 (.int .i64 (w64 ((geti many1 (w64 (Int.tdiv (geti l1 i1) 4))) + 1))), pl 30 (.pointer (some (sAddr A2 (w64 (Int.tdiv (geti l1 i1) 4)))))] hF hS (by kernel_rfl) (by kernel_rfl) ?_ (fun a w hF hS => ?_)
        · exact obs_cons (ob_ix1 (f := (Value.int .i64)) (m := l1) Und22 hi3 hs3 (hr_l1 _ (hS.dropN 1)) rfl (fun _ => hp2)) <| obs_cons (ob_get1 (n := l1.length) (m := l1) (Value.int .i64) (0 : Int) Agg3 (fun _ hS => ⟨_, (hr_l1 _ (hS.dropN 1))⟩) (fun _ hS => rfl) (fun _ => hp2)) <| obs_cons (ob_ix1 (f := (Value.int .i64)) (m := many1) Und22 hi3 hs3 (hS.at_ 0 rfl).rd ((hS.at_ 0 rfl).len1) (fun _ => hp3)) <| obs_cons (ob_get1 (n := (Int.toNat 13)) (m := many1) (Value.int .i64) (0 : Int) Agg3 (fun _ hS => ⟨_, (hS.at_ 0 rfl).rd⟩) (fun _ hS => ((hS.at_ 0 rfl).len1)) (fun _ => hp3)) <| obs_cons (ob_ix1 (f := (Value.int .i64)) (m := many1) Und22 hi3 hs3 (hS.at_ 0 rfl).rd ((hS.at_ 0 rfl).len1) (fun _ => hp4)) <| obs_nil
        obtain ⟨w, hrun, hS⟩ := run_set1 (P := Try.prog) (t := 3) (x := (w64 ((geti many1 (w64 (Int.tdiv (geti l1 i1) 4))) + 1))) (Value.int .i64) (hS.at_ 0 rfl) hi3 hs3 rfl rfl hp4
        refine at_skip hF (by kernel_rfl) hrun ?_
        have hS : Sep w0 B w (own 3 (.slice A2 (Int.toNat 13) c2) (vI (many1.set (Int.toNat (w64 (Int.tdiv (geti l1 i1) 4))) (w64 ((geti many1 (w64 (Int.tdiv (geti l1 i1) 4))) + 1)))) :: fs) := hS
        refine at_end [0, 3, 4, 5] [pl 0 (.slice A1 l1.length c1), pl 3 (.slice A2 (Int.toNat 13) c2), pl 4 (.bool flush1), pl 5 (.int .i64 i1)] hF rfl (by kernel_rfl) (fun hF => ?_)
        refine then_n ?_
        obtain ⟨hp5, hm⟩ := asrt_b hm
        obtain ⟨hp6, hm⟩ := asrt_b hm
        refine reg1 [⟨true, [(flush1, true)], vS (Instr.indexAt 22 (.slice A1 l1.length c1) (.int .i64 i1)), .pointer (some (sAddr A1 i1))⟩, ⟨false, [(flush1, true)], vS (Instr.loadAt 3 (.pointer (some (sAddr A1 i1)))), .int .i64 (geti l1 i1)⟩, ⟨true, [(flush1, true)], vS (Instr.indexAt 22 (.slice A1 l1.length c1) (.int .i64 0)), .pointer (some (sAddr A1 0))⟩, ⟨false, [(flush1, true)], vS (Instr.loadAt 3 (.pointer (some (sAddr A1 0)))), .int .i64 (geti l1 0)⟩] [none, none, none, none, some (.pointer (some (sAddr A1 i1))), some (.int .i64 (geti l1 i1)), none, none, some (.pointer (some (sAddr A1 0))), some (.int .i64 (geti l1 0)), none, none, none, none] [0, 3, 4, 5] [pl 0 (.slice A1 l1.length c1), pl 3 (.slice A2 (Int.toNat 13) c2), pl 4 (.bool (flush1 && ((Int.tmod (geti l1 i1) 4) == (Int.tmod (geti l1 0) 4)))), pl 5 (.int .i64 i1)] hF hS Fol (by kernel_rfl) (by kernel_rfl) (by kernel_rfl) ?_ (fun a w hF hS => ?_)
        · exact obs_cons (ob_ix1 (f := (Value.int .i64)) (m := l1) Und22 hi3 hs3 (hr_l1 _ (hS.dropN 1)) rfl (fun hy => hp5 (hy (flush1, true) (by simp)))) <| obs_cons (ob_get1 (n := l1.length) (m := l1) (Value.int .i64) (0 : Int) Agg3 (fun _ hS => ⟨_, (hr_l1 _ (hS.dropN 1))⟩) (fun _ hS => rfl) (fun hy => hp5 (hy (flush1, true) (by simp)))) <| obs_cons (ob_ix1 (f := (Value.int .i64)) (m := l1) Und22 hi3 hs3 (hr_l1 _ (hS.dropN 1)) rfl (fun hy => hp6 (hy (flush1, true) (by simp)))) <| obs_cons (ob_get1 (n := l1.length) (m := l1) (Value.int .i64) (0 : Int) Agg3 (fun _ hS => ⟨_, (hr_l1 _ (hS.dropN 1))⟩) (fun _ hS => rfl) (fun hy => hp6 (hy (flush1, true) (by simp)))) <| obs_nil
        refine block_n ?_
        refine then_n ?_
        exact ⟨hF.weak [0, 3, 4, 5] (by kernel_rfl), hS, hm⟩
    · refine reg [] [] [0, 3, 4, 5, 18] [pl 0 (.slice A1 l1.length c1), pl 3 (.slice A2 (Int.toNat 13) c2), pl 4 (.bool flush1), pl 5 (.int .i64 i1), pl 18 (.bool (decide (i1 < 5)))] hF hS Fol (by kernel_rfl) (by kernel_rfl) (by kernel_rfl) ?_ (fun a w hF hS => ?_)
      · exact obs_nil
      refine cond_ev (t := 18) (b := decide (i1 < 5)) hF (by kernel_rfl) (fun hb => ?_) (fun hb => ?_)
      · replace hm := if_t hm hb
        refine wpIn_skip ?_
        refine then_n ?_
        exact ⟨hF.weak [0, 3, 4, 5] (by kernel_rfl), hS, hm⟩
      · replace hm := if_f hm hb
        refine wpIn_exit ?_
        refine then_e (then_e (block_e (then_n ?_)))
        rw [← hφ1] at hm
        replace hm := done_b hm
        unfold gameroomref_HandValue_K1 at hm
        try dsimp only at hm
        have hm : (gameroomref_HandValue_J1 many1 flush1).bind some = some r := hm
        exact ⟨many1, flush1, hF.weak [3, 4] (by kernel_rfl), hS, hm⟩

noncomputable def gameroomref_countRanks_2_J6  (r1 : Int) (out5 : List Int) : Option (St (List Int × Int) (List Int)) :=
  some (.next (out5, (w64 (r1 - 1))))

noncomputable def gameroomref_countRanks_2_J5  (rec_gameroomref_countRanks_2 : List Int → Int → List Int → Option (List Int)) (ranks1 : List Int) (at1 : Int) (out3 : List Int) (r1 : Int) : Option (St (List Int × Int) (List Int)) :=
  asrt ((0 : Int) + (ranks1.length : Int) ≤ bigN) <| asrt (((([] ++ ranks1).length : Nat) : Int) + 1 ≤ bigN) <| (rec_gameroomref_countRanks_2 (([] ++ ranks1) ++ ([r1] : List Int)) at1 out3).bind fun r2 => (gameroomref_countRanks_2_J6 r1) r2

noncomputable def gameroomref_countRanks_2_J4  (out4 : List Int) : Option (List Int) :=
  some out4

noncomputable def gameroomref_countRanks_2_K1  : (List Int) → Option (List Int) :=
  fun (x : (List Int)) => match x with | out4 => gameroomref_countRanks_2_J4 out4

noncomputable def gameroomref_countRanks_2_L1  (rec_gameroomref_countRanks_2 : List Int → Int → List Int → Option (List Int)) (ranks1 : List Int) (at1 : Int) : (List Int × Int) → Option (St (List Int × Int) (List Int)) :=
  fun (x : (List Int × Int)) => match x with | (out3, r1) => if (decide ((0 : Int) ≤ r1)) then ((gameroomref_countRanks_2_J5 rec_gameroomref_countRanks_2 ranks1 at1 out3 r1)) else (some (.done out3))

noncomputable def gameroomref_countRanks_2_J3  (rec_gameroomref_countRanks_2 : List Int → Int → List Int → Option (List Int)) (ranks1 : List Int) (at1 : Int) (out1 : List Int) (high1 : Int) : Option (List Int) :=
  (loop (gameroomref_countRanks_2_L1 rec_gameroomref_countRanks_2 ranks1 at1) (out1, high1)).bind gameroomref_countRanks_2_K1

noncomputable def gameroomref_countRanks_2_J9  (ranks1 : List Int) (many1 : List Int) (i1 : Int) : Option (St (List Int × Int) (List Int)) :=
  some (.next ((many1.set (Int.toNat (geti ranks1 i1)) (w64 ((geti many1 (geti ranks1 i1)) + 1))), (w64 (i1 + 1))))

noncomputable def gameroomref_countRanks_2_J8  (ranks1 : List Int) (many1 : List Int) (i1 : Int) : Option (St (List Int × Int) (List Int)) :=
  asrt (0 ≤ i1 ∧ i1 < (ranks1.length : Int)) <| asrt (0 ≤ (geti ranks1 i1) ∧ (geti ranks1 i1) < (((Int.toNat 13) : Nat) : Int)) <| asrt (0 ≤ (geti ranks1 i1) ∧ (geti ranks1 i1) < (((Int.toNat 13) : Nat) : Int)) <| (gameroomref_countRanks_2_J9 ranks1 many1 i1)

noncomputable def gameroomref_countRanks_2_J12  (many2 : List Int) (ways1 : Int) (r3 : Int) (unlike3 : Int) : Option (St (Int × Int × Int) (Fl (Int × Int) (List Int))) :=
  some (.next ((w64 (ways1 * (geti ([1, 4, 6, 4, 1] : List Int) (geti many2 r3)))), unlike3, (w64 (r3 + 1))))

noncomputable def gameroomref_countRanks_2_J13  (many2 : List Int) (ways1 : Int) (unlike1 : Int) (r3 : Int) : Option (St (Int × Int × Int) (Fl (Int × Int) (List Int))) :=
  asrt (0 ≤ r3 ∧ r3 < (((Int.toNat 13) : Nat) : Int)) <| asrt (0 ≤ (geti many2 r3) ∧ (geti many2 r3) < 5) <| asrt (0 ≤ r3 ∧ r3 < (((Int.toNat 13) : Nat) : Int)) <| if (decide ((0 : Int) < (geti many2 r3))) then ((gameroomref_countRanks_2_J12 many2 ways1 r3) (w64 (unlike1 + 1))) else ((gameroomref_countRanks_2_J12 many2 ways1 r3) unlike1)

noncomputable def gameroomref_countRanks_2_J11  (out1 : List Int) (many2 : List Int) (ways1 : Int) (unlike1 : Int) (r3 : Int) : Option (St (Int × Int × Int) (Fl (Int × Int) (List Int))) :=
  asrt (0 ≤ r3 ∧ r3 < (((Int.toNat 13) : Nat) : Int)) <| if (decide ((4 : Int) < (geti many2 r3))) then (some (.done (.ret out1))) else ((gameroomref_countRanks_2_J13 many2 ways1 unlike1 r3))

noncomputable def gameroomref_countRanks_2_L3  (out1 : List Int) (many2 : List Int) : (Int × Int × Int) → Option (St (Int × Int × Int) (Fl (Int × Int) (List Int))) :=
  fun (x : (Int × Int × Int)) => match x with | (ways1, unlike1, r3) => if (decide (r3 < 13)) then ((gameroomref_countRanks_2_J11 out1 many2 ways1 unlike1 r3)) else (some (.done (.go (ways1, unlike1))))

noncomputable def gameroomref_countRanks_2_J16  (i2 : Int) (mixed3 : List Int) (one3 : List Int) : Option (St (List Int × List Int × Int) (List Int × List Int)) :=
  some (.next (mixed3, one3, (w64 (i2 + 1))))

noncomputable def gameroomref_countRanks_2_J15  (ranks1 : List Int) (mixed1 : List Int) (one1 : List Int) (i2 : Int) : Option (St (List Int × List Int × Int) (List Int × List Int)) :=
  asrt (0 ≤ i2 ∧ i2 < (ranks1.length : Int)) <| asrt ((mixed1.length : Int) + 1 ≤ bigN) <| asrt (0 ≤ i2 ∧ i2 < (ranks1.length : Int)) <| asrt ((one1.length : Int) + 1 ≤ bigN) <| (gameroomref_countRanks_2_J16 i2) (mixed1 ++ ([w64 ((w64 (4 * (geti ranks1 i2))) + (Int.tmod i2 4))] : List Int)) (one1 ++ ([w64 (4 * (geti ranks1 i2))] : List Int))

noncomputable def gameroomref_countRanks_2_L4  (ranks1 : List Int) : (List Int × List Int × Int) → Option (St (List Int × List Int × Int) (List Int × List Int)) :=
  fun (x : (List Int × List Int × Int)) => match x with | (mixed1, one1, i2) => if (decide (i2 < 5)) then ((gameroomref_countRanks_2_J15 ranks1 mixed1 one1 i2)) else (some (.done (mixed1, one1)))

noncomputable def gameroomref_countRanks_2_J1  (out6 : List Int) : Option (List Int) :=
  some out6

noncomputable def gameroomref_countRanks_2_J14  (out1 : List Int) (ways2 : Int) (unlike2 : Int) (mixed2 : List Int) (one2 : List Int) : Option (List Int) :=
  if (unlike2 == 5) then ((gameroomref_HandValue_m mixed2).bind fun r4 => asrt (0 ≤ (w64 (Int.tdiv r4 371293)) ∧ (w64 (Int.tdiv r4 371293)) < (out1.length : Int)) <| asrt (0 ≤ (w64 (Int.tdiv r4 371293)) ∧ (w64 (Int.tdiv r4 371293)) < (out1.length : Int)) <| (gameroomref_HandValue_m one2).bind fun r5 => asrt (0 ≤ (w64 (Int.tdiv r5 371293)) ∧ (w64 (Int.tdiv r5 371293)) < (out1.length : Int)) <| asrt (0 ≤ (w64 (Int.tdiv r5 371293)) ∧ (w64 (Int.tdiv r5 371293)) < (out1.length : Int)) <| gameroomref_countRanks_2_J1 ((out1.set (Int.toNat (w64 (Int.tdiv r4 371293))) (w64 ((geti out1 (w64 (Int.tdiv r4 371293))) + (w64 (ways2 - 4))))).set (Int.toNat (w64 (Int.tdiv r5 371293))) (w64 ((geti (out1.set (Int.toNat (w64 (Int.tdiv r4 371293))) (w64 ((geti out1 (w64 (Int.tdiv r4 371293))) + (w64 (ways2 - 4))))) (w64 (Int.tdiv r5 371293))) + 4)))) else ((gameroomref_HandValue_m mixed2).bind fun r6 => asrt (0 ≤ (w64 (Int.tdiv r6 371293)) ∧ (w64 (Int.tdiv r6 371293)) < (out1.length : Int)) <| asrt (0 ≤ (w64 (Int.tdiv r6 371293)) ∧ (w64 (Int.tdiv r6 371293)) < (out1.length : Int)) <| gameroomref_countRanks_2_J1 (out1.set (Int.toNat (w64 (Int.tdiv r6 371293))) (w64 ((geti out1 (w64 (Int.tdiv r6 371293))) + ways2))))

noncomputable def gameroomref_countRanks_2_K4  (out1 : List Int) (ways2 : Int) (unlike2 : Int) : (List Int × List Int) → Option (List Int) :=
  fun (x : (List Int × List Int)) => match x with | (mixed2, one2) => (gameroomref_countRanks_2_J14 out1 ways2 unlike2) mixed2 one2

noncomputable def gameroomref_countRanks_2_J10  (ranks1 : List Int) (out1 : List Int) (ways2 : Int) (unlike2 : Int) : Option (List Int) :=
  (loop (gameroomref_countRanks_2_L4 ranks1) (([] : List Int), ([] : List Int), 0)).bind (gameroomref_countRanks_2_K4 out1 ways2 unlike2)

noncomputable def gameroomref_countRanks_2_K3  (ranks1 : List Int) (out1 : List Int) : (Fl (Int × Int) (List Int)) → Option (List Int) :=
  fun (x : (Fl (Int × Int) (List Int))) => match x with | .go (ways2, unlike2) => (gameroomref_countRanks_2_J10 ranks1 out1) ways2 unlike2 | .ret x => some x

noncomputable def gameroomref_countRanks_2_J7  (ranks1 : List Int) (out1 : List Int) (many2 : List Int) : Option (List Int) :=
  (loop (gameroomref_countRanks_2_L3 out1 many2) (1, 0, 0)).bind (gameroomref_countRanks_2_K3 ranks1 out1)

noncomputable def gameroomref_countRanks_2_K2  (ranks1 : List Int) (out1 : List Int) : (List Int) → Option (List Int) :=
  fun (x : (List Int)) => match x with | many2 => (gameroomref_countRanks_2_J7 ranks1 out1) many2

noncomputable def gameroomref_countRanks_2_L2  (ranks1 : List Int) : (List Int × Int) → Option (St (List Int × Int) (List Int)) :=
  fun (x : (List Int × Int)) => match x with | (many1, i1) => if (decide (i1 < 5)) then ((gameroomref_countRanks_2_J8 ranks1 many1 i1)) else (some (.done many1))

noncomputable def gameroomref_countRanks_2_J2  (ranks1 : List Int) (out1 : List Int) : Option (List Int) :=
  asrt ((0 : Int) ≤ 13 ∧ 13 ≤ bigN) <| (loop (gameroomref_countRanks_2_L2 ranks1) ((List.replicate (Int.toNat 13) (0 : Int)), 0)).bind (gameroomref_countRanks_2_K2 ranks1 out1)

noncomputable def gameroomref_countRanks_2_B (rec_gameroomref_countRanks_2 : List Int → Int → List Int → Option (List Int)) (ranks1 : List Int) (at1 : Int) (out1 : List Int) : Option (List Int) :=
  if (decide ((ranks1.length : Int) < 5)) then (if (decide ((0 : Int) < (ranks1.length : Int))) then (asrt (0 ≤ (w64 ((ranks1.length : Int) - 1)) ∧ (w64 ((ranks1.length : Int) - 1)) < (ranks1.length : Int)) <| (gameroomref_countRanks_2_J3 rec_gameroomref_countRanks_2 ranks1 at1 out1) (geti ranks1 (w64 ((ranks1.length : Int) - 1)))) else ((gameroomref_countRanks_2_J3 rec_gameroomref_countRanks_2 ranks1 at1 out1) 12)) else ((gameroomref_countRanks_2_J2 ranks1 out1))

noncomputable def gameroomref_countRanks_2_mF : Nat → List Int → Int → List Int → Option (List Int)
  | 0 => fun _ _ _ => none
  | n + 1 => fun ranks1 at1 out1 => gameroomref_countRanks_2_B (gameroomref_countRanks_2_mF n) ranks1 at1 out1

noncomputable def gameroomref_countRanks_2_m (ranks1 : List Int) (at1 : Int) (out1 : List Int) : Option (List Int) :=
  recM fun n => gameroomref_countRanks_2_mF n ranks1 at1 out1

set_option maxRecDepth 100000 in
set_option maxHeartbeats 4000000 in
theorem gameroomref_countRanks_2_wB {rec_gameroomref_countRanks_2 : List Int → Int → List Int → Option (List Int)} (ih_gameroomref_countRanks_2 : ∀ {A1 : Option Addr} {c1 : Nat} {n1 : Nat} {ranks1 : List Int} {at1 : Int} {A2 : Option Addr} {c2 : Nat} {n2 : Nat} {out1 : List Int} {r : (List Int)} {w0 w : World} {B : Nat} {fs : List HP} (_ : rec_gameroomref_countRanks_2 ranks1 at1 out1 = some r) (_ : Sep w0 B w (own 3 (.slice A2 n2 c2) (vI out1) :: fs)) (_hr_ranks1 : RdF w0 B fs A1 (vI ranks1)) (_hc_ranks1 : ranks1.length ≤ c1) (_hn_ranks1 : n1 = ranks1.length), Calls Try.prog 56 #[.slice A1 n1 c1, .int .i64 at1, .slice A2 n2 c2] w fun e w' => ∃ v, e = .returned v ∧ v = .tuple #[] ∧ Sep w0 B w' (own 3 (.slice A2 n2 c2) (vI r) :: fs)) {A1 : Option Addr} {c1 : Nat} {n1 : Nat} {ranks1 : List Int} {at1 : Int} {A2 : Option Addr} {c2 : Nat} {n2 : Nat} {out1 : List Int} {r : (List Int)} {w0 w : World} {B : Nat} {fs : List HP} (hm : gameroomref_countRanks_2_B rec_gameroomref_countRanks_2 ranks1 at1 out1 = some r) (hS : Sep w0 B w (own 3 (.slice A2 n2 c2) (vI out1) :: fs)) (hr_ranks1 : RdF w0 B fs A1 (vI ranks1)) (_hc_ranks1 : ranks1.length ≤ c1) (_hn_ranks1 : n1 = ranks1.length) :
    Calls Try.prog 56 #[.slice A1 n1 c1, .int .i64 at1, .slice A2 n2 c2] w fun e w' => ∃ v, e = .returned v ∧ v = .tuple #[] ∧ Sep w0 B w' (own 3 (.slice A2 n2 c2) (vI r) :: fs) := by
  obtain ⟨i3, hi3, hz3, hs3, hb3⟩ := info_parts Info3
  obtain rfl := (hS.at_ 0 rfl).len1
  obtain rfl := _hn_ranks1
  unfold gameroomref_countRanks_2_B at hm
  replace hm := start_b hm
  refine enter (l := [.slice A1 ranks1.length c1, .int .i64 at1, .slice A2 out1.length c2]) (n := 132) Try.func56 rfl rfl (by simp) (fun a hF => ?_)
  refine end_cut (fun a w => ∃ (out6 : List Int), Fr 132 [] a ∧ Sep w0 B w (own 3 (.slice A2 out1.length c2) (vI out6) :: fs) ∧ (gameroomref_countRanks_2_J1 out6).bind some = some r) ?_ ?_
  · rintro a w ⟨out6, hF, hS, hm⟩
    unfold gameroomref_countRanks_2_J1 at hm
    have hm : some out6 = some r := hm
    obtain rfl := Option.some.inj hm
    exact endV (rs := []) (vs := []) hF rfl (rv_nil) rfl ⟨_, rfl, rfl, hS⟩ rfl
  · refine seq_cut (fun a w => Fr 132 [pl 0 (.slice A1 ranks1.length c1), pl 2 (.slice A2 out1.length c2)] a ∧ Sep w0 B w (own 3 (.slice A2 out1.length c2) (vI out1) :: fs) ∧ ((gameroomref_countRanks_2_J2 ranks1 out1)).bind some = some r) ?_ ?_
    · rintro a w ⟨hF, hS, hm⟩
      unfold gameroomref_countRanks_2_J2 at hm
      refine seqR ?_
      obtain ⟨hp4, hm⟩ := asrt_b hm
      obtain ⟨A5, c5, w, hrun, hS⟩ := run_mk1 (P := Try.prog) (t := 22) (Value.int .i64) (0 : Int) hS .i64 .i64 Und22 hi3 hz3 hs3 (by omega) rfl hp4
      have hS : Sep w0 B w (own 3 (.slice A5 (Int.toNat 13) c5) (vI (List.replicate (Int.toNat 13) (0 : Int))) :: own 3 (.slice A2 out1.length c2) (vI out1) :: fs) := hS
      refine at_do (d := 41) hF (by kernel_rfl) (by kernel_rfl) hrun (fun a hF => ?_)
      refine at_run 1 [] [] [0, 2, 8] [pl 0 (.slice A1 ranks1.length c1), pl 2 (.slice A2 out1.length c2), pl 8 (.slice A5 (Int.toNat 13) c5)] hF hS (by kernel_rfl) (by kernel_rfl) ?_ (fun a w hF hS => ?_)
      · exact obs_nil
      refine at_end [0, 2, 8] [pl 0 (.slice A1 ranks1.length c1), pl 2 (.slice A2 out1.length c2), pl 8 (.slice A5 (Int.toNat 13) c5)] hF rfl (by kernel_rfl) (fun hF => ?_)
      refine then_n ?_
      refine seq_cut (fun a w => ∃ (many2 : List Int), Fr 132 [pl 0 (.slice A1 ranks1.length c1), pl 2 (.slice A2 out1.length c2), pl 8 (.slice A5 (Int.toNat 13) c5)] a ∧ Sep w0 B w (own 3 (.slice A2 out1.length c2) (vI out1) :: own 3 (.slice A5 (Int.toNat 13) c5) (vI many2) :: fs) ∧ ((gameroomref_countRanks_2_J7 ranks1 out1) many2).bind some = some r) ?_ ?_
      · rintro a w ⟨many2, hF, hS, hm⟩
        unfold gameroomref_countRanks_2_J7 at hm
        refine reg [] [] [0, 2, 8, 10] [pl 0 (.slice A1 ranks1.length c1), pl 2 (.slice A2 out1.length c2), pl 8 (.slice A5 (Int.toNat 13) c5), pl 10 (.int .i64 1)] hF hS Fol (by kernel_rfl) (by kernel_rfl) (by kernel_rfl) ?_ (fun a w hF hS => ?_)
        · exact obs_nil
        refine reg [] [] [0, 2, 8, 10, 11] [pl 0 (.slice A1 ranks1.length c1), pl 2 (.slice A2 out1.length c2), pl 8 (.slice A5 (Int.toNat 13) c5), pl 10 (.int .i64 1), pl 11 (.int .i64 0)] hF hS Fol (by kernel_rfl) (by kernel_rfl) (by kernel_rfl) ?_ (fun a w hF hS => ?_)
        · exact obs_nil
        refine seq_cut (fun a w => ∃ (ways2 : Int) (unlike2 : Int), Fr 132 [pl 0 (.slice A1 ranks1.length c1), pl 2 (.slice A2 out1.length c2), pl 10 (.int .i64 ways2), pl 11 (.int .i64 unlike2)] a ∧ Sep w0 B w (own 3 (.slice A2 out1.length c2) (vI out1) :: fs) ∧ ((gameroomref_countRanks_2_J10 ranks1 out1) ways2 unlike2).bind some = some r) ?_ ?_
        · rintro a w ⟨ways2, unlike2, hF, hS, hm⟩
          unfold gameroomref_countRanks_2_J10 at hm
          refine reg [] [] [0, 2, 10, 11, 13, 14] [pl 0 (.slice A1 ranks1.length c1), pl 2 (.slice A2 out1.length c2), pl 10 (.int .i64 ways2), pl 11 (.int .i64 unlike2), pl 13 (.slice none 0 0), pl 14 (.slice none 0 0)] hF hS Fol (by kernel_rfl) (by kernel_rfl) (by kernel_rfl) ?_ (fun a w hF hS => ?_)
          · exact obs_nil
          refine seq_cut (fun a w => ∃ (mixed2 : List Int) (one2 : List Int) (A8 : Option Addr) (c8 : Nat) (A9 : Option Addr) (c9 : Nat), Fr 132 [pl 2 (.slice A2 out1.length c2), pl 10 (.int .i64 ways2), pl 11 (.int .i64 unlike2), pl 13 (.slice A8 mixed2.length c8), pl 14 (.slice A9 one2.length c9)] a ∧ Sep w0 B w (own 3 (.slice A2 out1.length c2) (vI out1) :: own 3 (.slice A8 mixed2.length c8) (vI mixed2) :: own 3 (.slice A9 one2.length c9) (vI one2) :: fs) ∧ ((gameroomref_countRanks_2_J14 out1 ways2 unlike2) mixed2 one2).bind some = some r) ?_ ?_
          · rintro a w ⟨mixed2, one2, A8, c8, A9, c9, hF, hS, hm⟩
            unfold gameroomref_countRanks_2_J14 at hm
            refine reg [] [] [2, 10, 13, 14, 104] [pl 2 (.slice A2 out1.length c2), pl 10 (.int .i64 ways2), pl 13 (.slice A8 mixed2.length c8), pl 14 (.slice A9 one2.length c9), pl 104 (.bool (unlike2 == 5))] hF hS Fol (by kernel_rfl) (by kernel_rfl) (by kernel_rfl) ?_ (fun a w hF hS => ?_)
            · exact obs_nil
            refine cond_ev (t := 104) (b := (unlike2 == 5)) hF (by kernel_rfl) (fun hb => ?_) (fun hb => ?_)
            · replace hm := if_t hm hb
              refine seqR ?_
              obtain ⟨r4, hr2, hm⟩ := call_b hm
              obtain ⟨hp16, hm⟩ := asrt_b hm
              obtain ⟨hp17, hm⟩ := asrt_b hm
              refine at_run 10 [⟨false, [], callFunc 91 #[.slice A8 mixed2.length c8], .int .i64 r4⟩, ⟨true, [], vS (Instr.indexAt 22 (.slice A2 out1.length c2) (.int .i64 (w64 (Int.tdiv r4 371293)))), .pointer (some (sAddr A2 (w64 (Int.tdiv r4 371293))))⟩, ⟨false, [], vS (Instr.loadAt 3 (.pointer (some (sAddr A2 (w64 (Int.tdiv r4 371293)))))), .int .i64 (geti out1 (w64 (Int.tdiv r4 371293)))⟩, ⟨true, [], vS (Instr.indexAt 22 (.slice A2 out1.length c2) (.int .i64 (w64 (Int.tdiv r4 371293)))), .pointer (some (sAddr A2 (w64 (Int.tdiv r4 371293))))⟩] [none, none, some (.int .i64 r4), none, some (.pointer (some (sAddr A2 (w64 (Int.tdiv r4 371293))))), some (.int .i64 (geti out1 (w64 (Int.tdiv r4 371293)))), none, none, none, some (.pointer (some (sAddr A2 (w64 (Int.tdiv r4 371293)))))] [2, 14, 113, 114] [pl 2 (.slice A2 out1.length c2), pl 14 (.slice A9 one2.length c9), pl 113 (.int .i64 (w64 ((geti out1 (w64 (Int.tdiv r4 371293))) + (w64 (ways2 - 4))))), pl 114 (.pointer (some (sAddr A2 (w64 (Int.tdiv r4 371293)))))] hF hS (by kernel_rfl) (by kernel_rfl) ?_ (fun a w hF hS => ?_)
              · exact obs_cons (ob_call Try.func91 (by kernel_rfl) rfl (fun _ _ hS => gameroomref_HandValue_w hr2 hS (fun _ hS => (hS.at_ 1 rfl).rd) ((hS.at_ 1 rfl).cap1) rfl)) <| obs_cons (ob_ix1 (f := (Value.int .i64)) (m := out1) Und22 hi3 hs3 (hS.at_ 0 rfl).rd rfl (fun _ => hp16)) <| obs_cons (ob_get1 (n := out1.length) (m := out1) (Value.int .i64) (0 : Int) Agg3 (fun _ hS => ⟨_, (hS.at_ 0 rfl).rd⟩) (fun _ hS => rfl) (fun _ => hp16)) <| obs_cons (ob_ix1 (f := (Value.int .i64)) (m := out1) Und22 hi3 hs3 (hS.at_ 0 rfl).rd rfl (fun _ => hp17)) <| obs_nil
              obtain ⟨w, hrun, hS⟩ := run_set1 (P := Try.prog) (t := 3) (x := (w64 ((geti out1 (w64 (Int.tdiv r4 371293))) + (w64 (ways2 - 4))))) (Value.int .i64) (hS.at_ 0 rfl) hi3 hs3 rfl rfl hp17
              refine at_skip hF (by kernel_rfl) hrun ?_
              have hS : Sep w0 B w (own 3 (.slice A2 out1.length c2) (vI (out1.set (Int.toNat (w64 (Int.tdiv r4 371293))) (w64 ((geti out1 (w64 (Int.tdiv r4 371293))) + (w64 (ways2 - 4)))))) :: own 3 (.slice A8 mixed2.length c8) (vI mixed2) :: own 3 (.slice A9 one2.length c9) (vI one2) :: fs) := hS
              refine at_end [2, 14] [pl 2 (.slice A2 out1.length c2), pl 14 (.slice A9 one2.length c9)] hF rfl (by kernel_rfl) (fun hF => ?_)
              refine then_n ?_
              refine oneR ?_
              obtain ⟨r5, hr3, hm⟩ := call_b hm
              obtain ⟨hp18, hm⟩ := asrt_b hm
              obtain ⟨hp19, hm⟩ := asrt_b hm
              refine at_run 8 [⟨false, [], callFunc 91 #[.slice A9 one2.length c9], .int .i64 r5⟩, ⟨true, [], vS (Instr.indexAt 22 (.slice A2 out1.length c2) (.int .i64 (w64 (Int.tdiv r5 371293)))), .pointer (some (sAddr A2 (w64 (Int.tdiv r5 371293))))⟩, ⟨false, [], vS (Instr.loadAt 3 (.pointer (some (sAddr A2 (w64 (Int.tdiv r5 371293)))))), .int .i64 (geti (out1.set (Int.toNat (w64 (Int.tdiv r4 371293))) (w64 ((geti out1 (w64 (Int.tdiv r4 371293))) + (w64 (ways2 - 4))))) (w64 (Int.tdiv r5 371293)))⟩, ⟨true, [], vS (Instr.indexAt 22 (.slice A2 out1.length c2) (.int .i64 (w64 (Int.tdiv r5 371293)))), .pointer (some (sAddr A2 (w64 (Int.tdiv r5 371293))))⟩] [none, none, some (.int .i64 r5), none, some (.pointer (some (sAddr A2 (w64 (Int.tdiv r5 371293))))), some (.int .i64 (geti (out1.set (Int.toNat (w64 (Int.tdiv r4 371293))) (w64 ((geti out1 (w64 (Int.tdiv r4 371293))) + (w64 (ways2 - 4))))) (w64 (Int.tdiv r5 371293)))), none, some (.pointer (some (sAddr A2 (w64 (Int.tdiv r5 371293)))))] [121, 122] [pl 121 (.int .i64 (w64 ((geti (out1.set (Int.toNat (w64 (Int.tdiv r4 371293))) (w64 ((geti out1 (w64 (Int.tdiv r4 371293))) + (w64 (ways2 - 4))))) (w64 (Int.tdiv r5 371293))) + 4))), pl 122 (.pointer (some (sAddr A2 (w64 (Int.tdiv r5 371293)))))] hF hS (by kernel_rfl) (by kernel_rfl) ?_ (fun a w hF hS => ?_)
              · exact obs_cons (ob_call Try.func91 (by kernel_rfl) rfl (fun _ _ hS => gameroomref_HandValue_w hr3 hS (fun _ hS => (hS.at_ 2 rfl).rd) ((hS.at_ 2 rfl).cap1) rfl)) <| obs_cons (ob_ix1 (f := (Value.int .i64)) (m := (out1.set (Int.toNat (w64 (Int.tdiv r4 371293))) (w64 ((geti out1 (w64 (Int.tdiv r4 371293))) + (w64 (ways2 - 4)))))) Und22 hi3 hs3 (hS.at_ 0 rfl).rd ((hS.at_ 0 rfl).len1) (fun _ => hp18)) <| obs_cons (ob_get1 (n := out1.length) (m := (out1.set (Int.toNat (w64 (Int.tdiv r4 371293))) (w64 ((geti out1 (w64 (Int.tdiv r4 371293))) + (w64 (ways2 - 4)))))) (Value.int .i64) (0 : Int) Agg3 (fun _ hS => ⟨_, (hS.at_ 0 rfl).rd⟩) (fun _ hS => ((hS.at_ 0 rfl).len1)) (fun _ => hp18)) <| obs_cons (ob_ix1 (f := (Value.int .i64)) (m := (out1.set (Int.toNat (w64 (Int.tdiv r4 371293))) (w64 ((geti out1 (w64 (Int.tdiv r4 371293))) + (w64 (ways2 - 4)))))) Und22 hi3 hs3 (hS.at_ 0 rfl).rd ((hS.at_ 0 rfl).len1) (fun _ => hp19)) <| obs_nil
              obtain ⟨w, hrun, hS⟩ := run_set1 (P := Try.prog) (t := 3) (x := (w64 ((geti (out1.set (Int.toNat (w64 (Int.tdiv r4 371293))) (w64 ((geti out1 (w64 (Int.tdiv r4 371293))) + (w64 (ways2 - 4))))) (w64 (Int.tdiv r5 371293))) + 4))) (Value.int .i64) (hS.at_ 0 rfl) hi3 hs3 rfl rfl hp19
              refine at_skip hF (by kernel_rfl) hrun ?_
              have hS : Sep w0 B w (own 3 (.slice A2 out1.length c2) (vI ((out1.set (Int.toNat (w64 (Int.tdiv r4 371293))) (w64 ((geti out1 (w64 (Int.tdiv r4 371293))) + (w64 (ways2 - 4))))).set (Int.toNat (w64 (Int.tdiv r5 371293))) (w64 ((geti (out1.set (Int.toNat (w64 (Int.tdiv r4 371293))) (w64 ((geti out1 (w64 (Int.tdiv r4 371293))) + (w64 (ways2 - 4))))) (w64 (Int.tdiv r5 371293))) + 4)))) :: own 3 (.slice A8 mixed2.length c8) (vI mixed2) :: own 3 (.slice A9 one2.length c9) (vI one2) :: fs) := hS
              refine at_end [] [] hF rfl (by kernel_rfl) (fun hF => ?_)
              refine then_n ?_
              have hS := hS.pickN 3 [0] (by decide)
              exact ⟨((out1.set (Int.toNat (w64 (Int.tdiv r4 371293))) (w64 ((geti out1 (w64 (Int.tdiv r4 371293))) + (w64 (ways2 - 4))))).set (Int.toNat (w64 (Int.tdiv r5 371293))) (w64 ((geti (out1.set (Int.toNat (w64 (Int.tdiv r4 371293))) (w64 ((geti out1 (w64 (Int.tdiv r4 371293))) + (w64 (ways2 - 4))))) (w64 (Int.tdiv r5 371293))) + 4))), hF.weak [] (by kernel_rfl), hS, hm⟩
            · replace hm := if_f hm hb
              refine oneR ?_
              obtain ⟨r6, hr4, hm⟩ := call_b hm
              obtain ⟨hp20, hm⟩ := asrt_b hm
              obtain ⟨hp21, hm⟩ := asrt_b hm
              refine at_run 9 [⟨false, [], callFunc 91 #[.slice A8 mixed2.length c8], .int .i64 r6⟩, ⟨true, [], vS (Instr.indexAt 22 (.slice A2 out1.length c2) (.int .i64 (w64 (Int.tdiv r6 371293)))), .pointer (some (sAddr A2 (w64 (Int.tdiv r6 371293))))⟩, ⟨false, [], vS (Instr.loadAt 3 (.pointer (some (sAddr A2 (w64 (Int.tdiv r6 371293)))))), .int .i64 (geti out1 (w64 (Int.tdiv r6 371293)))⟩, ⟨true, [], vS (Instr.indexAt 22 (.slice A2 out1.length c2) (.int .i64 (w64 (Int.tdiv r6 371293)))), .pointer (some (sAddr A2 (w64 (Int.tdiv r6 371293))))⟩] [none, none, some (.int .i64 r6), none, some (.pointer (some (sAddr A2 (w64 (Int.tdiv r6 371293))))), some (.int .i64 (geti out1 (w64 (Int.tdiv r6 371293)))), none, none, some (.pointer (some (sAddr A2 (w64 (Int.tdiv r6 371293)))))] [130, 131] [pl 130 (.int .i64 (w64 ((geti out1 (w64 (Int.tdiv r6 371293))) + ways2))), pl 131 (.pointer (some (sAddr A2 (w64 (Int.tdiv r6 371293)))))] hF hS (by kernel_rfl) (by kernel_rfl) ?_ (fun a w hF hS => ?_)
              · exact obs_cons (ob_call Try.func91 (by kernel_rfl) rfl (fun _ _ hS => gameroomref_HandValue_w hr4 hS (fun _ hS => (hS.at_ 1 rfl).rd) ((hS.at_ 1 rfl).cap1) rfl)) <| obs_cons (ob_ix1 (f := (Value.int .i64)) (m := out1) Und22 hi3 hs3 (hS.at_ 0 rfl).rd rfl (fun _ => hp20)) <| obs_cons (ob_get1 (n := out1.length) (m := out1) (Value.int .i64) (0 : Int) Agg3 (fun _ hS => ⟨_, (hS.at_ 0 rfl).rd⟩) (fun _ hS => rfl) (fun _ => hp20)) <| obs_cons (ob_ix1 (f := (Value.int .i64)) (m := out1) Und22 hi3 hs3 (hS.at_ 0 rfl).rd rfl (fun _ => hp21)) <| obs_nil
              obtain ⟨w, hrun, hS⟩ := run_set1 (P := Try.prog) (t := 3) (x := (w64 ((geti out1 (w64 (Int.tdiv r6 371293))) + ways2))) (Value.int .i64) (hS.at_ 0 rfl) hi3 hs3 rfl rfl hp21
              refine at_skip hF (by kernel_rfl) hrun ?_
              have hS : Sep w0 B w (own 3 (.slice A2 out1.length c2) (vI (out1.set (Int.toNat (w64 (Int.tdiv r6 371293))) (w64 ((geti out1 (w64 (Int.tdiv r6 371293))) + ways2)))) :: own 3 (.slice A8 mixed2.length c8) (vI mixed2) :: own 3 (.slice A9 one2.length c9) (vI one2) :: fs) := hS
              refine at_end [] [] hF rfl (by kernel_rfl) (fun hF => ?_)
              refine then_n ?_
              have hS := hS.pickN 3 [0] (by decide)
              exact ⟨(out1.set (Int.toNat (w64 (Int.tdiv r6 371293))) (w64 ((geti out1 (w64 (Int.tdiv r6 371293))) + ways2))), hF.weak [] (by kernel_rfl), hS, hm⟩
          · refine reg [] [] [0, 2, 10, 11, 13, 14, 15] [pl 0 (.slice A1 ranks1.length c1), pl 2 (.slice A2 out1.length c2), pl 10 (.int .i64 ways2), pl 11 (.int .i64 unlike2), pl 13 (.slice none 0 0), pl 14 (.slice none 0 0), pl 15 (.int .i64 0)] hF hS Fol (by kernel_rfl) (by kernel_rfl) (by kernel_rfl) ?_ (fun a w hF hS => ?_)
            · exact obs_nil
            refine wpIn_block ?_
            have hS : Sep w0 B w (own 3 (.slice none 0 0) (vI ([] : List Int)) :: own 3 (.slice A2 out1.length c2) (vI out1) :: fs) := hS.nil 3
            have hl1 := (hS.at_ 0 rfl).len1
            have hS := (hS.at_ 0 rfl).reN hl1
            have hS : Sep w0 B w (own 3 (.slice none (([] : List Int).length) 0) (vI ([] : List Int)) :: own 3 (.slice A2 out1.length c2) (vI out1) :: fs) := hS
            have hF := hF.cast (t := 13) (v := .slice none 0 0) (v' := .slice none (([] : List Int).length) 0) rfl rfl (congrArg (fun k => Value.slice none k 0) hl1)
            have hS : Sep w0 B w (own 3 (.slice none 0 0) (vI ([] : List Int)) :: own 3 (.slice none (([] : List Int).length) 0) (vI ([] : List Int)) :: own 3 (.slice A2 out1.length c2) (vI out1) :: fs) := hS.nil 3
            have hl2 := (hS.at_ 0 rfl).len1
            have hS := (hS.at_ 0 rfl).reN hl2
            have hS : Sep w0 B w (own 3 (.slice none (([] : List Int).length) 0) (vI ([] : List Int)) :: own 3 (.slice none (([] : List Int).length) 0) (vI ([] : List Int)) :: own 3 (.slice A2 out1.length c2) (vI out1) :: fs) := hS
            have hF := hF.cast (t := 14) (v := .slice none 0 0) (v' := .slice none (([] : List Int).length) 0) rfl rfl (congrArg (fun k => Value.slice none k 0) hl2)
            have hS := hS.pickN 3 [2, 1, 0] (by decide)
            refine wp_loop_model (S := (List Int × List Int × Int)) (R := (List Int × List Int)) (gameroomref_countRanks_2_L4 ranks1) (fun x => ((gameroomref_countRanks_2_K4 out1 ways2 unlike2) x).bind some) r (fun (x : (List Int × List Int × Int)) a w => ∃ (A6 : Option Addr) (c6 : Nat) (A7 : Option Addr) (c7 : Nat), Fr 132 [pl 0 (.slice A1 ranks1.length c1), pl 2 (.slice A2 out1.length c2), pl 10 (.int .i64 ways2), pl 11 (.int .i64 unlike2), pl 13 (.slice A6 x.1.length c6), pl 14 (.slice A7 x.2.1.length c7), pl 15 (.int .i64 x.2.2)] a ∧ Sep w0 B w (own 3 (.slice A2 out1.length c2) (vI out1) :: own 3 (.slice A6 x.1.length c6) (vI x.1) :: own 3 (.slice A7 x.2.1.length c7) (vI x.2.1) :: fs)) (assoc_b hm) ⟨none, 0, none, 0, hF.weak [0, 2, 10, 11, 13, 14, 15] (by kernel_rfl), hS⟩ ?_
            clear hF hS hm
            rintro nn4 ⟨mixed1, one1, i2⟩ a w ⟨A6, c6, A7, c7, hF, hS⟩ hm
            generalize hφ4 : stK (gameroomref_countRanks_2_L4 ranks1) nn4 (fun x => ((gameroomref_countRanks_2_K4 out1 ways2 unlike2) x).bind some) = φ4 at hm
            unfold gameroomref_countRanks_2_L4 at hm
            dsimp only at hF hS hm
            refine seq_cut (fun a w => Fr 132 [pl 0 (.slice A1 ranks1.length c1), pl 2 (.slice A2 out1.length c2), pl 10 (.int .i64 ways2), pl 11 (.int .i64 unlike2), pl 13 (.slice A6 mixed1.length c6), pl 14 (.slice A7 one1.length c7), pl 15 (.int .i64 i2)] a ∧ Sep w0 B w (own 3 (.slice A2 out1.length c2) (vI out1) :: own 3 (.slice A6 mixed1.length c6) (vI mixed1) :: own 3 (.slice A7 one1.length c7) (vI one1) :: fs) ∧ ((gameroomref_countRanks_2_J15 ranks1 mixed1 one1 i2)).bind φ4 = some r) ?_ ?_
            · rintro a w ⟨hF, hS, hm⟩
              unfold gameroomref_countRanks_2_J15 at hm
              refine seq_cut (fun a w => ∃ (mixed3 : List Int) (one3 : List Int) (A12 : Option Addr) (c12 : Nat) (A13 : Option Addr) (c13 : Nat), Fr 132 [pl 0 (.slice A1 ranks1.length c1), pl 2 (.slice A2 out1.length c2), pl 10 (.int .i64 ways2), pl 11 (.int .i64 unlike2), pl 13 (.slice A12 mixed3.length c12), pl 14 (.slice A13 one3.length c13), pl 15 (.int .i64 i2)] a ∧ Sep w0 B w (own 3 (.slice A2 out1.length c2) (vI out1) :: own 3 (.slice A12 mixed3.length c12) (vI mixed3) :: own 3 (.slice A13 one3.length c13) (vI one3) :: fs) ∧ ((gameroomref_countRanks_2_J16 i2) mixed3 one3).bind φ4 = some r) ?_ ?_
              · rintro a w ⟨mixed3, one3, A12, c12, A13, c13, hF, hS, hm⟩
                unfold gameroomref_countRanks_2_J16 at hm
                refine reg1 [] [] [0, 2, 10, 11, 13, 14, 15] [pl 0 (.slice A1 ranks1.length c1), pl 2 (.slice A2 out1.length c2), pl 10 (.int .i64 ways2), pl 11 (.int .i64 unlike2), pl 13 (.slice A12 mixed3.length c12), pl 14 (.slice A13 one3.length c13), pl 15 (.int .i64 (w64 (i2 + 1)))] hF hS Fol (by kernel_rfl) (by kernel_rfl) (by kernel_rfl) ?_ (fun a w hF hS => ?_)
                · exact obs_nil
                refine then_n ?_
                rw [← hφ4] at hm
                exact ⟨(mixed3, one3, (w64 (i2 + 1))), ⟨A12, c12, A13, c13, hF.weak [0, 2, 10, 11, 13, 14, 15] (by kernel_rfl), hS⟩, hm⟩
              · refine wpIn_block ?_
                refine seqR ?_
                obtain ⟨hp12, hm⟩ := asrt_b hm
                obtain ⟨hp13, hm⟩ := asrt_b hm
                refine at_run 9 [⟨true, [], vS (Instr.indexAt 22 (.slice A1 ranks1.length c1) (.int .i64 i2)), .pointer (some (sAddr A1 i2))⟩, ⟨false, [], vS (Instr.loadAt 3 (.pointer (some (sAddr A1 i2)))), .int .i64 (geti ranks1 i2)⟩] [none, none, none, some (.pointer (some (sAddr A1 i2))), some (.int .i64 (geti ranks1 i2)), none, none, none, none] [0, 2, 10, 11, 14, 15, 84, 92] [pl 0 (.slice A1 ranks1.length c1), pl 2 (.slice A2 out1.length c2), pl 10 (.int .i64 ways2), pl 11 (.int .i64 unlike2), pl 14 (.slice A7 one1.length c7), pl 15 (.int .i64 i2), pl 84 (.slice A6 mixed1.length c6), pl 92 (.int .i64 (w64 ((w64 (4 * (geti ranks1 i2))) + (Int.tmod i2 4))))] hF hS (by kernel_rfl) (by kernel_rfl) ?_ (fun a w hF hS => ?_)
                · exact obs_cons (ob_ix1 (f := (Value.int .i64)) (m := ranks1) Und22 hi3 hs3 (hr_ranks1 _ (hS.dropN 3)) rfl (fun _ => hp12)) <| obs_cons (ob_get1 (n := ranks1.length) (m := ranks1) (Value.int .i64) (0 : Int) Agg3 (fun _ hS => ⟨_, (hr_ranks1 _ (hS.dropN 3))⟩) (fun _ hS => rfl) (fun _ => hp12)) <| obs_nil
                refine at_do (d := 93) (s := vS (Instr.buildSlice 22 1 #[(0, .int .i64 (w64 ((w64 (4 * (geti ranks1 i2))) + (Int.tmod i2 4))))])) (v := .slice (some ⟨w.heap.size, 0, none⟩) 1 1) (w' := w.alloc (.cells #[.int .i64 (w64 ((w64 (4 * (geti ranks1 i2))) + (Int.tmod i2 4)))] 3)) hF (by kernel_rfl) (by kernel_rfl) (by kernel_rfl) (fun a hF => ?_)
                have hS : Sep w0 B (w.alloc (.cells #[.int .i64 (w64 ((w64 (4 * (geti ranks1 i2))) + (Int.tmod i2 4)))] 3)) (own 3 (.slice (some (⟨w.heap.size, 0, none⟩ : Addr)) 1 1) (vI ([w64 ((w64 (4 * (geti ranks1 i2))) + (Int.tmod i2 4))] : List Int)) :: (own 3 (.slice A2 out1.length c2) (vI out1) :: own 3 (.slice A6 mixed1.length c6) (vI mixed1) :: own 3 (.slice A7 one1.length c7) (vI one1) :: fs)) := hS.lit 3 #[.int .i64 (w64 ((w64 (4 * (geti ranks1 i2))) + (Int.tmod i2 4)))] 1 rfl (by omega)
                generalize (some (⟨w.heap.size, 0, none⟩ : Addr)) = g3 at hF hS
                generalize w.alloc (.cells #[.int .i64 (w64 ((w64 (4 * (geti ranks1 i2))) + (Int.tmod i2 4)))] 3) = w at hS ⊢
                obtain ⟨A10, c10, w, hrun, hS⟩ := run_app1 (P := Try.prog) (t := 22) (m := mixed1) (ys := ([w64 ((w64 (4 * (geti ranks1 i2))) + (Int.tmod i2 4))] : List Int)) (A2 := g3) (m2 := 1) (c2 := 1) (Value.int .i64) (0 : Int) (hS.at_ 2 rfl) (hS.at_ 0 rfl).rd ((hS.at_ 0 rfl).len1) 22 Und22 hi3 hz3 hs3 (by omega) rfl (fun _ => rfl) hp13
                have hS : Sep w0 B w (own 3 (.slice g3 1 1) (vI ([w64 ((w64 (4 * (geti ranks1 i2))) + (Int.tmod i2 4))] : List Int)) :: own 3 (.slice A2 out1.length c2) (vI out1) :: own 3 (.slice A10 ((mixed1 ++ ([w64 ((w64 (4 * (geti ranks1 i2))) + (Int.tmod i2 4))] : List Int)).length) c10) (vI (mixed1 ++ ([w64 ((w64 (4 * (geti ranks1 i2))) + (Int.tmod i2 4))] : List Int))) :: own 3 (.slice A7 one1.length c7) (vI one1) :: fs) := hS
                refine at_do (d := 94) hF (by kernel_rfl) (by kernel_rfl) hrun (fun a hF => ?_)
                refine at_run 1 [] [] [0, 2, 10, 11, 13, 14, 15] [pl 0 (.slice A1 ranks1.length c1), pl 2 (.slice A2 out1.length c2), pl 10 (.int .i64 ways2), pl 11 (.int .i64 unlike2), pl 13 (.slice A10 ((mixed1 ++ ([w64 ((w64 (4 * (geti ranks1 i2))) + (Int.tmod i2 4))] : List Int)).length) c10), pl 14 (.slice A7 one1.length c7), pl 15 (.int .i64 i2)] hF hS (by kernel_rfl) (by kernel_rfl) ?_ (fun a w hF hS => ?_)
                · exact obs_nil
                refine at_end [0, 2, 10, 11, 13, 14, 15] [pl 0 (.slice A1 ranks1.length c1), pl 2 (.slice A2 out1.length c2), pl 10 (.int .i64 ways2), pl 11 (.int .i64 unlike2), pl 13 (.slice A10 ((mixed1 ++ ([w64 ((w64 (4 * (geti ranks1 i2))) + (Int.tmod i2 4))] : List Int)).length) c10), pl 14 (.slice A7 one1.length c7), pl 15 (.int .i64 i2)] hF rfl (by kernel_rfl) (fun hF => ?_)
                refine then_n ?_
                refine oneR ?_
                obtain ⟨hp14, hm⟩ := asrt_b hm
                obtain ⟨hp15, hm⟩ := asrt_b hm
                refine at_run 6 [⟨true, [], vS (Instr.indexAt 22 (.slice A1 ranks1.length c1) (.int .i64 i2)), .pointer (some (sAddr A1 i2))⟩, ⟨false, [], vS (Instr.loadAt 3 (.pointer (some (sAddr A1 i2)))), .int .i64 (geti ranks1 i2)⟩] [none, none, none, some (.pointer (some (sAddr A1 i2))), some (.int .i64 (geti ranks1 i2)), none] [0, 2, 10, 11, 13, 15, 95, 100] [pl 0 (.slice A1 ranks1.length c1), pl 2 (.slice A2 out1.length c2), pl 10 (.int .i64 ways2), pl 11 (.int .i64 unlike2), pl 13 (.slice A10 ((mixed1 ++ ([w64 ((w64 (4 * (geti ranks1 i2))) + (Int.tmod i2 4))] : List Int)).length) c10), pl 15 (.int .i64 i2), pl 95 (.slice A7 one1.length c7), pl 100 (.int .i64 (w64 (4 * (geti ranks1 i2))))] hF hS (by kernel_rfl) (by kernel_rfl) ?_ (fun a w hF hS => ?_)
                · exact obs_cons (ob_ix1 (f := (Value.int .i64)) (m := ranks1) Und22 hi3 hs3 (hr_ranks1 _ (hS.dropN 4)) rfl (fun _ => hp14)) <| obs_cons (ob_get1 (n := ranks1.length) (m := ranks1) (Value.int .i64) (0 : Int) Agg3 (fun _ hS => ⟨_, (hr_ranks1 _ (hS.dropN 4))⟩) (fun _ hS => rfl) (fun _ => hp14)) <| obs_nil
                refine at_do (d := 101) (s := vS (Instr.buildSlice 22 1 #[(0, .int .i64 (w64 (4 * (geti ranks1 i2))))])) (v := .slice (some ⟨w.heap.size, 0, none⟩) 1 1) (w' := w.alloc (.cells #[.int .i64 (w64 (4 * (geti ranks1 i2)))] 3)) hF (by kernel_rfl) (by kernel_rfl) (by kernel_rfl) (fun a hF => ?_)
                have hS : Sep w0 B (w.alloc (.cells #[.int .i64 (w64 (4 * (geti ranks1 i2)))] 3)) (own 3 (.slice (some (⟨w.heap.size, 0, none⟩ : Addr)) 1 1) (vI ([w64 (4 * (geti ranks1 i2))] : List Int)) :: (own 3 (.slice g3 1 1) (vI ([w64 ((w64 (4 * (geti ranks1 i2))) + (Int.tmod i2 4))] : List Int)) :: own 3 (.slice A2 out1.length c2) (vI out1) :: own 3 (.slice A10 ((mixed1 ++ ([w64 ((w64 (4 * (geti ranks1 i2))) + (Int.tmod i2 4))] : List Int)).length) c10) (vI (mixed1 ++ ([w64 ((w64 (4 * (geti ranks1 i2))) + (Int.tmod i2 4))] : List Int))) :: own 3 (.slice A7 one1.length c7) (vI one1) :: fs)) := hS.lit 3 #[.int .i64 (w64 (4 * (geti ranks1 i2)))] 1 rfl (by omega)
                generalize (some (⟨w.heap.size, 0, none⟩ : Addr)) = g4 at hF hS
                generalize w.alloc (.cells #[.int .i64 (w64 (4 * (geti ranks1 i2)))] 3) = w at hS ⊢
                obtain ⟨A11, c11, w, hrun, hS⟩ := run_app1 (P := Try.prog) (t := 22) (m := one1) (ys := ([w64 (4 * (geti ranks1 i2))] : List Int)) (A2 := g4) (m2 := 1) (c2 := 1) (Value.int .i64) (0 : Int) (hS.at_ 4 rfl) (hS.at_ 0 rfl).rd ((hS.at_ 0 rfl).len1) 22 Und22 hi3 hz3 hs3 (by omega) rfl (fun _ => rfl) hp15
                have hS : Sep w0 B w (own 3 (.slice g4 1 1) (vI ([w64 (4 * (geti ranks1 i2))] : List Int)) :: own 3 (.slice g3 1 1) (vI ([w64 ((w64 (4 * (geti ranks1 i2))) + (Int.tmod i2 4))] : List Int)) :: own 3 (.slice A2 out1.length c2) (vI out1) :: own 3 (.slice A10 ((mixed1 ++ ([w64 ((w64 (4 * (geti ranks1 i2))) + (Int.tmod i2 4))] : List Int)).length) c10) (vI (mixed1 ++ ([w64 ((w64 (4 * (geti ranks1 i2))) + (Int.tmod i2 4))] : List Int))) :: own 3 (.slice A11 ((one1 ++ ([w64 (4 * (geti ranks1 i2))] : List Int)).length) c11) (vI (one1 ++ ([w64 (4 * (geti ranks1 i2))] : List Int))) :: fs) := hS
                refine at_do (d := 102) hF (by kernel_rfl) (by kernel_rfl) hrun (fun a hF => ?_)
                refine at_run 1 [] [] [0, 2, 10, 11, 13, 14, 15] [pl 0 (.slice A1 ranks1.length c1), pl 2 (.slice A2 out1.length c2), pl 10 (.int .i64 ways2), pl 11 (.int .i64 unlike2), pl 13 (.slice A10 ((mixed1 ++ ([w64 ((w64 (4 * (geti ranks1 i2))) + (Int.tmod i2 4))] : List Int)).length) c10), pl 14 (.slice A11 ((one1 ++ ([w64 (4 * (geti ranks1 i2))] : List Int)).length) c11), pl 15 (.int .i64 i2)] hF hS (by kernel_rfl) (by kernel_rfl) ?_ (fun a w hF hS => ?_)
                · exact obs_nil
                refine at_end [0, 2, 10, 11, 13, 14, 15] [pl 0 (.slice A1 ranks1.length c1), pl 2 (.slice A2 out1.length c2), pl 10 (.int .i64 ways2), pl 11 (.int .i64 unlike2), pl 13 (.slice A10 ((mixed1 ++ ([w64 ((w64 (4 * (geti ranks1 i2))) + (Int.tmod i2 4))] : List Int)).length) c10), pl 14 (.slice A11 ((one1 ++ ([w64 (4 * (geti ranks1 i2))] : List Int)).length) c11), pl 15 (.int .i64 i2)] hF rfl (by kernel_rfl) (fun hF => ?_)
                refine block_n ?_
                refine then_n ?_
                have hS := hS.pickN 5 [2, 3, 4] (by decide)
                exact ⟨(mixed1 ++ ([w64 ((w64 (4 * (geti ranks1 i2))) + (Int.tmod i2 4))] : List Int)), (one1 ++ ([w64 (4 * (geti ranks1 i2))] : List Int)), A10, c10, A11, c11, hF.weak [0, 2, 10, 11, 13, 14, 15] (by kernel_rfl), hS, hm⟩
            · refine reg [] [] [0, 2, 10, 11, 13, 14, 15, 81] [pl 0 (.slice A1 ranks1.length c1), pl 2 (.slice A2 out1.length c2), pl 10 (.int .i64 ways2), pl 11 (.int .i64 unlike2), pl 13 (.slice A6 mixed1.length c6), pl 14 (.slice A7 one1.length c7), pl 15 (.int .i64 i2), pl 81 (.bool (decide (i2 < 5)))] hF hS Fol (by kernel_rfl) (by kernel_rfl) (by kernel_rfl) ?_ (fun a w hF hS => ?_)
              · exact obs_nil
              refine cond_ev (t := 81) (b := decide (i2 < 5)) hF (by kernel_rfl) (fun hb => ?_) (fun hb => ?_)
              · replace hm := if_t hm hb
                refine wpIn_skip ?_
                refine then_n ?_
                exact ⟨hF.weak [0, 2, 10, 11, 13, 14, 15] (by kernel_rfl), hS, hm⟩
              · replace hm := if_f hm hb
                refine wpIn_exit ?_
                refine then_e (then_e (block_e (then_n ?_)))
                rw [← hφ4] at hm
                replace hm := done_b hm
                unfold gameroomref_countRanks_2_K4 at hm
                try dsimp only at hm
                have hm : ((gameroomref_countRanks_2_J14 out1 ways2 unlike2) mixed1 one1).bind some = some r := hm
                exact ⟨mixed1, one1, A6, c6, A7, c7, hF.weak [2, 10, 11, 13, 14] (by kernel_rfl), hS, hm⟩
        · refine reg [] [] [0, 2, 8, 10, 11, 12] [pl 0 (.slice A1 ranks1.length c1), pl 2 (.slice A2 out1.length c2), pl 8 (.slice A5 (Int.toNat 13) c5), pl 10 (.int .i64 1), pl 11 (.int .i64 0), pl 12 (.int .i64 0)] hF hS Fol (by kernel_rfl) (by kernel_rfl) (by kernel_rfl) ?_ (fun a w hF hS => ?_)
          · exact obs_nil
          refine wpIn_block ?_
          refine wp_loop_model (S := (Int × Int × Int)) (R := (Fl (Int × Int) (List Int))) (gameroomref_countRanks_2_L3 out1 many2) (fun x => ((gameroomref_countRanks_2_K3 ranks1 out1) x).bind some) r (fun (x : (Int × Int × Int)) a w => Fr 132 [pl 0 (.slice A1 ranks1.length c1), pl 2 (.slice A2 out1.length c2), pl 8 (.slice A5 (Int.toNat 13) c5), pl 10 (.int .i64 x.1), pl 11 (.int .i64 x.2.1), pl 12 (.int .i64 x.2.2)] a ∧ Sep w0 B w (own 3 (.slice A2 out1.length c2) (vI out1) :: own 3 (.slice A5 (Int.toNat 13) c5) (vI many2) :: fs)) (assoc_b hm) ⟨hF.weak [0, 2, 8, 10, 11, 12] (by kernel_rfl), hS⟩ ?_
          clear hF hS hm
          rintro nn3 ⟨ways1, unlike1, r3⟩ a w ⟨hF, hS⟩ hm
          generalize hφ3 : stK (gameroomref_countRanks_2_L3 out1 many2) nn3 (fun x => ((gameroomref_countRanks_2_K3 ranks1 out1) x).bind some) = φ3 at hm
          unfold gameroomref_countRanks_2_L3 at hm
          dsimp only at hF hS hm
          refine seq_cut (fun a w => Fr 132 [pl 0 (.slice A1 ranks1.length c1), pl 2 (.slice A2 out1.length c2), pl 8 (.slice A5 (Int.toNat 13) c5), pl 10 (.int .i64 ways1), pl 11 (.int .i64 unlike1), pl 12 (.int .i64 r3)] a ∧ Sep w0 B w (own 3 (.slice A2 out1.length c2) (vI out1) :: own 3 (.slice A5 (Int.toNat 13) c5) (vI many2) :: fs) ∧ ((gameroomref_countRanks_2_J11 out1 many2 ways1 unlike1 r3)).bind φ3 = some r) ?_ ?_
          · rintro a w ⟨hF, hS, hm⟩
            unfold gameroomref_countRanks_2_J11 at hm
            refine seq_cut (fun a w => ∃ (unlike3 : Int), Fr 132 [pl 0 (.slice A1 ranks1.length c1), pl 2 (.slice A2 out1.length c2), pl 8 (.slice A5 (Int.toNat 13) c5), pl 10 (.int .i64 (w64 (ways1 * (geti ([1, 4, 6, 4, 1] : List Int) (geti many2 r3))))), pl 11 (.int .i64 unlike3), pl 12 (.int .i64 r3)] a ∧ Sep w0 B w (own 3 (.slice A2 out1.length c2) (vI out1) :: own 3 (.slice A5 (Int.toNat 13) c5) (vI many2) :: fs) ∧ ((gameroomref_countRanks_2_J12 many2 ways1 r3) unlike3).bind φ3 = some r) ?_ ?_
            · rintro a w ⟨unlike3, hF, hS, hm⟩
              unfold gameroomref_countRanks_2_J12 at hm
              refine reg1 [] [] [0, 2, 8, 10, 11, 12] [pl 0 (.slice A1 ranks1.length c1), pl 2 (.slice A2 out1.length c2), pl 8 (.slice A5 (Int.toNat 13) c5), pl 10 (.int .i64 (w64 (ways1 * (geti ([1, 4, 6, 4, 1] : List Int) (geti many2 r3))))), pl 11 (.int .i64 unlike3), pl 12 (.int .i64 (w64 (r3 + 1)))] hF hS Fol (by kernel_rfl) (by kernel_rfl) (by kernel_rfl) ?_ (fun a w hF hS => ?_)
              · exact obs_nil
              refine then_n ?_
              rw [← hφ3] at hm
              exact ⟨((w64 (ways1 * (geti ([1, 4, 6, 4, 1] : List Int) (geti many2 r3)))), unlike3, (w64 (r3 + 1))), ⟨hF.weak [0, 2, 8, 10, 11, 12] (by kernel_rfl), hS⟩, hm⟩
            · refine wpIn_block ?_
              refine seq_cut (fun a w => Fr 132 [pl 0 (.slice A1 ranks1.length c1), pl 2 (.slice A2 out1.length c2), pl 8 (.slice A5 (Int.toNat 13) c5), pl 10 (.int .i64 ways1), pl 11 (.int .i64 unlike1), pl 12 (.int .i64 r3)] a ∧ Sep w0 B w (own 3 (.slice A2 out1.length c2) (vI out1) :: own 3 (.slice A5 (Int.toNat 13) c5) (vI many2) :: fs) ∧ ((gameroomref_countRanks_2_J13 many2 ways1 unlike1 r3)).bind φ3 = some r) ?_ ?_
              · rintro a w ⟨hF, hS, hm⟩
                unfold gameroomref_countRanks_2_J13 at hm
                refine seqR ?_
                obtain ⟨hp9, hm⟩ := asrt_b hm
                obtain ⟨hp10, hm⟩ := asrt_b hm
                refine at_run 1 [] [] [0, 2, 8, 11, 12, 64] [pl 0 (.slice A1 ranks1.length c1), pl 2 (.slice A2 out1.length c2), pl 8 (.slice A5 (Int.toNat 13) c5), pl 11 (.int .i64 unlike1), pl 12 (.int .i64 r3), pl 64 (.int .i64 ways1)] hF hS (by kernel_rfl) (by kernel_rfl) ?_ (fun a w hF hS => ?_)
                · exact obs_nil
                refine at_do (d := 65) (s := vS (Instr.buildSlice 22 5 #[(0, .int .i64 1), (1, .int .i64 4), (2, .int .i64 6), (3, .int .i64 4), (4, .int .i64 1)])) (v := .slice (some ⟨w.heap.size, 0, none⟩) 5 5) (w' := w.alloc (.cells #[.int .i64 1, .int .i64 4, .int .i64 6, .int .i64 4, .int .i64 1] 3)) hF (by kernel_rfl) (by kernel_rfl) (by kernel_rfl) (fun a hF => ?_)
                have hS : Sep w0 B (w.alloc (.cells #[.int .i64 1, .int .i64 4, .int .i64 6, .int .i64 4, .int .i64 1] 3)) (own 3 (.slice (some (⟨w.heap.size, 0, none⟩ : Addr)) 5 5) (vI ([1, 4, 6, 4, 1] : List Int)) :: (own 3 (.slice A2 out1.length c2) (vI out1) :: own 3 (.slice A5 (Int.toNat 13) c5) (vI many2) :: fs)) := hS.lit 3 #[.int .i64 1, .int .i64 4, .int .i64 6, .int .i64 4, .int .i64 1] 5 rfl (by omega)
                generalize (some (⟨w.heap.size, 0, none⟩ : Addr)) = g2 at hF hS
                generalize w.alloc (.cells #[.int .i64 1, .int .i64 4, .int .i64 6, .int .i64 4, .int .i64 1] 3) = w at hS ⊢
                refine at_run 8 [⟨true, [], vS (Instr.indexAt 22 (.slice A5 (Int.toNat 13) c5) (.int .i64 r3)), .pointer (some (sAddr A5 r3))⟩, ⟨false, [], vS (Instr.loadAt 3 (.pointer (some (sAddr A5 r3)))), .int .i64 (geti many2 r3)⟩, ⟨true, [], vS (Instr.indexAt 22 (.slice g2 5 5) (.int .i64 (geti many2 r3))), .pointer (some (sAddr g2 (geti many2 r3)))⟩, ⟨false, [], vS (Instr.loadAt 3 (.pointer (some (sAddr g2 (geti many2 r3))))), .int .i64 (geti ([1, 4, 6, 4, 1] : List Int) (geti many2 r3))⟩] [none, none, some (.pointer (some (sAddr A5 r3))), some (.int .i64 (geti many2 r3)), some (.pointer (some (sAddr g2 (geti many2 r3)))), some (.int .i64 (geti ([1, 4, 6, 4, 1] : List Int) (geti many2 r3))), none, none] [0, 2, 8, 10, 11, 12] [pl 0 (.slice A1 ranks1.length c1), pl 2 (.slice A2 out1.length c2), pl 8 (.slice A5 (Int.toNat 13) c5), pl 10 (.int .i64 (w64 (ways1 * (geti ([1, 4, 6, 4, 1] : List Int) (geti many2 r3))))), pl 11 (.int .i64 unlike1), pl 12 (.int .i64 r3)] hF hS (by kernel_rfl) (by kernel_rfl) ?_ (fun a w hF hS => ?_)
                · exact obs_cons (ob_ix1 (f := (Value.int .i64)) (m := many2) Und22 hi3 hs3 (hS.at_ 2 rfl).rd ((hS.at_ 2 rfl).len1) (fun _ => hp9)) <| obs_cons (ob_get1 (n := (Int.toNat 13)) (m := many2) (Value.int .i64) (0 : Int) Agg3 (fun _ hS => ⟨_, (hS.at_ 2 rfl).rd⟩) (fun _ hS => ((hS.at_ 2 rfl).len1)) (fun _ => hp9)) <| obs_cons (ob_ix1 (f := (Value.int .i64)) (m := ([1, 4, 6, 4, 1] : List Int)) Und22 hi3 hs3 (hS.at_ 0 rfl).rd ((hS.at_ 0 rfl).len1) (fun _ => hp10)) <| obs_cons (ob_get1 (n := 5) (m := ([1, 4, 6, 4, 1] : List Int)) (Value.int .i64) (0 : Int) Agg3 (fun _ hS => ⟨_, (hS.at_ 0 rfl).rd⟩) (fun _ hS => ((hS.at_ 0 rfl).len1)) (fun _ => hp10)) <| obs_nil
                refine at_end [0, 2, 8, 10, 11, 12] [pl 0 (.slice A1 ranks1.length c1), pl 2 (.slice A2 out1.length c2), pl 8 (.slice A5 (Int.toNat 13) c5), pl 10 (.int .i64 (w64 (ways1 * (geti ([1, 4, 6, 4, 1] : List Int) (geti many2 r3))))), pl 11 (.int .i64 unlike1), pl 12 (.int .i64 r3)] hF rfl (by kernel_rfl) (fun hF => ?_)
                refine then_n ?_
                obtain ⟨hp11, hm⟩ := asrt_b hm
                refine reg [⟨true, [], vS (Instr.indexAt 22 (.slice A5 (Int.toNat 13) c5) (.int .i64 r3)), .pointer (some (sAddr A5 r3))⟩, ⟨false, [], vS (Instr.loadAt 3 (.pointer (some (sAddr A5 r3)))), .int .i64 (geti many2 r3)⟩] [none, none, some (.pointer (some (sAddr A5 r3))), some (.int .i64 (geti many2 r3)), none] [0, 2, 8, 10, 11, 12, 77] [pl 0 (.slice A1 ranks1.length c1), pl 2 (.slice A2 out1.length c2), pl 8 (.slice A5 (Int.toNat 13) c5), pl 10 (.int .i64 (w64 (ways1 * (geti ([1, 4, 6, 4, 1] : List Int) (geti many2 r3))))), pl 11 (.int .i64 unlike1), pl 12 (.int .i64 r3), pl 77 (.bool (decide ((0 : Int) < (geti many2 r3))))] hF hS Fol (by kernel_rfl) (by kernel_rfl) (by kernel_rfl) ?_ (fun a w hF hS => ?_)
                · exact obs_cons (ob_ix1 (f := (Value.int .i64)) (m := many2) Und22 hi3 hs3 (hS.at_ 2 rfl).rd ((hS.at_ 2 rfl).len1) (fun _ => hp11)) <| obs_cons (ob_get1 (n := (Int.toNat 13)) (m := many2) (Value.int .i64) (0 : Int) Agg3 (fun _ hS => ⟨_, (hS.at_ 2 rfl).rd⟩) (fun _ hS => ((hS.at_ 2 rfl).len1)) (fun _ => hp11)) <| obs_nil
                refine cond_ev (t := 77) (b := decide ((0 : Int) < (geti many2 r3))) hF (by kernel_rfl) (fun hb => ?_) (fun hb => ?_)
                · replace hm := if_t hm hb
                  refine reg1 [] [] [0, 2, 8, 10, 11, 12] [pl 0 (.slice A1 ranks1.length c1), pl 2 (.slice A2 out1.length c2), pl 8 (.slice A5 (Int.toNat 13) c5), pl 10 (.int .i64 (w64 (ways1 * (geti ([1, 4, 6, 4, 1] : List Int) (geti many2 r3))))), pl 11 (.int .i64 (w64 (unlike1 + 1))), pl 12 (.int .i64 r3)] hF hS Fol (by kernel_rfl) (by kernel_rfl) (by kernel_rfl) ?_ (fun a w hF hS => ?_)
                  · exact obs_nil
                  refine block_n ?_
                  refine then_n ?_
                  have hS := hS.pickN 3 [1, 2] (by decide)
                  exact ⟨(w64 (unlike1 + 1)), hF.weak [0, 2, 8, 10, 11, 12] (by kernel_rfl), hS, hm⟩
                · replace hm := if_f hm hb
                  refine wpIn_skip ?_
                  refine block_n ?_
                  refine then_n ?_
                  have hS := hS.pickN 3 [1, 2] (by decide)
                  exact ⟨unlike1, hF.weak [0, 2, 8, 10, 11, 12] (by kernel_rfl), hS, hm⟩
              · obtain ⟨hp8, hm⟩ := asrt_b hm
                refine reg [⟨true, [], vS (Instr.indexAt 22 (.slice A5 (Int.toNat 13) c5) (.int .i64 r3)), .pointer (some (sAddr A5 r3))⟩, ⟨false, [], vS (Instr.loadAt 3 (.pointer (some (sAddr A5 r3)))), .int .i64 (geti many2 r3)⟩] [none, none, some (.pointer (some (sAddr A5 r3))), some (.int .i64 (geti many2 r3)), none] [0, 2, 8, 10, 11, 12, 63] [pl 0 (.slice A1 ranks1.length c1), pl 2 (.slice A2 out1.length c2), pl 8 (.slice A5 (Int.toNat 13) c5), pl 10 (.int .i64 ways1), pl 11 (.int .i64 unlike1), pl 12 (.int .i64 r3), pl 63 (.bool (decide ((4 : Int) < (geti many2 r3))))] hF hS Fol (by kernel_rfl) (by kernel_rfl) (by kernel_rfl) ?_ (fun a w hF hS => ?_)
                · exact obs_cons (ob_ix1 (f := (Value.int .i64)) (m := many2) Und22 hi3 hs3 (hS.at_ 1 rfl).rd ((hS.at_ 1 rfl).len1) (fun _ => hp8)) <| obs_cons (ob_get1 (n := (Int.toNat 13)) (m := many2) (Value.int .i64) (0 : Int) Agg3 (fun _ hS => ⟨_, (hS.at_ 1 rfl).rd⟩) (fun _ hS => ((hS.at_ 1 rfl).len1)) (fun _ => hp8)) <| obs_nil
                refine cond_ev (t := 63) (b := decide ((4 : Int) < (geti many2 r3))) hF (by kernel_rfl) (fun hb => ?_) (fun hb => ?_)
                · replace hm := if_t hm hb
                  refine wpIn_ret ?_
                  refine then_r (block_r (then_r (then_r (block_r (then_r (then_r ?_))))))
                  rw [← hφ3] at hm
                  replace hm := done_b hm
                  unfold gameroomref_countRanks_2_K3 at hm
                  try dsimp only at hm
                  have hS := hS.pickN 2 [0] (by decide)
                  have hm : some out1 = some r := hm
                  obtain rfl := Option.some.inj hm
                  exact retV (rs := []) (vs := []) hF rfl (rv_nil) rfl ⟨_, rfl, rfl, hS⟩
                · replace hm := if_f hm hb
                  refine wpIn_skip ?_
                  refine then_n ?_
                  exact ⟨hF.weak [0, 2, 8, 10, 11, 12] (by kernel_rfl), hS, hm⟩
          · refine reg [] [] [0, 2, 8, 10, 11, 12, 56] [pl 0 (.slice A1 ranks1.length c1), pl 2 (.slice A2 out1.length c2), pl 8 (.slice A5 (Int.toNat 13) c5), pl 10 (.int .i64 ways1), pl 11 (.int .i64 unlike1), pl 12 (.int .i64 r3), pl 56 (.bool (decide (r3 < 13)))] hF hS Fol (by kernel_rfl) (by kernel_rfl) (by kernel_rfl) ?_ (fun a w hF hS => ?_)
            · exact obs_nil
            refine cond_ev (t := 56) (b := decide (r3 < 13)) hF (by kernel_rfl) (fun hb => ?_) (fun hb => ?_)
            · replace hm := if_t hm hb
              refine wpIn_skip ?_
              refine then_n ?_
              exact ⟨hF.weak [0, 2, 8, 10, 11, 12] (by kernel_rfl), hS, hm⟩
            · replace hm := if_f hm hb
              refine wpIn_exit ?_
              refine then_e (then_e (block_e (then_n ?_)))
              have hS := hS.pickN 2 [0] (by decide)
              rw [← hφ3] at hm
              replace hm := done_b hm
              unfold gameroomref_countRanks_2_K3 at hm
              try dsimp only at hm
              have hm : ((gameroomref_countRanks_2_J10 ranks1 out1) ways1 unlike1).bind some = some r := hm
              exact ⟨ways1, unlike1, hF.weak [0, 2, 10, 11] (by kernel_rfl), hS, hm⟩
      · refine reg [] [] [0, 2, 8, 9] [pl 0 (.slice A1 ranks1.length c1), pl 2 (.slice A2 out1.length c2), pl 8 (.slice A5 (Int.toNat 13) c5), pl 9 (.int .i64 0)] hF hS Fol (by kernel_rfl) (by kernel_rfl) (by kernel_rfl) ?_ (fun a w hF hS => ?_)
        · exact obs_nil
        refine wpIn_block ?_
        have hS := hS.pickN 2 [1, 0] (by decide)
        refine wp_loop_model (S := (List Int × Int)) (R := (List Int)) (gameroomref_countRanks_2_L2 ranks1) (fun x => ((gameroomref_countRanks_2_K2 ranks1 out1) x).bind some) r (fun (x : (List Int × Int)) a w => Fr 132 [pl 0 (.slice A1 ranks1.length c1), pl 2 (.slice A2 out1.length c2), pl 8 (.slice A5 (Int.toNat 13) c5), pl 9 (.int .i64 x.2)] a ∧ Sep w0 B w (own 3 (.slice A2 out1.length c2) (vI out1) :: own 3 (.slice A5 (Int.toNat 13) c5) (vI x.1) :: fs)) (assoc_b hm) ⟨hF.weak [0, 2, 8, 9] (by kernel_rfl), hS⟩ ?_
        clear hF hS hm
        rintro nn2 ⟨many1, i1⟩ a w ⟨hF, hS⟩ hm
        generalize hφ2 : stK (gameroomref_countRanks_2_L2 ranks1) nn2 (fun x => ((gameroomref_countRanks_2_K2 ranks1 out1) x).bind some) = φ2 at hm
        unfold gameroomref_countRanks_2_L2 at hm
        dsimp only at hF hS hm
        refine seq_cut (fun a w => Fr 132 [pl 0 (.slice A1 ranks1.length c1), pl 2 (.slice A2 out1.length c2), pl 8 (.slice A5 (Int.toNat 13) c5), pl 9 (.int .i64 i1)] a ∧ Sep w0 B w (own 3 (.slice A2 out1.length c2) (vI out1) :: own 3 (.slice A5 (Int.toNat 13) c5) (vI many1) :: fs) ∧ ((gameroomref_countRanks_2_J8 ranks1 many1 i1)).bind φ2 = some r) ?_ ?_
        · rintro a w ⟨hF, hS, hm⟩
          unfold gameroomref_countRanks_2_J8 at hm
          refine seq_cut (fun a w => Fr 132 [pl 0 (.slice A1 ranks1.length c1), pl 2 (.slice A2 out1.length c2), pl 8 (.slice A5 (Int.toNat 13) c5), pl 9 (.int .i64 i1)] a ∧ Sep w0 B w (own 3 (.slice A2 out1.length c2) (vI out1) :: own 3 (.slice A5 (Int.toNat 13) c5) (vI (many1.set (Int.toNat (geti ranks1 i1)) (w64 ((geti many1 (geti ranks1 i1)) + 1)))) :: fs) ∧ ((gameroomref_countRanks_2_J9 ranks1 many1 i1)).bind φ2 = some r) ?_ ?_
          · rintro a w ⟨hF, hS, hm⟩
            unfold gameroomref_countRanks_2_J9 at hm
            refine reg1 [] [] [0, 2, 8, 9] [pl 0 (.slice A1 ranks1.length c1), pl 2 (.slice A2 out1.length c2), pl 8 (.slice A5 (Int.toNat 13) c5), pl 9 (.int .i64 (w64 (i1 + 1)))] hF hS Fol (by kernel_rfl) (by kernel_rfl) (by kernel_rfl) ?_ (fun a w hF hS => ?_)
            · exact obs_nil
            refine then_n ?_
            rw [← hφ2] at hm
            exact ⟨((many1.set (Int.toNat (geti ranks1 i1)) (w64 ((geti many1 (geti ranks1 i1)) + 1))), (w64 (i1 + 1))), ⟨hF.weak [0, 2, 8, 9] (by kernel_rfl), hS⟩, hm⟩
          · refine wpIn_block ?_
            refine oneR ?_
            obtain ⟨hp5, hm⟩ := asrt_b hm
            obtain ⟨hp6, hm⟩ := asrt_b hm
            obtain ⟨hp7, hm⟩ := asrt_b hm
            refine at_run 9 [⟨true, [], vS (Instr.indexAt 22 (.slice A1 ranks1.length c1) (.int .i64 i1)), .pointer (some (sAddr A1 i1))⟩, ⟨false, [], vS (Instr.loadAt 3 (.pointer (some (sAddr A1 i1)))), .int .i64 (geti ranks1 i1)⟩, ⟨true, [], vS (Instr.indexAt 22 (.slice A5 (Int.toNat 13) c5) (.int .i64 (geti ranks1 i1))), .pointer (some (sAddr A5 (geti ranks1 i1)))⟩, ⟨false, [], vS (Instr.loadAt 3 (.pointer (some (sAddr A5 (geti ranks1 i1))))), .int .i64 (geti many1 (geti ranks1 i1))⟩, ⟨true, [], vS (Instr.indexAt 22 (.slice A5 (Int.toNat 13) c5) (.int .i64 (geti ranks1 i1))), .pointer (some (sAddr A5 (geti ranks1 i1)))⟩] [none, none, none, some (.pointer (some (sAddr A1 i1))), some (.int .i64 (geti ranks1 i1)), some (.pointer (some (sAddr A5 (geti ranks1 i1)))), some (.int .i64 (geti many1 (geti ranks1 i1))), none, some (.pointer (some (sAddr A5 (geti ranks1 i1))))] [0, 2, 8, 9, 53, 54] [pl 0 (.slice A1 ranks1.length c1), pl 2 (.slice A2 out1.length c2), pl 8 (.slice A5 (Int.toNat 13) c5), pl 9 (.int .i64 i1), pl 53 (.int .i64 (w64 ((geti many1 (geti ranks1 i1)) + 1))), pl 54 (.pointer (some (sAddr A5 (geti ranks1 i1))))] hF hS (by kernel_rfl) (by kernel_rfl) ?_ (fun a w hF hS => ?_)
            · exact obs_cons (ob_ix1 (f := (Value.int .i64)) (m := ranks1) Und22 hi3 hs3 (hr_ranks1 _ (hS.dropN 2)) rfl (fun _ => hp5)) <| obs_cons (ob_get1 (n := ranks1.length) (m := ranks1) (Value.int .i64) (0 : Int) Agg3 (fun _ hS => ⟨_, (hr_ranks1 _ (hS.dropN 2))⟩) (fun _ hS => rfl) (fun _ => hp5)) <| obs_cons (ob_ix1 (f := (Value.int .i64)) (m := many1) Und22 hi3 hs3 (hS.at_ 1 rfl).rd ((hS.at_ 1 rfl).len1) (fun _ => hp6)) <| obs_cons (ob_get1 (n := (Int.toNat 13)) (m := many1) (Value.int .i64) (0 : Int) Agg3 (fun _ hS => ⟨_, (hS.at_ 1 rfl).rd⟩) (fun _ hS => ((hS.at_ 1 rfl).len1)) (fun _ => hp6)) <| obs_cons (ob_ix1 (f := (Value.int .i64)) (m := many1) Und22 hi3 hs3 (hS.at_ 1 rfl).rd ((hS.at_ 1 rfl).len1) (fun _ => hp7)) <| obs_nil
            obtain ⟨w, hrun, hS⟩ := run_set1 (P := Try.prog) (t := 3) (x := (w64 ((geti many1 (geti ranks1 i1)) + 1))) (Value.int .i64) (hS.at_ 1 rfl) hi3 hs3 rfl rfl hp7
            refine at_skip hF (by kernel_rfl) hrun ?_
            have hS : Sep w0 B w (own 3 (.slice A2 out1.length c2) (vI out1) :: own 3 (.slice A5 (Int.toNat 13) c5) (vI (many1.set (Int.toNat (geti ranks1 i1)) (w64 ((geti many1 (geti ranks1 i1)) + 1)))) :: fs) := hS
            refine at_end [0, 2, 8, 9] [pl 0 (.slice A1 ranks1.length c1), pl 2 (.slice A2 out1.length c2), pl 8 (.slice A5 (Int.toNat 13) c5), pl 9 (.int .i64 i1)] hF rfl (by kernel_rfl) (fun hF => ?_)
            refine block_n ?_
            refine then_n ?_
            exact ⟨hF.weak [0, 2, 8, 9] (by kernel_rfl), hS, hm⟩
        · refine reg [] [] [0, 2, 8, 9, 43] [pl 0 (.slice A1 ranks1.length c1), pl 2 (.slice A2 out1.length c2), pl 8 (.slice A5 (Int.toNat 13) c5), pl 9 (.int .i64 i1), pl 43 (.bool (decide (i1 < 5)))] hF hS Fol (by kernel_rfl) (by kernel_rfl) (by kernel_rfl) ?_ (fun a w hF hS => ?_)
          · exact obs_nil
          refine cond_ev (t := 43) (b := decide (i1 < 5)) hF (by kernel_rfl) (fun hb => ?_) (fun hb => ?_)
          · replace hm := if_t hm hb
            refine wpIn_skip ?_
            refine then_n ?_
            exact ⟨hF.weak [0, 2, 8, 9] (by kernel_rfl), hS, hm⟩
          · replace hm := if_f hm hb
            refine wpIn_exit ?_
            refine then_e (then_e (block_e (then_n ?_)))
            rw [← hφ2] at hm
            replace hm := done_b hm
            unfold gameroomref_countRanks_2_K2 at hm
            try dsimp only at hm
            have hm : ((gameroomref_countRanks_2_J7 ranks1 out1) many1).bind some = some r := hm
            exact ⟨many1, hF.weak [0, 2, 8] (by kernel_rfl), hS, hm⟩
    · refine reg [] [] [0, 1, 2, 18] [pl 0 (.slice A1 ranks1.length c1), pl 1 (.int .i64 at1), pl 2 (.slice A2 out1.length c2), pl 18 (.bool (decide ((ranks1.length : Int) < 5)))] hF hS Fol (by kernel_rfl) (by kernel_rfl) (by kernel_rfl) ?_ (fun a w hF hS => ?_)
      · exact obs_nil
      refine cond_ev (t := 18) (b := decide ((ranks1.length : Int) < 5)) hF (by kernel_rfl) (fun hb => ?_) (fun hb => ?_)
      · replace hm := if_t hm hb
        refine reg [] [] [0, 1, 2, 6] [pl 0 (.slice A1 ranks1.length c1), pl 1 (.int .i64 at1), pl 2 (.slice A2 out1.length c2), pl 6 (.int .i64 12)] hF hS Fol (by kernel_rfl) (by kernel_rfl) (by kernel_rfl) ?_ (fun a w hF hS => ?_)
        · exact obs_nil
        refine seq_cut (fun a w => ∃ (high1 : Int), Fr 132 [pl 0 (.slice A1 ranks1.length c1), pl 1 (.int .i64 at1), pl 2 (.slice A2 out1.length c2), pl 6 (.int .i64 high1)] a ∧ Sep w0 B w (own 3 (.slice A2 out1.length c2) (vI out1) :: fs) ∧ ((gameroomref_countRanks_2_J3 rec_gameroomref_countRanks_2 ranks1 at1 out1) high1).bind some = some r) ?_ ?_
        · rintro a w ⟨high1, hF, hS, hm⟩
          unfold gameroomref_countRanks_2_J3 at hm
          refine seq_cut (fun a w => ∃ (out4 : List Int), Fr 132 [] a ∧ Sep w0 B w (own 3 (.slice A2 out1.length c2) (vI out4) :: fs) ∧ (gameroomref_countRanks_2_J4 out4).bind some = some r) ?_ ?_
          · rintro a w ⟨out4, hF, hS, hm⟩
            unfold gameroomref_countRanks_2_J4 at hm
            refine wpIn_ret ?_
            refine then_r (then_r ?_)
            have hm : some out4 = some r := hm
            obtain rfl := Option.some.inj hm
            exact retV (rs := []) (vs := []) hF rfl (rv_nil) rfl ⟨_, rfl, rfl, hS⟩
          · refine reg [] [] [0, 1, 2, 7] [pl 0 (.slice A1 ranks1.length c1), pl 1 (.int .i64 at1), pl 2 (.slice A2 out1.length c2), pl 7 (.int .i64 high1)] hF hS Fol (by kernel_rfl) (by kernel_rfl) (by kernel_rfl) ?_ (fun a w hF hS => ?_)
            · exact obs_nil
            refine wpIn_block ?_
            refine wp_loop_model (S := (List Int × Int)) (R := (List Int)) (gameroomref_countRanks_2_L1 rec_gameroomref_countRanks_2 ranks1 at1) (fun x => (gameroomref_countRanks_2_K1 x).bind some) r (fun (x : (List Int × Int)) a w => Fr 132 [pl 0 (.slice A1 ranks1.length c1), pl 1 (.int .i64 at1), pl 2 (.slice A2 out1.length c2), pl 7 (.int .i64 x.2)] a ∧ Sep w0 B w (own 3 (.slice A2 out1.length c2) (vI x.1) :: fs)) (assoc_b hm) ⟨hF.weak [0, 1, 2, 7] (by kernel_rfl), hS⟩ ?_
            clear hF hS hm
            rintro nn1 ⟨out3, r1⟩ a w ⟨hF, hS⟩ hm
            generalize hφ1 : stK (gameroomref_countRanks_2_L1 rec_gameroomref_countRanks_2 ranks1 at1) nn1 (fun x => (gameroomref_countRanks_2_K1 x).bind some) = φ1 at hm
            unfold gameroomref_countRanks_2_L1 at hm
            dsimp only at hF hS hm
            refine seq_cut (fun a w => Fr 132 [pl 0 (.slice A1 ranks1.length c1), pl 1 (.int .i64 at1), pl 2 (.slice A2 out1.length c2), pl 7 (.int .i64 r1)] a ∧ Sep w0 B w (own 3 (.slice A2 out1.length c2) (vI out3) :: fs) ∧ ((gameroomref_countRanks_2_J5 rec_gameroomref_countRanks_2 ranks1 at1 out3 r1)).bind φ1 = some r) ?_ ?_
            · rintro a w ⟨hF, hS, hm⟩
              unfold gameroomref_countRanks_2_J5 at hm
              refine seq_cut (fun a w => ∃ (out5 : List Int), Fr 132 [pl 0 (.slice A1 ranks1.length c1), pl 1 (.int .i64 at1), pl 2 (.slice A2 out1.length c2), pl 7 (.int .i64 r1)] a ∧ Sep w0 B w (own 3 (.slice A2 out1.length c2) (vI out5) :: fs) ∧ ((gameroomref_countRanks_2_J6 r1) out5).bind φ1 = some r) ?_ ?_
              · rintro a w ⟨out5, hF, hS, hm⟩
                unfold gameroomref_countRanks_2_J6 at hm
                refine reg1 [] [] [0, 1, 2, 7] [pl 0 (.slice A1 ranks1.length c1), pl 1 (.int .i64 at1), pl 2 (.slice A2 out1.length c2), pl 7 (.int .i64 (w64 (r1 - 1)))] hF hS Fol (by kernel_rfl) (by kernel_rfl) (by kernel_rfl) ?_ (fun a w hF hS => ?_)
                · exact obs_nil
                refine then_n ?_
                rw [← hφ1] at hm
                exact ⟨(out5, (w64 (r1 - 1))), ⟨hF.weak [0, 1, 2, 7] (by kernel_rfl), hS⟩, hm⟩
              · refine wpIn_block ?_
                refine oneR ?_
                obtain ⟨hp2, hm⟩ := asrt_b hm
                obtain ⟨hp3, hm⟩ := asrt_b hm
                obtain ⟨r2, hr1, hm⟩ := call_b hm
                refine at_run 1 [] [] [0, 1, 2, 7, 33] [pl 0 (.slice A1 ranks1.length c1), pl 1 (.int .i64 at1), pl 2 (.slice A2 out1.length c2), pl 7 (.int .i64 r1), pl 33 (.slice A1 ranks1.length c1)] hF hS (by kernel_rfl) (by kernel_rfl) ?_ (fun a w hF hS => ?_)
                · exact obs_nil
                have hS : Sep w0 B w (own 3 (.slice none 0 0) (vI ([] : List Int)) :: own 3 (.slice A2 out1.length c2) (vI out3) :: fs) := hS.nil 3
                obtain ⟨A3, c3, w, hrun, hS⟩ := run_app1 (P := Try.prog) (t := 22) (m := ([] : List Int)) (ys := ranks1) (A2 := A1) (m2 := ranks1.length) (c2 := c1) (Value.int .i64) (0 : Int) (hS.at_ 0 rfl) (hr_ranks1 _ (hS.dropN 2)) rfl 22 Und22 hi3 hz3 hs3 (by omega) rfl (fun _ => rfl) hp2
                have hS : Sep w0 B w (own 3 (.slice A3 (([] ++ ranks1).length) c3) (vI ([] ++ ranks1)) :: own 3 (.slice A2 out1.length c2) (vI out3) :: fs) := hS
                refine at_do (d := 34) hF (by kernel_rfl) (by kernel_rfl) hrun (fun a hF => ?_)
                refine at_run 1 [] [] [0, 1, 2, 7, 34, 35] [pl 0 (.slice A1 ranks1.length c1), pl 1 (.int .i64 at1), pl 2 (.slice A2 out1.length c2), pl 7 (.int .i64 r1), pl 34 (.slice A3 (([] ++ ranks1).length) c3), pl 35 (.int .i64 r1)] hF hS (by kernel_rfl) (by kernel_rfl) ?_ (fun a w hF hS => ?_)
                · exact obs_nil
                refine at_do (d := 36) (s := vS (Instr.buildSlice 22 1 #[(0, .int .i64 r1)])) (v := .slice (some ⟨w.heap.size, 0, none⟩) 1 1) (w' := w.alloc (.cells #[.int .i64 r1] 3)) hF (by kernel_rfl) (by kernel_rfl) (by kernel_rfl) (fun a hF => ?_)
                have hS : Sep w0 B (w.alloc (.cells #[.int .i64 r1] 3)) (own 3 (.slice (some (⟨w.heap.size, 0, none⟩ : Addr)) 1 1) (vI ([r1] : List Int)) :: (own 3 (.slice A3 (([] ++ ranks1).length) c3) (vI ([] ++ ranks1)) :: own 3 (.slice A2 out1.length c2) (vI out3) :: fs)) := hS.lit 3 #[.int .i64 r1] 1 rfl (by omega)
                generalize (some (⟨w.heap.size, 0, none⟩ : Addr)) = g1 at hF hS
                generalize w.alloc (.cells #[.int .i64 r1] 3) = w at hS ⊢
                obtain ⟨A4, c4, w, hrun, hS⟩ := run_app1 (P := Try.prog) (t := 22) (m := ([] ++ ranks1)) (ys := ([r1] : List Int)) (A2 := g1) (m2 := 1) (c2 := 1) (Value.int .i64) (0 : Int) (hS.at_ 1 rfl) (hS.at_ 0 rfl).rd ((hS.at_ 0 rfl).len1) 22 Und22 hi3 hz3 hs3 (by omega) rfl (fun _ => rfl) hp3
                have hS : Sep w0 B w (own 3 (.slice g1 1 1) (vI ([r1] : List Int)) :: own 3 (.slice A4 ((([] ++ ranks1) ++ ([r1] : List Int)).length) c4) (vI (([] ++ ranks1) ++ ([r1] : List Int))) :: own 3 (.slice A2 out1.length c2) (vI out3) :: fs) := hS
                refine at_do (d := 37) hF (by kernel_rfl) (by kernel_rfl) hrun (fun a hF => ?_)
                refine at_run 2 [] [] [0, 1, 2, 7, 37, 38, 39] [pl 0 (.slice A1 ranks1.length c1), pl 1 (.int .i64 at1), pl 2 (.slice A2 out1.length c2), pl 7 (.int .i64 r1), pl 37 (.slice A4 ((([] ++ ranks1) ++ ([r1] : List Int)).length) c4), pl 38 (.int .i64 at1), pl 39 (.slice A2 out1.length c2)] hF hS (by kernel_rfl) (by kernel_rfl) ?_ (fun a w hF hS => ?_)
                · exact obs_nil
                have hS : Sep w0 B w (own 3 (.slice A2 out1.length c2) (vI out3) :: own 3 (.slice g1 1 1) (vI ([r1] : List Int)) :: own 3 (.slice A4 ((([] ++ ranks1) ++ ([r1] : List Int)).length) c4) (vI (([] ++ ranks1) ++ ([r1] : List Int))) :: fs) := hS.pickN 3 [2, 0, 1] (by decide)
                refine at_call (f := 56) (args := #[.slice A4 ((([] ++ ranks1) ++ ([r1] : List Int)).length) c4, .int .i64 at1, .slice A2 out1.length c2]) (d := 40) hF (by kernel_rfl) (by kernel_rfl) Try.func56 (by kernel_rfl) rfl (ih_gameroomref_countRanks_2 hr1 hS (fun _ hS => (hS.at_ 1 rfl).rd) (((hS.dropN 1).at_ 1 rfl).cap1) rfl) (fun v a w hR hF => ?_)
                clear hS
                obtain ⟨rfl, hS⟩ := hR
                have hS : Sep w0 B w (own 3 (.slice A2 out1.length c2) (vI r2) :: own 3 (.slice g1 1 1) (vI ([r1] : List Int)) :: own 3 (.slice A4 ((([] ++ ranks1) ++ ([r1] : List Int)).length) c4) (vI (([] ++ ranks1) ++ ([r1] : List Int))) :: fs) := hS
                refine at_end [0, 1, 2, 7] [pl 0 (.slice A1 ranks1.length c1), pl 1 (.int .i64 at1), pl 2 (.slice A2 out1.length c2), pl 7 (.int .i64 r1)] hF rfl (by kernel_rfl) (fun hF => ?_)
                refine block_n ?_
                refine then_n ?_
                have hS := hS.pickN 3 [0] (by decide)
                exact ⟨r2, hF.weak [0, 1, 2, 7] (by kernel_rfl), hS, hm⟩
            · refine reg [] [] [0, 1, 2, 7, 30] [pl 0 (.slice A1 ranks1.length c1), pl 1 (.int .i64 at1), pl 2 (.slice A2 out1.length c2), pl 7 (.int .i64 r1), pl 30 (.bool (decide ((0 : Int) ≤ r1)))] hF hS Fol (by kernel_rfl) (by kernel_rfl) (by kernel_rfl) ?_ (fun a w hF hS => ?_)
              · exact obs_nil
              refine cond_ev (t := 30) (b := decide ((0 : Int) ≤ r1)) hF (by kernel_rfl) (fun hb => ?_) (fun hb => ?_)
              · replace hm := if_t hm hb
                refine wpIn_skip ?_
                refine then_n ?_
                exact ⟨hF.weak [0, 1, 2, 7] (by kernel_rfl), hS, hm⟩
              · replace hm := if_f hm hb
                refine wpIn_exit ?_
                refine then_e (then_e (block_e (then_n ?_)))
                rw [← hφ1] at hm
                replace hm := done_b hm
                unfold gameroomref_countRanks_2_K1 at hm
                try dsimp only at hm
                have hm : (gameroomref_countRanks_2_J4 out3).bind some = some r := hm
                exact ⟨out3, hF.weak [] (by kernel_rfl), hS, hm⟩
        · refine reg [] [] [0, 1, 2, 6, 21] [pl 0 (.slice A1 ranks1.length c1), pl 1 (.int .i64 at1), pl 2 (.slice A2 out1.length c2), pl 6 (.int .i64 12), pl 21 (.bool (decide ((0 : Int) < (ranks1.length : Int))))] hF hS Fol (by kernel_rfl) (by kernel_rfl) (by kernel_rfl) ?_ (fun a w hF hS => ?_)
          · exact obs_nil
          refine cond_ev (t := 21) (b := decide ((0 : Int) < (ranks1.length : Int))) hF (by kernel_rfl) (fun hb => ?_) (fun hb => ?_)
          · replace hm := if_t hm hb
            obtain ⟨hp1, hm⟩ := asrt_b hm
            refine reg1 [⟨true, [], vS (Instr.indexAt 22 (.slice A1 ranks1.length c1) (.int .i64 (w64 ((ranks1.length : Int) - 1)))), .pointer (some (sAddr A1 (w64 ((ranks1.length : Int) - 1))))⟩, ⟨false, [], vS (Instr.loadAt 3 (.pointer (some (sAddr A1 (w64 ((ranks1.length : Int) - 1)))))), .int .i64 (geti ranks1 (w64 ((ranks1.length : Int) - 1)))⟩] [none, none, none, none, some (.pointer (some (sAddr A1 (w64 ((ranks1.length : Int) - 1))))), some (.int .i64 (geti ranks1 (w64 ((ranks1.length : Int) - 1)))), none] [0, 1, 2, 6] [pl 0 (.slice A1 ranks1.length c1), pl 1 (.int .i64 at1), pl 2 (.slice A2 out1.length c2), pl 6 (.int .i64 (geti ranks1 (w64 ((ranks1.length : Int) - 1))))] hF hS Fol (by kernel_rfl) (by kernel_rfl) (by kernel_rfl) ?_ (fun a w hF hS => ?_)
            · exact obs_cons (ob_ix1 (f := (Value.int .i64)) (m := ranks1) Und22 hi3 hs3 (hr_ranks1 _ (hS.dropN 1)) rfl (fun _ => hp1)) <| obs_cons (ob_get1 (n := ranks1.length) (m := ranks1) (Value.int .i64) (0 : Int) Agg3 (fun _ hS => ⟨_, (hr_ranks1 _ (hS.dropN 1))⟩) (fun _ hS => rfl) (fun _ => hp1)) <| obs_nil
            refine then_n ?_
            exact ⟨(geti ranks1 (w64 ((ranks1.length : Int) - 1))), hF.weak [0, 1, 2, 6] (by kernel_rfl), hS, hm⟩
          · replace hm := if_f hm hb
            refine wpIn_skip ?_
            refine then_n ?_
            exact ⟨12, hF.weak [0, 1, 2, 6] (by kernel_rfl), hS, hm⟩
      · replace hm := if_f hm hb
        refine wpIn_skip ?_
        refine then_n ?_
        exact ⟨hF.weak [0, 2] (by kernel_rfl), hS, hm⟩

theorem gameroomref_countRanks_2_w {A1 : Option Addr} {c1 : Nat} {n1 : Nat} {ranks1 : List Int} {at1 : Int} {A2 : Option Addr} {c2 : Nat} {n2 : Nat} {out1 : List Int} {r : (List Int)} {w0 w : World} {B : Nat} {fs : List HP} (hm : gameroomref_countRanks_2_m ranks1 at1 out1 = some r) (hS : Sep w0 B w (own 3 (.slice A2 n2 c2) (vI out1) :: fs)) (hr_ranks1 : RdF w0 B fs A1 (vI ranks1)) (_hc_ranks1 : ranks1.length ≤ c1) (_hn_ranks1 : n1 = ranks1.length) :
    Calls Try.prog 56 #[.slice A1 n1 c1, .int .i64 at1, .slice A2 n2 c2] w fun e w' => ∃ v, e = .returned v ∧ v = .tuple #[] ∧ Sep w0 B w' (own 3 (.slice A2 n2 c2) (vI r) :: fs) := by
  have key : ∀ (n : Nat) {A1 : Option Addr} {c1 : Nat} {n1 : Nat} {ranks1 : List Int} {at1 : Int} {A2 : Option Addr} {c2 : Nat} {n2 : Nat} {out1 : List Int} {r : (List Int)} {w0 w : World} {B : Nat} {fs : List HP} (_ : gameroomref_countRanks_2_mF n ranks1 at1 out1 = some r) (_ : Sep w0 B w (own 3 (.slice A2 n2 c2) (vI out1) :: fs)) (hr_ranks1 : RdF w0 B fs A1 (vI ranks1)) (_hc_ranks1 : ranks1.length ≤ c1) (_hn_ranks1 : n1 = ranks1.length), Calls Try.prog 56 #[.slice A1 n1 c1, .int .i64 at1, .slice A2 n2 c2] w fun e w' => ∃ v, e = .returned v ∧ v = .tuple #[] ∧ Sep w0 B w' (own 3 (.slice A2 n2 c2) (vI r) :: fs) := by
    intro n
    induction n with
    | zero => intros; rename_i hm0 _ _ _ _; cases hm0
    | succ n ih => intros; rename_i hm0 hS0 h0 h1 h2; exact gameroomref_countRanks_2_wB (rec_gameroomref_countRanks_2 := gameroomref_countRanks_2_mF n) (fun hm hS h0 h1 h2 => ih hm hS h0 h1 h2) hm0 hS0 h0 h1 h2
  obtain ⟨n, hn⟩ := recM_some hm
  exact key n hn hS hr_ranks1 _hc_ranks1 _hn_ranks1

set_option maxRecDepth 100000 in
theorem gameroomref_countRanks_2_J5_le_gameroomref_countRanks_2 {rec_gameroomref_countRanks_21 rec_gameroomref_countRanks_22 : List Int → Int → List Int → Option (List Int)} (h_rec_gameroomref_countRanks_2 : ∀ a0 a1 a2, Le (rec_gameroomref_countRanks_21 a0 a1 a2) (rec_gameroomref_countRanks_22 a0 a1 a2)) (ranks1 : List Int) (at1 : Int) (out3 : List Int) (r1 : Int) : Le (gameroomref_countRanks_2_J5 rec_gameroomref_countRanks_21 ranks1 at1 out3 r1) (gameroomref_countRanks_2_J5 rec_gameroomref_countRanks_22 ranks1 at1 out3 r1) := by
  unfold gameroomref_countRanks_2_J5
  repeat' (first | with_reducible exact Le.refl _ | with_reducible exact h_rec_gameroomref_countRanks_2 _ _ _ | with_reducible refine Le.asrt ?_ | with_reducible refine Le.ite ?_ ?_ | refine Le.bind ?_ (fun _ => ?_) | refine Le.loop2 (fun _ => ?_) | refine Le.elim2 (fun _ => ?_) (fun _ => ?_))

set_option maxRecDepth 100000 in
theorem gameroomref_countRanks_2_L1_le_gameroomref_countRanks_2 {rec_gameroomref_countRanks_21 rec_gameroomref_countRanks_22 : List Int → Int → List Int → Option (List Int)} (h_rec_gameroomref_countRanks_2 : ∀ a0 a1 a2, Le (rec_gameroomref_countRanks_21 a0 a1 a2) (rec_gameroomref_countRanks_22 a0 a1 a2)) (ranks1 : List Int) (at1 : Int) (x : (List Int × Int)) : Le (gameroomref_countRanks_2_L1 rec_gameroomref_countRanks_21 ranks1 at1 x) (gameroomref_countRanks_2_L1 rec_gameroomref_countRanks_22 ranks1 at1 x) := by
  rcases x with ⟨out3, r1⟩
  all_goals
    unfold gameroomref_countRanks_2_L1
    try dsimp only
    repeat' (first | with_reducible exact Le.refl _ | with_reducible exact h_rec_gameroomref_countRanks_2 _ _ _ | with_reducible exact gameroomref_countRanks_2_J5_le_gameroomref_countRanks_2 h_rec_gameroomref_countRanks_2 _ _ _ _ | with_reducible refine Le.asrt ?_ | with_reducible refine Le.ite ?_ ?_ | refine Le.bind ?_ (fun _ => ?_) | refine Le.loop2 (fun _ => ?_) | refine Le.elim2 (fun _ => ?_) (fun _ => ?_))

set_option maxRecDepth 100000 in
theorem gameroomref_countRanks_2_J3_le_gameroomref_countRanks_2 {rec_gameroomref_countRanks_21 rec_gameroomref_countRanks_22 : List Int → Int → List Int → Option (List Int)} (h_rec_gameroomref_countRanks_2 : ∀ a0 a1 a2, Le (rec_gameroomref_countRanks_21 a0 a1 a2) (rec_gameroomref_countRanks_22 a0 a1 a2)) (ranks1 : List Int) (at1 : Int) (out1 : List Int) (high1 : Int) : Le (gameroomref_countRanks_2_J3 rec_gameroomref_countRanks_21 ranks1 at1 out1 high1) (gameroomref_countRanks_2_J3 rec_gameroomref_countRanks_22 ranks1 at1 out1 high1) := by
  unfold gameroomref_countRanks_2_J3
  repeat' (first | with_reducible exact Le.refl _ | with_reducible exact h_rec_gameroomref_countRanks_2 _ _ _ | with_reducible exact gameroomref_countRanks_2_L1_le_gameroomref_countRanks_2 h_rec_gameroomref_countRanks_2 _ _ _ | with_reducible refine Le.asrt ?_ | with_reducible refine Le.ite ?_ ?_ | refine Le.bind ?_ (fun _ => ?_) | refine Le.loop2 (fun _ => ?_) | refine Le.elim2 (fun _ => ?_) (fun _ => ?_))

set_option maxRecDepth 100000 in
theorem gameroomref_countRanks_2_B_le {rec_gameroomref_countRanks_21 rec_gameroomref_countRanks_22 : List Int → Int → List Int → Option (List Int)} (h_rec_gameroomref_countRanks_2 : ∀ a0 a1 a2, Le (rec_gameroomref_countRanks_21 a0 a1 a2) (rec_gameroomref_countRanks_22 a0 a1 a2)) (ranks1 : List Int) (at1 : Int) (out1 : List Int) : Le (gameroomref_countRanks_2_B rec_gameroomref_countRanks_21 ranks1 at1 out1) (gameroomref_countRanks_2_B rec_gameroomref_countRanks_22 ranks1 at1 out1) := by
  unfold gameroomref_countRanks_2_B
  repeat' (first | with_reducible exact Le.refl _ | with_reducible exact h_rec_gameroomref_countRanks_2 _ _ _ | with_reducible exact gameroomref_countRanks_2_J3_le_gameroomref_countRanks_2 h_rec_gameroomref_countRanks_2 _ _ _ _ | with_reducible refine Le.asrt ?_ | with_reducible refine Le.ite ?_ ?_ | refine Le.bind ?_ (fun _ => ?_) | refine Le.loop2 (fun _ => ?_) | refine Le.elim2 (fun _ => ?_) (fun _ => ?_))

set_option maxRecDepth 100000 in
theorem gameroomref_countRanks_2_mF_le : ∀ (n : Nat) (ranks1 : List Int) (at1 : Int) (out1 : List Int), Le (gameroomref_countRanks_2_mF n ranks1 at1 out1) (gameroomref_countRanks_2_mF (n + 1) ranks1 at1 out1)
  | 0, _, _, _ => fun _ h => by cases h
  | n + 1, _, _, _ => gameroomref_countRanks_2_B_le (fun a0 a1 a2 => gameroomref_countRanks_2_mF_le n a0 a1 a2) _ _ _

set_option maxRecDepth 100000 in
theorem gameroomref_countRanks_2_m_of (N : Nat) (ranks1 : List Int) (at1 : Int) (out1 : List Int) {r : (List Int)} (h : gameroomref_countRanks_2_mF N ranks1 at1 out1 = some r) : gameroomref_countRanks_2_m ranks1 at1 out1 = some r :=
  recM_mono (fun n => gameroomref_countRanks_2_mF_le n _ _ _) h

noncomputable def gameroomref_ClassCounts_m  : Option (List Int) :=
  asrt ((0 : Int) ≤ 9 ∧ 9 ≤ bigN) <| (gameroomref_countRanks_2_m ([] : List Int) 0 (List.replicate (Int.toNat 9) (0 : Int))).bind fun r1 => some r1

set_option maxRecDepth 100000 in
set_option maxHeartbeats 4000000 in
theorem gameroomref_ClassCounts_w  {r : (List Int)} {w0 w : World} {B : Nat} {fs : List HP} (hm : gameroomref_ClassCounts_m = some r) (hS : Sep w0 B w (fs)) :
    Calls Try.prog 19 #[] w fun e w' => ∃ v, e = .returned v ∧ ∃ (A2 : Option Addr) (c2 : Nat), v = .slice A2 r.length c2 ∧ Sep w0 B w' (own 3 (.slice A2 r.length c2) (vI r) :: fs) := by
  obtain ⟨i3, hi3, hz3, hs3, hb3⟩ := info_parts Info3
  unfold gameroomref_ClassCounts_m at hm
  replace hm := start_b hm
  refine enter (l := []) (n := 6) Try.func19 rfl rfl (by simp) (fun a hF => ?_)
  refine reg [] [] [] [] hF hS Fol (by kernel_rfl) (by kernel_rfl) (by kernel_rfl) ?_ (fun a w hF hS => ?_)
  · exact obs_nil
  refine seqR ?_
  obtain ⟨hp1, hm⟩ := asrt_b hm
  obtain ⟨A1, c1, w, hrun, hS⟩ := run_mk1 (P := Try.prog) (t := 22) (Value.int .i64) (0 : Int) hS .i64 .i64 Und22 hi3 hz3 hs3 (by omega) rfl hp1
  have hS : Sep w0 B w (own 3 (.slice A1 (Int.toNat 9) c1) (vI (List.replicate (Int.toNat 9) (0 : Int))) :: fs) := hS
  refine at_do (d := 2) hF (by kernel_rfl) (by kernel_rfl) hrun (fun a hF => ?_)
  refine at_run 1 [] [] [1] [pl 1 (.slice A1 (Int.toNat 9) c1)] hF hS (by kernel_rfl) (by kernel_rfl) ?_ (fun a w hF hS => ?_)
  · exact obs_nil
  refine at_end [1] [pl 1 (.slice A1 (Int.toNat 9) c1)] hF rfl (by kernel_rfl) (fun hF => ?_)
  refine then_n ?_
  refine seqR ?_
  obtain ⟨r1, hr1, hm⟩ := call_b hm
  refine at_run 1 [] [] [1, 3] [pl 1 (.slice A1 (Int.toNat 9) c1), pl 3 (.slice A1 (Int.toNat 9) c1)] hF hS (by kernel_rfl) (by kernel_rfl) ?_ (fun a w hF hS => ?_)
  · exact obs_nil
  refine at_call (f := 56) (args := #[.slice none 0 0, .int .i64 0, .slice A1 (Int.toNat 9) c1]) (d := 4) hF (by kernel_rfl) (by kernel_rfl) Try.func56 (by kernel_rfl) rfl (gameroomref_countRanks_2_w hr1 hS (fun _ hS => Rd.nil _ _ _) (Nat.le_refl _) rfl) (fun v a w hR hF => ?_)
  clear hS
  obtain ⟨rfl, hS⟩ := hR
  have hS : Sep w0 B w (own 3 (.slice A1 (Int.toNat 9) c1) (vI r1) :: fs) := hS
  refine at_end [1] [pl 1 (.slice A1 (Int.toNat 9) c1)] hF rfl (by kernel_rfl) (fun hF => ?_)
  refine then_n ?_
  refine reg [] [] [0] [pl 0 (.slice A1 (Int.toNat 9) c1)] hF hS Fol (by kernel_rfl) (by kernel_rfl) (by kernel_rfl) ?_ (fun a w hF hS => ?_)
  · exact obs_nil
  refine wpIn_ret ?_
  have hl1 := (hS.at_ 0 rfl).len1
  have hS := (hS.at_ 0 rfl).reN hl1
  have hS : Sep w0 B w (own 3 (.slice A1 r1.length c1) (vI r1) :: fs) := hS
  have hF := hF.cast (t := 0) (v := .slice A1 (Int.toNat 9) c1) (v' := .slice A1 r1.length c1) rfl rfl (congrArg (fun k => Value.slice A1 k c1) hl1)
  have hm : some r1 = some r := hm
  obtain rfl := Option.some.inj hm
  exact retV (rs := [.tmp 0]) (vs := [.slice A1 r1.length c1]) hF rfl (rv_t (by kernel_rfl) <| rv_nil) rfl ⟨_, rfl, A1, c1, rfl, hS⟩

noncomputable def gameroomlaw_PokerCounts_J2  (z1 : Bool) : Option Bool :=
  some z1

noncomputable def gameroomlaw_PokerCounts_J1  (class1 : Int) : Option Bool :=
  (poker_Counts_m).bind fun r1 => asrt (0 ≤ class1 ∧ class1 < 9) <| (gameroomref_ClassCounts_m).bind fun r2 => asrt (0 ≤ class1 ∧ class1 < (r2.length : Int)) <| gameroomlaw_PokerCounts_J2 ((geti r1 class1) == (geti r2 class1))

noncomputable def gameroomlaw_PokerCounts_m  (class1 : Int) : Option Bool :=
  if ((decide (class1 < 0)) || (decide ((8 : Int) < class1))) then (some true) else ((gameroomlaw_PokerCounts_J1 class1))

set_option maxRecDepth 100000 in
set_option maxHeartbeats 4000000 in
theorem gameroomlaw_PokerCounts_w {class1 : Int} {r : Bool} {w0 w : World} {B : Nat} {fs : List HP} (hm : gameroomlaw_PokerCounts_m class1 = some r) (hS : Sep w0 B w (fs)) :
    Calls Try.prog 4 #[.int .i64 class1] w fun e w' => e = .returned (.bool r) ∧ Sep w0 B w' (fs) := by
  obtain ⟨i3, hi3, hz3, hs3, hb3⟩ := info_parts Info3
  unfold gameroomlaw_PokerCounts_m at hm
  replace hm := start_b hm
  refine enter (l := [.int .i64 class1]) (n := 19) Try.func4 rfl rfl (by simp) (fun a hF => ?_)
  refine reg [] [] [0] [pl 0 (.int .i64 class1)] hF hS Fol (by kernel_rfl) (by kernel_rfl) (by kernel_rfl) ?_ (fun a w hF hS => ?_)
  · exact obs_nil
  refine seq_cut (fun a w => Fr 19 [pl 0 (.int .i64 class1)] a ∧ Sep w0 B w (fs) ∧ ((gameroomlaw_PokerCounts_J1 class1)).bind some = some r) ?_ ?_
  · rintro a w ⟨hF, hS, hm⟩
    unfold gameroomlaw_PokerCounts_J1 at hm
    refine seqR ?_
    obtain ⟨r1, hr1, hm⟩ := call_b hm
    refine at_run 1 [⟨false, [], callFunc 18 #[], .agg (List.toArray (([] : List Value) ++ (arr1 (Value.int .i64) (0 : Int) 9 r1 ++ ([] : List Value))))⟩] [some (.agg (List.toArray (([] : List Value) ++ (arr1 (Value.int .i64) (0 : Int) 9 r1 ++ ([] : List Value)))))] [0, 10] [pl 0 (.int .i64 class1), pl 10 (.agg (List.toArray (([] : List Value) ++ (arr1 (Value.int .i64) (0 : Int) 9 r1 ++ ([] : List Value)))))] hF hS (by kernel_rfl) (by kernel_rfl) ?_ (fun a w hF hS => ?_)
    · exact obs_cons (ob_call Try.func18 (by kernel_rfl) rfl (fun _ _ hS => poker_Counts_w hr1 hS )) <| obs_nil
    refine at_do (d := 3) (s := vS (Instr.alloc 30 true (.tuple #[]))) (v := .pointer (some ⟨w.heap.size, 0, none⟩)) (w' := w.alloc (.cells (List.toArray (([] : List Value) ++ (arr1 (Value.int .i64) (0 : Int) 9 (List.replicate 9 (0 : Int)) ++ ([] : List Value)))) 30)) hF (by kernel_rfl) (by kernel_rfl) (by kernel_rfl) (fun a hF => ?_)
    have hS : Sep w0 B (w.alloc (.cells (List.toArray (([] : List Value) ++ (arr1 (Value.int .i64) (0 : Int) 9 (List.replicate 9 (0 : Int)) ++ ([] : List Value)))) 30)) (blk w.heap.size 30 (List.toArray (([] : List Value) ++ (arr1 (Value.int .i64) (0 : Int) 9 (List.replicate 9 (0 : Int)) ++ ([] : List Value)))) :: (fs)) := hS.box 30 (List.toArray (([] : List Value) ++ (arr1 (Value.int .i64) (0 : Int) 9 (List.replicate 9 (0 : Int)) ++ ([] : List Value))))
    generalize w.heap.size = g1 at hF hS
    generalize w.alloc (.cells (List.toArray (([] : List Value) ++ (arr1 (Value.int .i64) (0 : Int) 9 (List.replicate 9 (0 : Int)) ++ ([] : List Value)))) 30) = w at hS ⊢
    obtain ⟨w, hrun, hS⟩ := run_putW (P := Try.prog) (t := 30) (us := (List.toArray (([] : List Value) ++ (arr1 (Value.int .i64) (0 : Int) 9 r1 ++ ([] : List Value))))) (hS.at_ 0 rfl) (by kernel_rfl) (all_one (by kernel_rfl)) (by kernel_rfl)
    refine at_skip hF (by kernel_rfl) hrun ?_
    have hS : Sep w0 B w (blk g1 30 (List.toArray (([] : List Value) ++ (arr1 (Value.int .i64) (0 : Int) 9 r1 ++ ([] : List Value)))) :: fs) := hS
    refine at_end [0, 3] [pl 0 (.int .i64 class1), pl 3 (.pointer (some ⟨g1, 0, none⟩))] hF rfl (by kernel_rfl) (fun hF => ?_)
    refine then_n ?_
    refine seq_cut (fun a w => ∃ (z1 : Bool), Fr 19 [pl 2 (.bool z1)] a ∧ Sep w0 B w (fs) ∧ (gameroomlaw_PokerCounts_J2 z1).bind some = some r) ?_ ?_
    · rintro a w ⟨z1, hF, hS, hm⟩
      unfold gameroomlaw_PokerCounts_J2 at hm
      refine wpIn_ret ?_
      have hm : some z1 = some r := hm
      obtain rfl := Option.some.inj hm
      exact retV (rs := [.tmp 2]) (vs := [.bool z1]) hF rfl (rv_t (by kernel_rfl) <| rv_nil) rfl ⟨rfl, hS⟩
    · obtain ⟨hp1, hm⟩ := asrt_b hm
      obtain ⟨r2, hr2, hm⟩ := call_b hm
      obtain ⟨hp2, hm⟩ := asrt_b hm
      refine regMix5 [0, 1, 2, 4] [] 5 #[true, true, true, false, true, false, false, false, false] [⟨true, [], vS (Instr.indexAt 30 (.pointer (some ⟨g1, 0, none⟩)) (.int .i64 class1)), .pointer (some ((⟨g1, 0, none⟩ : Addr).add (Int.toNat class1 * 1)))⟩, ⟨false, [], vS (Instr.loadAt 3 (.pointer (some ((⟨g1, 0, none⟩ : Addr).add (Int.toNat class1 * 1))))), .int .i64 (geti r1 class1)⟩] [none, some (.pointer (some ((⟨g1, 0, none⟩ : Addr).add (Int.toNat class1 * 1)))), some (.int .i64 (geti r1 class1)), none] [13, 15] [pl 13 (.int .i64 (geti r1 class1)), pl 15 (.int .i64 class1)] hF hS Fol (by kernel_rfl) (by kernel_rfl) (by kernel_rfl) (by kernel_rfl) ?_ (fun a w hF hS => ?_)
      · exact obs_cons (ob_ixA UndA30 hi3 hs3 (fun _ => hp1)) <| obs_cons (ob_getA (m := r1) (Value.int .i64) (0 : Int) 9 ([] : List Value) ([] : List Value) class1 Agg3 rfl (fun _ hS => ⟨_, _, _, _, _, hS.at_ 0 rfl⟩) (fun hy => by have h0 := hp1; omega)) <| obs_nil
      refine any_step [3] (by kernel_rfl) rfl ?_
      refine (all_cons ?_ all_nil)
      · refine any_op (listed' := #[true, true, true, true, true, false, false, false, false]) (by kernel_rfl) (by kernel_rfl) ?_
        refine at_call (f := 19) (args := #[]) (d := 14) hF (by kernel_rfl) (by kernel_rfl) Try.func19 (by kernel_rfl) rfl (gameroomref_ClassCounts_w hr2 hS ) (fun v a w hR hF => ?_)
        clear hS
        obtain ⟨A2, c2, rfl, hS⟩ := hR
        have hS : Sep w0 B w (own 3 (.slice A2 r2.length c2) (vI r2) :: blk g1 30 (List.toArray (([] : List Value) ++ (arr1 (Value.int .i64) (0 : Int) 9 r1 ++ ([] : List Value)))) :: fs) := hS
        refine any_fin rfl (hS.pickN 2 [1] (by decide)) ?_
        refine any_step [5] (by kernel_rfl) rfl ?_
        refine (all_cons ?_ all_nil)
        · refine any_op (listed' := #[true, true, true, true, true, true, false, false, false]) (by kernel_rfl) (by kernel_rfl) ?_
          refine at_runW 1 [⟨true, [], vS (Instr.indexAt 22 (.slice A2 r2.length c2) (.int .i64 class1)), .pointer (some (sAddr A2 class1))⟩] [some (.pointer (some (sAddr A2 class1)))] [13, 16] [pl 13 (.int .i64 (geti r1 class1)), pl 16 (.pointer (some (sAddr A2 class1)))] hF hS (by kernel_rfl) (by kernel_rfl) ?_ (fun a hF => ?_)
          · exact obs_cons (ob_ix1 (f := (Value.int .i64)) (m := r2) Und22 hi3 hs3 (hS.at_ 0 rfl).rd rfl (fun _ => hp2)) <| obs_nil
          refine any_finI rfl (fun h => h) ?_
          refine any_step [6] (by kernel_rfl) rfl ?_
          refine (all_cons ?_ all_nil)
          · refine any_op (listed' := #[true, true, true, true, true, true, true, false, false]) (by kernel_rfl) (by kernel_rfl) ?_
            refine at_runW 1 [⟨false, [], vS (Instr.loadAt 3 (.pointer (some (sAddr A2 class1)))), .int .i64 (geti r2 class1)⟩] [some (.int .i64 (geti r2 class1))] [13, 17] [pl 13 (.int .i64 (geti r1 class1)), pl 17 (.int .i64 (geti r2 class1))] hF hS (by kernel_rfl) (by kernel_rfl) ?_ (fun a hF => ?_)
            · exact obs_cons (ob_get1 (n := r2.length) (m := r2) (Value.int .i64) (0 : Int) Agg3 (fun _ hS => ⟨_, (hS.at_ 0 rfl).rd⟩) (fun _ hS => rfl) (fun _ => hp2)) <| obs_nil
            refine any_finI rfl (fun h => h) ?_
            refine any_step [7] (by kernel_rfl) rfl ?_
            refine (all_cons ?_ all_nil)
            · refine any_op (listed' := #[true, true, true, true, true, true, true, true, false]) (by kernel_rfl) (by kernel_rfl) ?_
              refine at_runW 1 [] [] [18] [pl 18 (.bool ((geti r1 class1) == (geti r2 class1)))] hF hS (by kernel_rfl) (by kernel_rfl) ?_ (fun a hF => ?_)
              · exact obs_nil
              refine any_finI rfl (fun h => h) ?_
              refine any_step [8] (by kernel_rfl) rfl ?_
              refine (all_cons ?_ all_nil)
              · refine any_op (listed' := #[true, true, true, true, true, true, true, true, true]) (by kernel_rfl) (by kernel_rfl) ?_
                refine at_runW 1 [] [] [2] [pl 2 (.bool ((geti r1 class1) == (geti r2 class1)))] hF hS (by kernel_rfl) (by kernel_rfl) ?_ (fun a hF => ?_)
                · exact obs_nil
                refine any_finI rfl (fun h => h) ?_
                refine any_end (by kernel_rfl) ?_
                refine np_n ?_
                refine then_n ?_
                have hS := hS.pickN 2 [] (by decide)
                exact ⟨((geti r1 class1) == (geti r2 class1)), hF.weak [2] (by kernel_rfl), hS, hm⟩
  · refine reg [] [] [0, 9] [pl 0 (.int .i64 class1), pl 9 (.bool ((decide (class1 < 0)) || (decide ((8 : Int) < class1))))] hF hS Fol (by kernel_rfl) (by kernel_rfl) (by kernel_rfl) ?_ (fun a w hF hS => ?_)
    · exact obs_nil
    refine cond_ev (t := 9) (b := (decide (class1 < 0)) || (decide ((8 : Int) < class1))) hF (by kernel_rfl) (fun hb => ?_) (fun hb => ?_)
    · replace hm := if_t hm hb
      refine reg [] [] [2] [pl 2 (.bool true)] hF hS Fol (by kernel_rfl) (by kernel_rfl) (by kernel_rfl) ?_ (fun a w hF hS => ?_)
      · exact obs_nil
      refine wpIn_ret ?_
      refine then_r ?_
      have hm : some true = some r := hm
      obtain rfl := Option.some.inj hm
      exact retV (rs := [.tmp 2]) (vs := [.bool true]) hF rfl (rv_t (by kernel_rfl) <| rv_nil) rfl ⟨rfl, hS⟩
    · replace hm := if_f hm hb
      refine wpIn_skip ?_
      refine then_n ?_
      exact ⟨hF.weak [0] (by kernel_rfl), hS, hm⟩

end Go.Proofs.Ytnplejebgbdfpaa
