/-
  Models and walks, printed by our own program (wip/gen).
-/
import Derived.Test.YtlpaklmfgldkoaaFB
import Derived.Test.YtlpaklmfgldkoaaLibG
namespace Go.Proofs.Ytlpaklmfgldkoaa
open Go Go.GL Go.RowKit




noncomputable def magic_odd_J3  (n1 : Int) (l1 : List Int) (x1 : Int) (y1 : Int) (v1 : Int) (x2 : Int) (y2 : Int) : Option (St (List Int × Int × Int × Int) (List Int)) :=
  some (.next ((l1.set (Int.toNat (w64 ((w64 (y1 * n1)) + x1))) v1), x2, y2, (w64 (v1 + 1))))

noncomputable def magic_odd_J4  (n1 : Int) (l1 : List Int) (x1 : Int) (y1 : Int) (v1 : Int) (a1 : Int) (b1 : Int) : Option (St (List Int × Int × Int × Int) (List Int)) :=
  (magic_odd_J3 n1 l1 x1 y1 v1) a1 b1

noncomputable def magic_odd_J2  (n1 : Int) (l1 : List Int) (x1 : Int) (y1 : Int) (v1 : Int) : Option (St (List Int × Int × Int × Int) (List Int)) :=
  asrt (0 ≤ (w64 ((w64 (y1 * n1)) + x1)) ∧ (w64 ((w64 (y1 * n1)) + x1)) < (((Int.toNat (w64 (n1 * n1))) : Nat) : Int)) <| asrt (n1 ≠ (0 : Int)) <| asrt (n1 ≠ (0 : Int)) <| asrt (0 ≤ (w64 ((w64 ((Int.tmod (w64 ((w64 (y1 + n1)) - 1)) n1) * n1)) + (Int.tmod (w64 (x1 + 1)) n1))) ∧ (w64 ((w64 ((Int.tmod (w64 ((w64 (y1 + n1)) - 1)) n1) * n1)) + (Int.tmod (w64 (x1 + 1)) n1))) < (((Int.toNat (w64 (n1 * n1))) : Nat) : Int)) <| if ((geti (l1.set (Int.toNat (w64 ((w64 (y1 * n1)) + x1))) v1) (w64 ((w64 ((Int.tmod (w64 ((w64 (y1 + n1)) - 1)) n1) * n1)) + (Int.tmod (w64 (x1 + 1)) n1)))) != 0) then (asrt (n1 ≠ (0 : Int)) <| (magic_odd_J4 n1 l1 x1 y1 v1) x1 (Int.tmod (w64 (y1 + 1)) n1)) else ((magic_odd_J4 n1 l1 x1 y1 v1) (Int.tmod (w64 (x1 + 1)) n1) (Int.tmod (w64 ((w64 (y1 + n1)) - 1)) n1))

noncomputable def magic_odd_J1  (l2 : List Int) : Option (List Int) :=
  some l2

noncomputable def magic_odd_K1  : (List Int) → Option (List Int) :=
  fun (x : (List Int)) => match x with | l2 => magic_odd_J1 l2

noncomputable def magic_odd_L1  (n1 : Int) : (List Int × Int × Int × Int) → Option (St (List Int × Int × Int × Int) (List Int)) :=
  fun (x : (List Int × Int × Int × Int)) => match x with | (l1, x1, y1, v1) => if (decide (v1 ≤ (w64 (n1 * n1)))) then ((magic_odd_J2 n1 l1 x1 y1 v1)) else (some (.done l1))

noncomputable def magic_odd_m  (n1 : Int) : Option (List Int) :=
  asrt ((0 : Int) ≤ (w64 (n1 * n1)) ∧ (w64 (n1 * n1)) ≤ bigN) <| (loop (magic_odd_L1 n1) ((List.replicate (Int.toNat (w64 (n1 * n1))) (0 : Int)), (w64 (Int.tdiv n1 2)), 0, 1)).bind magic_odd_K1

set_option maxRecDepth 100000 in
set_option maxHeartbeats 4000000 in
theorem magic_odd_w {n1 : Int} {r : (List Int)} {w0 w : World} {B : Nat} {fs : List HP} (hm : magic_odd_m n1 = some r) (hS : Sep w0 B w (fs)) :
    Calls Try.prog 94 #[.int .i64 n1] w fun e w' => ∃ v, e = .returned v ∧ ∃ (A2 : Option Addr) (c2 : Nat), v = .slice A2 r.length c2 ∧ Sep w0 B w' (own 3 (.slice A2 r.length c2) (vI r) :: fs) := by
  obtain ⟨i3, hi3, hz3, hs3, hb3⟩ := info_parts Info3
  unfold magic_odd_m at hm
  replace hm := start_b hm
  refine enter (l := [.int .i64 n1]) (n := 57) Try.func94 rfl rfl (by simp) (fun a hF => ?_)
  refine reg [] [] [0] [pl 0 (.int .i64 n1)] hF hS Fol (by kernel_rfl) (by kernel_rfl) (by kernel_rfl) ?_ (fun a w hF hS => ?_)
  · exact obs_nil
  refine seqR ?_
  obtain ⟨hp1, hm⟩ := asrt_b hm
  refine at_run 3 [] [] [0, 11] [pl 0 (.int .i64 n1), pl 11 (.int .i64 (w64 (n1 * n1)))] hF hS (by kernel_rfl) (by kernel_rfl) ?_ (fun a w hF hS => ?_)
  · exact obs_nil
  obtain ⟨A1, c1, w, hrun, hS⟩ := run_mk1 (P := Try.prog) (t := 34) (Value.int .i64) (0 : Int) hS .i64 .i64 Und34 hi3 hz3 hs3 (by omega) rfl hp1
  have hS : Sep w0 B w (own 3 (.slice A1 (Int.toNat (w64 (n1 * n1))) c1) (vI (List.replicate (Int.toNat (w64 (n1 * n1))) (0 : Int))) :: fs) := hS
  refine at_do (d := 12) hF (by kernel_rfl) (by kernel_rfl) hrun (fun a hF => ?_)
  refine at_run 1 [] [] [0, 3] [pl 0 (.int .i64 n1), pl 3 (.slice A1 (Int.toNat (w64 (n1 * n1))) c1)] hF hS (by kernel_rfl) (by kernel_rfl) ?_ (fun a w hF hS => ?_)
  · exact obs_nil
  refine at_end [0, 3] [pl 0 (.int .i64 n1), pl 3 (.slice A1 (Int.toNat (w64 (n1 * n1))) c1)] hF rfl (by kernel_rfl) (fun hF => ?_)
  refine then_n ?_
  refine reg [] [] [0, 3, 4, 5] [pl 0 (.int .i64 n1), pl 3 (.slice A1 (Int.toNat (w64 (n1 * n1))) c1), pl 4 (.int .i64 (w64 (Int.tdiv n1 2))), pl 5 (.int .i64 0)] hF hS Fol (by kernel_rfl) (by kernel_rfl) (by kernel_rfl) ?_ (fun a w hF hS => ?_)
  · exact obs_nil
  refine seq_cut (fun a w => ∃ (l2 : List Int), Fr 57 [pl 3 (.slice A1 (Int.toNat (w64 (n1 * n1))) c1)] a ∧ Sep w0 B w (own 3 (.slice A1 (Int.toNat (w64 (n1 * n1))) c1) (vI l2) :: fs) ∧ (magic_odd_J1 l2).bind some = some r) ?_ ?_
  · rintro a w ⟨l2, hF, hS, hm⟩
    unfold magic_odd_J1 at hm
    refine reg [] [] [2] [pl 2 (.slice A1 (Int.toNat (w64 (n1 * n1))) c1)] hF hS Fol (by kernel_rfl) (by kernel_rfl) (by kernel_rfl) ?_ (fun a w hF hS => ?_)
    · exact obs_nil
    refine wpIn_ret ?_
    have hl1 := (hS.at_ 0 rfl).len1
    have hS := (hS.at_ 0 rfl).reN hl1
    have hS : Sep w0 B w (own 3 (.slice A1 l2.length c1) (vI l2) :: fs) := hS
    have hF := hF.cast (t := 2) (v := .slice A1 (Int.toNat (w64 (n1 * n1))) c1) (v' := .slice A1 l2.length c1) rfl rfl (congrArg (fun k => Value.slice A1 k c1) hl1)
    have hm : some l2 = some r := hm
    obtain rfl := Option.some.inj hm
    exact retV (rs := [.tmp 2]) (vs := [.slice A1 l2.length c1]) hF rfl (rv_t (by kernel_rfl) <| rv_nil) rfl ⟨_, rfl, A1, c1, rfl, hS⟩
  · refine reg [] [] [0, 3, 4, 5, 6] [pl 0 (.int .i64 n1), pl 3 (.slice A1 (Int.toNat (w64 (n1 * n1))) c1), pl 4 (.int .i64 (w64 (Int.tdiv n1 2))), pl 5 (.int .i64 0), pl 6 (.int .i64 1)] hF hS Fol (by kernel_rfl) (by kernel_rfl) (by kernel_rfl) ?_ (fun a w hF hS => ?_)
    · exact obs_nil
    refine wpIn_block ?_
    refine wp_loop_model (S := (List Int × Int × Int × Int)) (R := (List Int)) (magic_odd_L1 n1) (fun x => (magic_odd_K1 x).bind some) r (fun (x : (List Int × Int × Int × Int)) a w => Fr 57 [pl 0 (.int .i64 n1), pl 3 (.slice A1 (Int.toNat (w64 (n1 * n1))) c1), pl 4 (.int .i64 x.2.1), pl 5 (.int .i64 x.2.2.1), pl 6 (.int .i64 x.2.2.2)] a ∧ Sep w0 B w (own 3 (.slice A1 (Int.toNat (w64 (n1 * n1))) c1) (vI x.1) :: fs)) (assoc_b hm) ⟨hF.weak [0, 3, 4, 5, 6] (by kernel_rfl), hS⟩ ?_
    clear hF hS hm
    rintro nn1 ⟨l1, x1, y1, v1⟩ a w ⟨hF, hS⟩ hm
    generalize hφ1 : stK (magic_odd_L1 n1) nn1 (fun x => (magic_odd_K1 x).bind some) = φ1 at hm
    unfold magic_odd_L1 at hm
    dsimp only at hF hS hm
    refine seq_cut (fun a w => Fr 57 [pl 0 (.int .i64 n1), pl 3 (.slice A1 (Int.toNat (w64 (n1 * n1))) c1), pl 4 (.int .i64 x1), pl 5 (.int .i64 y1), pl 6 (.int .i64 v1)] a ∧ Sep w0 B w (own 3 (.slice A1 (Int.toNat (w64 (n1 * n1))) c1) (vI l1) :: fs) ∧ ((magic_odd_J2 n1 l1 x1 y1 v1)).bind φ1 = some r) ?_ ?_
    · rintro a w ⟨hF, hS, hm⟩
      unfold magic_odd_J2 at hm
      refine seq_cut (fun a w => ∃ (x2 : Int) (y2 : Int), Fr 57 [pl 0 (.int .i64 n1), pl 3 (.slice A1 (Int.toNat (w64 (n1 * n1))) c1), pl 4 (.int .i64 x2), pl 5 (.int .i64 y2), pl 6 (.int .i64 v1)] a ∧ Sep w0 B w (own 3 (.slice A1 (Int.toNat (w64 (n1 * n1))) c1) (vI (l1.set (Int.toNat (w64 ((w64 (y1 * n1)) + x1))) v1)) :: fs) ∧ ((magic_odd_J3 n1 l1 x1 y1 v1) x2 y2).bind φ1 = some r) ?_ ?_
      · rintro a w ⟨x2, y2, hF, hS, hm⟩
        unfold magic_odd_J3 at hm
        refine reg1 [] [] [0, 3, 4, 5, 6] [pl 0 (.int .i64 n1), pl 3 (.slice A1 (Int.toNat (w64 (n1 * n1))) c1), pl 4 (.int .i64 x2), pl 5 (.int .i64 y2), pl 6 (.int .i64 (w64 (v1 + 1)))] hF hS Fol (by kernel_rfl) (by kernel_rfl) (by kernel_rfl) ?_ (fun a w hF hS => ?_)
        · exact obs_nil
        refine then_n ?_
        rw [← hφ1] at hm
        exact ⟨((l1.set (Int.toNat (w64 ((w64 (y1 * n1)) + x1))) v1), x2, y2, (w64 (v1 + 1))), ⟨hF.weak [0, 3, 4, 5, 6] (by kernel_rfl), hS⟩, hm⟩
      · refine wpIn_block ?_
        refine seqR ?_
        obtain ⟨hp2, hm⟩ := asrt_b hm
        refine at_run 8 [⟨true, [], vS (Instr.indexAt 34 (.slice A1 (Int.toNat (w64 (n1 * n1))) c1) (.int .i64 (w64 ((w64 (y1 * n1)) + x1)))), .pointer (some (sAddr A1 (w64 ((w64 (y1 * n1)) + x1))))⟩] [none, none, none, none, none, none, none, some (.pointer (some (sAddr A1 (w64 ((w64 (y1 * n1)) + x1)))))] [0, 3, 4, 5, 6, 28, 29] [pl 0 (.int .i64 n1), pl 3 (.slice A1 (Int.toNat (w64 (n1 * n1))) c1), pl 4 (.int .i64 x1), pl 5 (.int .i64 y1), pl 6 (.int .i64 v1), pl 28 (.int .i64 v1), pl 29 (.pointer (some (sAddr A1 (w64 ((w64 (y1 * n1)) + x1)))))] hF hS (by kernel_rfl) (by kernel_rfl) ?_ (fun a w hF hS => ?_)
        · exact obs_cons (ob_ix1 (f := (Value.int .i64)) (m := l1) Und34 hi3 hs3 (hS.at_ 0 rfl).rd ((hS.at_ 0 rfl).len1) (fun _ => hp2)) <| obs_nil
        obtain ⟨w, hrun, hS⟩ := run_set1 (P := Try.prog) (t := 3) (x := v1) (Value.int .i64) (hS.at_ 0 rfl) hi3 hs3 rfl rfl hp2
        refine at_skip hF (by kernel_rfl) hrun ?_
        have hS : Sep w0 B w (own 3 (.slice A1 (Int.toNat (w64 (n1 * n1))) c1) (vI (l1.set (Int.toNat (w64 ((w64 (y1 * n1)) + x1))) v1)) :: fs) := hS
        refine at_end [0, 3, 4, 5, 6] [pl 0 (.int .i64 n1), pl 3 (.slice A1 (Int.toNat (w64 (n1 * n1))) c1), pl 4 (.int .i64 x1), pl 5 (.int .i64 y1), pl 6 (.int .i64 v1)] hF rfl (by kernel_rfl) (fun hF => ?_)
        refine then_n ?_
        obtain ⟨hp3, hm⟩ := asrt_b hm
        obtain ⟨hp4, hm⟩ := asrt_b hm
        refine reg [⟨true, [], vS (Op.intDiv .rem .i64 (w64 (x1 + 1)) n1), .int .i64 (Int.tmod (w64 (x1 + 1)) n1)⟩, ⟨true, [], vS (Op.intDiv .rem .i64 (w64 ((w64 (y1 + n1)) - 1)) n1), .int .i64 (Int.tmod (w64 ((w64 (y1 + n1)) - 1)) n1)⟩] [none, none, none, some (.int .i64 (Int.tmod (w64 (x1 + 1)) n1)), none, none, none, none, none, some (.int .i64 (Int.tmod (w64 ((w64 (y1 + n1)) - 1)) n1)), none, none] [0, 3, 4, 5, 6, 7, 8] [pl 0 (.int .i64 n1), pl 3 (.slice A1 (Int.toNat (w64 (n1 * n1))) c1), pl 4 (.int .i64 x1), pl 5 (.int .i64 y1), pl 6 (.int .i64 v1), pl 7 (.int .i64 (Int.tmod (w64 (x1 + 1)) n1)), pl 8 (.int .i64 (Int.tmod (w64 ((w64 (y1 + n1)) - 1)) n1))] hF hS Fol (by kernel_rfl) (by kernel_rfl) (by kernel_rfl) ?_ (fun a w hF hS => ?_)
        · exact obs_cons (ob_rem rfl (fun _ => hp3)) <| obs_cons (ob_rem rfl (fun _ => hp4)) <| obs_nil
        refine seq_cut (fun a w => ∃ (a1 : Int) (b1 : Int), Fr 57 [pl 0 (.int .i64 n1), pl 3 (.slice A1 (Int.toNat (w64 (n1 * n1))) c1), pl 6 (.int .i64 v1), pl 7 (.int .i64 a1), pl 8 (.int .i64 b1)] a ∧ Sep w0 B w (own 3 (.slice A1 (Int.toNat (w64 (n1 * n1))) c1) (vI (l1.set (Int.toNat (w64 ((w64 (y1 * n1)) + x1))) v1)) :: fs) ∧ ((magic_odd_J4 n1 l1 x1 y1 v1) a1 b1).bind φ1 = some r) ?_ ?_
        · rintro a w ⟨a1, b1, hF, hS, hm⟩
          unfold magic_odd_J4 at hm
          refine reg1 [] [] [0, 3, 4, 5, 6] [pl 0 (.int .i64 n1), pl 3 (.slice A1 (Int.toNat (w64 (n1 * n1))) c1), pl 4 (.int .i64 a1), pl 5 (.int .i64 b1), pl 6 (.int .i64 v1)] hF hS Fol (by kernel_rfl) (by kernel_rfl) (by kernel_rfl) ?_ (fun a w hF hS => ?_)
          · exact obs_nil
          refine block_n ?_
          refine then_n ?_
          exact ⟨a1, b1, hF.weak [0, 3, 4, 5, 6] (by kernel_rfl), hS, hm⟩
        · obtain ⟨hp5, hm⟩ := asrt_b hm
          refine reg [⟨true, [], vS (Instr.indexAt 34 (.slice A1 (Int.toNat (w64 (n1 * n1))) c1) (.int .i64 (w64 ((w64 ((Int.tmod (w64 ((w64 (y1 + n1)) - 1)) n1) * n1)) + (Int.tmod (w64 (x1 + 1)) n1))))), .pointer (some (sAddr A1 (w64 ((w64 ((Int.tmod (w64 ((w64 (y1 + n1)) - 1)) n1) * n1)) + (Int.tmod (w64 (x1 + 1)) n1)))))⟩, ⟨false, [], vS (Instr.loadAt 3 (.pointer (some (sAddr A1 (w64 ((w64 ((Int.tmod (w64 ((w64 (y1 + n1)) - 1)) n1) * n1)) + (Int.tmod (w64 (x1 + 1)) n1))))))), .int .i64 (geti (l1.set (Int.toNat (w64 ((w64 (y1 * n1)) + x1))) v1) (w64 ((w64 ((Int.tmod (w64 ((w64 (y1 + n1)) - 1)) n1) * n1)) + (Int.tmod (w64 (x1 + 1)) n1))))⟩] [none, none, none, none, none, none, some (.pointer (some (sAddr A1 (w64 ((w64 ((Int.tmod (w64 ((w64 (y1 + n1)) - 1)) n1) * n1)) + (Int.tmod (w64 (x1 + 1)) n1)))))), some (.int .i64 (geti (l1.set (Int.toNat (w64 ((w64 (y1 * n1)) + x1))) v1) (w64 ((w64 ((Int.tmod (w64 ((w64 (y1 + n1)) - 1)) n1) * n1)) + (Int.tmod (w64 (x1 + 1)) n1))))), none] [0, 3, 4, 5, 6, 7, 8, 48] [pl 0 (.int .i64 n1), pl 3 (.slice A1 (Int.toNat (w64 (n1 * n1))) c1), pl 4 (.int .i64 x1), pl 5 (.int .i64 y1), pl 6 (.int .i64 v1), pl 7 (.int .i64 (Int.tmod (w64 (x1 + 1)) n1)), pl 8 (.int .i64 (Int.tmod (w64 ((w64 (y1 + n1)) - 1)) n1)), pl 48 (.bool ((geti (l1.set (Int.toNat (w64 ((w64 (y1 * n1)) + x1))) v1) (w64 ((w64 ((Int.tmod (w64 ((w64 (y1 + n1)) - 1)) n1) * n1)) + (Int.tmod (w64 (x1 + 1)) n1)))) != 0))] hF hS Fol (by kernel_rfl) (by kernel_rfl) (by kernel_rfl) ?_ (fun a w hF hS => ?_)
          · exact obs_cons (ob_ix1 (f := (Value.int .i64)) (m := (l1.set (Int.toNat (w64 ((w64 (y1 * n1)) + x1))) v1)) Und34 hi3 hs3 (hS.at_ 0 rfl).rd ((hS.at_ 0 rfl).len1) (fun _ => hp5)) <| obs_cons (ob_get1 (n := (Int.toNat (w64 (n1 * n1)))) (m := (l1.set (Int.toNat (w64 ((w64 (y1 * n1)) + x1))) v1)) (Value.int .i64) (0 : Int) Agg3 (fun _ hS => ⟨_, (hS.at_ 0 rfl).rd⟩) (fun _ hS => ((hS.at_ 0 rfl).len1)) (fun _ => hp5)) <| obs_nil
          refine cond_ev (t := 48) (b := ((geti (l1.set (Int.toNat (w64 ((w64 (y1 * n1)) + x1))) v1) (w64 ((w64 ((Int.tmod (w64 ((w64 (y1 + n1)) - 1)) n1) * n1)) + (Int.tmod (w64 (x1 + 1)) n1)))) != 0)) hF (by kernel_rfl) (fun hb => ?_) (fun hb => ?_)
          · replace hm := if_t hm hb
            obtain ⟨hp6, hm⟩ := asrt_b hm
            refine reg1 [⟨true, [], vS (Op.intDiv .rem .i64 (w64 (y1 + 1)) n1), .int .i64 (Int.tmod (w64 (y1 + 1)) n1)⟩] [none, none, none, none, some (.int .i64 (Int.tmod (w64 (y1 + 1)) n1)), none, none] [0, 3, 6, 7, 8] [pl 0 (.int .i64 n1), pl 3 (.slice A1 (Int.toNat (w64 (n1 * n1))) c1), pl 6 (.int .i64 v1), pl 7 (.int .i64 x1), pl 8 (.int .i64 (Int.tmod (w64 (y1 + 1)) n1))] hF hS Fol (by kernel_rfl) (by kernel_rfl) (by kernel_rfl) ?_ (fun a w hF hS => ?_)
            · exact obs_cons (ob_rem rfl (fun _ => hp6)) <| obs_nil
            refine then_n ?_
            exact ⟨x1, (Int.tmod (w64 (y1 + 1)) n1), hF.weak [0, 3, 6, 7, 8] (by kernel_rfl), hS, hm⟩
          · replace hm := if_f hm hb
            refine wpIn_skip ?_
            refine then_n ?_
            exact ⟨(Int.tmod (w64 (x1 + 1)) n1), (Int.tmod (w64 ((w64 (y1 + n1)) - 1)) n1), hF.weak [0, 3, 6, 7, 8] (by kernel_rfl), hS, hm⟩
    · refine reg [] [] [0, 3, 4, 5, 6, 19] [pl 0 (.int .i64 n1), pl 3 (.slice A1 (Int.toNat (w64 (n1 * n1))) c1), pl 4 (.int .i64 x1), pl 5 (.int .i64 y1), pl 6 (.int .i64 v1), pl 19 (.bool (decide (v1 ≤ (w64 (n1 * n1)))))] hF hS Fol (by kernel_rfl) (by kernel_rfl) (by kernel_rfl) ?_ (fun a w hF hS => ?_)
      · exact obs_nil
      refine cond_ev (t := 19) (b := decide (v1 ≤ (w64 (n1 * n1)))) hF (by kernel_rfl) (fun hb => ?_) (fun hb => ?_)
      · replace hm := if_t hm hb
        refine wpIn_skip ?_
        refine then_n ?_
        exact ⟨hF.weak [0, 3, 4, 5, 6] (by kernel_rfl), hS, hm⟩
      · replace hm := if_f hm hb
        refine wpIn_exit ?_
        refine then_e (then_e (block_e (then_n ?_)))
        rw [← hφ1] at hm
        replace hm := done_b hm
        unfold magic_odd_K1 at hm
        try dsimp only at hm
        have hm : (magic_odd_J1 l1).bind some = some r := hm
        exact ⟨l1, hF.weak [3] (by kernel_rfl), hS, hm⟩

noncomputable def magic_double_J3  (z1 : Int) (l3 : List Int) : Option (St (List Int × Int) (List Int)) :=
  some (.next (l3, (w64 (z1 + 1))))

noncomputable def magic_double_J2  (n1 : Int) (l1 : List Int) (z1 : Int) : Option (St (List Int × Int) (List Int)) :=
  asrt (n1 ≠ (0 : Int)) <| asrt (n1 ≠ (0 : Int)) <| asrt (0 ≤ z1 ∧ z1 < (((Int.toNat (w64 (n1 * n1))) : Nat) : Int)) <| if (((Int.tmod (Int.tmod z1 n1) 4) == (Int.tmod (w64 (Int.tdiv z1 n1)) 4)) || ((w64 ((Int.tmod (Int.tmod z1 n1) 4) + (Int.tmod (w64 (Int.tdiv z1 n1)) 4))) == 3)) then (asrt (0 ≤ z1 ∧ z1 < (((Int.toNat (w64 (n1 * n1))) : Nat) : Int)) <| (magic_double_J3 z1) ((l1.set (Int.toNat z1) (w64 (z1 + 1))).set (Int.toNat z1) (w64 ((w64 (n1 * n1)) - z1)))) else ((magic_double_J3 z1) (l1.set (Int.toNat z1) (w64 (z1 + 1))))

noncomputable def magic_double_J1  (l2 : List Int) : Option (List Int) :=
  some l2

noncomputable def magic_double_K1  : (List Int) → Option (List Int) :=
  fun (x : (List Int)) => match x with | l2 => magic_double_J1 l2

noncomputable def magic_double_L1  (n1 : Int) : (List Int × Int) → Option (St (List Int × Int) (List Int)) :=
  fun (x : (List Int × Int)) => match x with | (l1, z1) => if (decide (z1 < (((Int.toNat (w64 (n1 * n1))) : Nat) : Int))) then ((magic_double_J2 n1 l1 z1)) else (some (.done l1))

noncomputable def magic_double_m  (n1 : Int) : Option (List Int) :=
  asrt ((0 : Int) ≤ (w64 (n1 * n1)) ∧ (w64 (n1 * n1)) ≤ bigN) <| (loop (magic_double_L1 n1) ((List.replicate (Int.toNat (w64 (n1 * n1))) (0 : Int)), 0)).bind magic_double_K1

set_option maxRecDepth 100000 in
set_option maxHeartbeats 4000000 in
theorem magic_double_w {n1 : Int} {r : (List Int)} {w0 w : World} {B : Nat} {fs : List HP} (hm : magic_double_m n1 = some r) (hS : Sep w0 B w (fs)) :
    Calls Try.prog 95 #[.int .i64 n1] w fun e w' => ∃ v, e = .returned v ∧ ∃ (A2 : Option Addr) (c2 : Nat), v = .slice A2 r.length c2 ∧ Sep w0 B w' (own 3 (.slice A2 r.length c2) (vI r) :: fs) := by
  obtain ⟨i3, hi3, hz3, hs3, hb3⟩ := info_parts Info3
  unfold magic_double_m at hm
  replace hm := start_b hm
  refine enter (l := [.int .i64 n1]) (n := 48) Try.func95 rfl rfl (by simp) (fun a hF => ?_)
  refine reg [] [] [0] [pl 0 (.int .i64 n1)] hF hS Fol (by kernel_rfl) (by kernel_rfl) (by kernel_rfl) ?_ (fun a w hF hS => ?_)
  · exact obs_nil
  refine seqR ?_
  obtain ⟨hp1, hm⟩ := asrt_b hm
  refine at_run 3 [] [] [0, 9] [pl 0 (.int .i64 n1), pl 9 (.int .i64 (w64 (n1 * n1)))] hF hS (by kernel_rfl) (by kernel_rfl) ?_ (fun a w hF hS => ?_)
  · exact obs_nil
  obtain ⟨A1, c1, w, hrun, hS⟩ := run_mk1 (P := Try.prog) (t := 34) (Value.int .i64) (0 : Int) hS .i64 .i64 Und34 hi3 hz3 hs3 (by omega) rfl hp1
  have hS : Sep w0 B w (own 3 (.slice A1 (Int.toNat (w64 (n1 * n1))) c1) (vI (List.replicate (Int.toNat (w64 (n1 * n1))) (0 : Int))) :: fs) := hS
  refine at_do (d := 10) hF (by kernel_rfl) (by kernel_rfl) hrun (fun a hF => ?_)
  refine at_run 1 [] [] [0, 3] [pl 0 (.int .i64 n1), pl 3 (.slice A1 (Int.toNat (w64 (n1 * n1))) c1)] hF hS (by kernel_rfl) (by kernel_rfl) ?_ (fun a w hF hS => ?_)
  · exact obs_nil
  refine at_end [0, 3] [pl 0 (.int .i64 n1), pl 3 (.slice A1 (Int.toNat (w64 (n1 * n1))) c1)] hF rfl (by kernel_rfl) (fun hF => ?_)
  refine then_n ?_
  refine seq_cut (fun a w => ∃ (l2 : List Int), Fr 48 [pl 3 (.slice A1 (Int.toNat (w64 (n1 * n1))) c1)] a ∧ Sep w0 B w (own 3 (.slice A1 (Int.toNat (w64 (n1 * n1))) c1) (vI l2) :: fs) ∧ (magic_double_J1 l2).bind some = some r) ?_ ?_
  · rintro a w ⟨l2, hF, hS, hm⟩
    unfold magic_double_J1 at hm
    refine reg [] [] [2] [pl 2 (.slice A1 (Int.toNat (w64 (n1 * n1))) c1)] hF hS Fol (by kernel_rfl) (by kernel_rfl) (by kernel_rfl) ?_ (fun a w hF hS => ?_)
    · exact obs_nil
    refine wpIn_ret ?_
    have hl1 := (hS.at_ 0 rfl).len1
    have hS := (hS.at_ 0 rfl).reN hl1
    have hS : Sep w0 B w (own 3 (.slice A1 l2.length c1) (vI l2) :: fs) := hS
    have hF := hF.cast (t := 2) (v := .slice A1 (Int.toNat (w64 (n1 * n1))) c1) (v' := .slice A1 l2.length c1) rfl rfl (congrArg (fun k => Value.slice A1 k c1) hl1)
    have hm : some l2 = some r := hm
    obtain rfl := Option.some.inj hm
    exact retV (rs := [.tmp 2]) (vs := [.slice A1 l2.length c1]) hF rfl (rv_t (by kernel_rfl) <| rv_nil) rfl ⟨_, rfl, A1, c1, rfl, hS⟩
  · refine reg [] [] [0, 3, 12, 13] [pl 0 (.int .i64 n1), pl 3 (.slice A1 (Int.toNat (w64 (n1 * n1))) c1), pl 12 (.int .i64 (((Int.toNat (w64 (n1 * n1))) : Nat) : Int)), pl 13 (.int .i64 0)] hF hS Fol (by kernel_rfl) (by kernel_rfl) (by kernel_rfl) ?_ (fun a w hF hS => ?_)
    · exact obs_nil
    refine wpIn_block ?_
    refine wp_loop_model (S := (List Int × Int)) (R := (List Int)) (magic_double_L1 n1) (fun x => (magic_double_K1 x).bind some) r (fun (x : (List Int × Int)) a w => Fr 48 [pl 0 (.int .i64 n1), pl 3 (.slice A1 (Int.toNat (w64 (n1 * n1))) c1), pl 12 (.int .i64 (((Int.toNat (w64 (n1 * n1))) : Nat) : Int)), pl 13 (.int .i64 x.2)] a ∧ Sep w0 B w (own 3 (.slice A1 (Int.toNat (w64 (n1 * n1))) c1) (vI x.1) :: fs)) (assoc_b hm) ⟨hF.weak [0, 3, 12, 13] (by kernel_rfl), hS⟩ ?_
    clear hF hS hm
    rintro nn1 ⟨l1, z1⟩ a w ⟨hF, hS⟩ hm
    generalize hφ1 : stK (magic_double_L1 n1) nn1 (fun x => (magic_double_K1 x).bind some) = φ1 at hm
    unfold magic_double_L1 at hm
    dsimp only at hF hS hm
    refine reg [] [] [0, 3, 12, 13, 14] [pl 0 (.int .i64 n1), pl 3 (.slice A1 (Int.toNat (w64 (n1 * n1))) c1), pl 12 (.int .i64 (((Int.toNat (w64 (n1 * n1))) : Nat) : Int)), pl 13 (.int .i64 z1), pl 14 (.bool (decide (z1 < (((Int.toNat (w64 (n1 * n1))) : Nat) : Int))))] hF hS Fol (by kernel_rfl) (by kernel_rfl) (by kernel_rfl) ?_ (fun a w hF hS => ?_)
    · exact obs_nil
    refine seq_cut (fun a w => Fr 48 [pl 0 (.int .i64 n1), pl 3 (.slice A1 (Int.toNat (w64 (n1 * n1))) c1), pl 12 (.int .i64 (((Int.toNat (w64 (n1 * n1))) : Nat) : Int)), pl 13 (.int .i64 z1)] a ∧ Sep w0 B w (own 3 (.slice A1 (Int.toNat (w64 (n1 * n1))) c1) (vI l1) :: fs) ∧ ((magic_double_J2 n1 l1 z1)).bind φ1 = some r) ?_ ?_
    · rintro a w ⟨hF, hS, hm⟩
      unfold magic_double_J2 at hm
      refine seq_cut (fun a w => ∃ (l3 : List Int), Fr 48 [pl 0 (.int .i64 n1), pl 3 (.slice A1 (Int.toNat (w64 (n1 * n1))) c1), pl 12 (.int .i64 (((Int.toNat (w64 (n1 * n1))) : Nat) : Int)), pl 13 (.int .i64 z1)] a ∧ Sep w0 B w (own 3 (.slice A1 (Int.toNat (w64 (n1 * n1))) c1) (vI l3) :: fs) ∧ ((magic_double_J3 z1) l3).bind φ1 = some r) ?_ ?_
      · rintro a w ⟨l3, hF, hS, hm⟩
        unfold magic_double_J3 at hm
        refine reg1 [] [] [0, 3, 12, 13] [pl 0 (.int .i64 n1), pl 3 (.slice A1 (Int.toNat (w64 (n1 * n1))) c1), pl 12 (.int .i64 (((Int.toNat (w64 (n1 * n1))) : Nat) : Int)), pl 13 (.int .i64 (w64 (z1 + 1)))] hF hS Fol (by kernel_rfl) (by kernel_rfl) (by kernel_rfl) ?_ (fun a w hF hS => ?_)
        · exact obs_nil
        refine then_n ?_
        rw [← hφ1] at hm
        exact ⟨(l3, (w64 (z1 + 1))), ⟨hF.weak [0, 3, 12, 13] (by kernel_rfl), hS⟩, hm⟩
      · refine wpIn_block ?_
        refine reg [] [] [0, 3, 4, 12, 13] [pl 0 (.int .i64 n1), pl 3 (.slice A1 (Int.toNat (w64 (n1 * n1))) c1), pl 4 (.int .i64 z1), pl 12 (.int .i64 (((Int.toNat (w64 (n1 * n1))) : Nat) : Int)), pl 13 (.int .i64 z1)] hF hS Fol (by kernel_rfl) (by kernel_rfl) (by kernel_rfl) ?_ (fun a w hF hS => ?_)
        · exact obs_nil
        obtain ⟨hp2, hm⟩ := asrt_b hm
        obtain ⟨hp3, hm⟩ := asrt_b hm
        refine reg [⟨true, [], vS (Op.intDiv .rem .i64 z1 n1), .int .i64 (Int.tmod z1 n1)⟩, ⟨true, [], vS (Op.intDiv .quo .i64 z1 n1), .int .i64 (w64 (Int.tdiv z1 n1))⟩] [none, none, some (.int .i64 (Int.tmod z1 n1)), none, none, none, some (.int .i64 (w64 (Int.tdiv z1 n1))), none, none, none] [0, 3, 4, 5, 6, 12, 13] [pl 0 (.int .i64 n1), pl 3 (.slice A1 (Int.toNat (w64 (n1 * n1))) c1), pl 4 (.int .i64 z1), pl 5 (.int .i64 (Int.tmod (Int.tmod z1 n1) 4)), pl 6 (.int .i64 (Int.tmod (w64 (Int.tdiv z1 n1)) 4)), pl 12 (.int .i64 (((Int.toNat (w64 (n1 * n1))) : Nat) : Int)), pl 13 (.int .i64 z1)] hF hS Fol (by kernel_rfl) (by kernel_rfl) (by kernel_rfl) ?_ (fun a w hF hS => ?_)
        · exact obs_cons (ob_rem rfl (fun _ => hp2)) <| obs_cons (ob_quo rfl (fun _ => hp3)) <| obs_nil
        refine seqR ?_
        obtain ⟨hp4, hm⟩ := asrt_b hm
        refine at_run 5 [⟨true, [], vS (Instr.indexAt 34 (.slice A1 (Int.toNat (w64 (n1 * n1))) c1) (.int .i64 z1)), .pointer (some (sAddr A1 z1))⟩] [none, none, none, none, some (.pointer (some (sAddr A1 z1)))] [0, 3, 4, 5, 6, 12, 13, 27, 28] [pl 0 (.int .i64 n1), pl 3 (.slice A1 (Int.toNat (w64 (n1 * n1))) c1), pl 4 (.int .i64 z1), pl 5 (.int .i64 (Int.tmod (Int.tmod z1 n1) 4)), pl 6 (.int .i64 (Int.tmod (w64 (Int.tdiv z1 n1)) 4)), pl 12 (.int .i64 (((Int.toNat (w64 (n1 * n1))) : Nat) : Int)), pl 13 (.int .i64 z1), pl 27 (.int .i64 (w64 (z1 + 1))), pl 28 (.pointer (some (sAddr A1 z1)))] hF hS (by kernel_rfl) (by kernel_rfl) ?_ (fun a w hF hS => ?_)
        · exact obs_cons (ob_ix1 (f := (Value.int .i64)) (m := l1) Und34 hi3 hs3 (hS.at_ 0 rfl).rd ((hS.at_ 0 rfl).len1) (fun _ => hp4)) <| obs_nil
        obtain ⟨w, hrun, hS⟩ := run_set1 (P := Try.prog) (t := 3) (x := (w64 (z1 + 1))) (Value.int .i64) (hS.at_ 0 rfl) hi3 hs3 rfl rfl hp4
        refine at_skip hF (by kernel_rfl) hrun ?_
        have hS : Sep w0 B w (own 3 (.slice A1 (Int.toNat (w64 (n1 * n1))) c1) (vI (l1.set (Int.toNat z1) (w64 (z1 + 1)))) :: fs) := hS
        refine at_end [0, 3, 4, 5, 6, 12, 13] [pl 0 (.int .i64 n1), pl 3 (.slice A1 (Int.toNat (w64 (n1 * n1))) c1), pl 4 (.int .i64 z1), pl 5 (.int .i64 (Int.tmod (Int.tmod z1 n1) 4)), pl 6 (.int .i64 (Int.tmod (w64 (Int.tdiv z1 n1)) 4)), pl 12 (.int .i64 (((Int.toNat (w64 (n1 * n1))) : Nat) : Int)), pl 13 (.int .i64 z1)] hF rfl (by kernel_rfl) (fun hF => ?_)
        refine then_n ?_
        refine reg [] [] [0, 3, 4, 12, 13, 37] [pl 0 (.int .i64 n1), pl 3 (.slice A1 (Int.toNat (w64 (n1 * n1))) c1), pl 4 (.int .i64 z1), pl 12 (.int .i64 (((Int.toNat (w64 (n1 * n1))) : Nat) : Int)), pl 13 (.int .i64 z1), pl 37 (.bool (((Int.tmod (Int.tmod z1 n1) 4) == (Int.tmod (w64 (Int.tdiv z1 n1)) 4)) || ((w64 ((Int.tmod (Int.tmod z1 n1) 4) + (Int.tmod (w64 (Int.tdiv z1 n1)) 4))) == 3)))] hF hS Fol (by kernel_rfl) (by kernel_rfl) (by kernel_rfl) ?_ (fun a w hF hS => ?_)
        · exact obs_nil
        refine cond_ev (t := 37) (b := ((Int.tmod (Int.tmod z1 n1) 4) == (Int.tmod (w64 (Int.tdiv z1 n1)) 4)) || ((w64 ((Int.tmod (Int.tmod z1 n1) 4) + (Int.tmod (w64 (Int.tdiv z1 n1)) 4))) == 3)) hF (by kernel_rfl) (fun hb => ?_) (fun hb => ?_)
        · replace hm := if_t hm hb
          refine oneR ?_
          obtain ⟨hp5, hm⟩ := asrt_b hm
          refine at_run 8 [⟨true, [], vS (Instr.indexAt 34 (.slice A1 (Int.toNat (w64 (n1 * n1))) c1) (.int .i64 z1)), .pointer (some (sAddr A1 z1))⟩] [none, none, none, none, none, none, none, some (.pointer (some (sAddr A1 z1)))] [0, 3, 12, 13, 44, 45] [pl 0 (.int .i64 n1), pl 3 (.slice A1 (Int.toNat (w64 (n1 * n1))) c1), pl 12 (.int .i64 (((Int.toNat (w64 (n1 * n1))) : Nat) : Int)), pl 13 (.int .i64 z1), pl 44 (.int .i64 (w64 ((w64 (n1 * n1)) - z1))), pl 45 (.pointer (some (sAddr A1 z1)))] hF hS (by kernel_rfl) (by kernel_rfl) ?_ (fun a w hF hS => ?_)
          · exact obs_cons (ob_ix1 (f := (Value.int .i64)) (m := (l1.set (Int.toNat z1) (w64 (z1 + 1)))) Und34 hi3 hs3 (hS.at_ 0 rfl).rd ((hS.at_ 0 rfl).len1) (fun _ => hp5)) <| obs_nil
          obtain ⟨w, hrun, hS⟩ := run_set1 (P := Try.prog) (t := 3) (x := (w64 ((w64 (n1 * n1)) - z1))) (Value.int .i64) (hS.at_ 0 rfl) hi3 hs3 rfl rfl hp5
          refine at_skip hF (by kernel_rfl) hrun ?_
          have hS : Sep w0 B w (own 3 (.slice A1 (Int.toNat (w64 (n1 * n1))) c1) (vI ((l1.set (Int.toNat z1) (w64 (z1 + 1))).set (Int.toNat z1) (w64 ((w64 (n1 * n1)) - z1)))) :: fs) := hS
          refine at_end [0, 3, 12, 13] [pl 0 (.int .i64 n1), pl 3 (.slice A1 (Int.toNat (w64 (n1 * n1))) c1), pl 12 (.int .i64 (((Int.toNat (w64 (n1 * n1))) : Nat) : Int)), pl 13 (.int .i64 z1)] hF rfl (by kernel_rfl) (fun hF => ?_)
          refine block_n ?_
          refine then_n ?_
          exact ⟨((l1.set (Int.toNat z1) (w64 (z1 + 1))).set (Int.toNat z1) (w64 ((w64 (n1 * n1)) - z1))), hF.weak [0, 3, 12, 13] (by kernel_rfl), hS, hm⟩
        · replace hm := if_f hm hb
          refine wpIn_skip ?_
          refine block_n ?_
          refine then_n ?_
          exact ⟨(l1.set (Int.toNat z1) (w64 (z1 + 1))), hF.weak [0, 3, 12, 13] (by kernel_rfl), hS, hm⟩
    · refine cond_ev (t := 14) (b := decide (z1 < (((Int.toNat (w64 (n1 * n1))) : Nat) : Int))) hF (by kernel_rfl) (fun hb => ?_) (fun hb => ?_)
      · replace hm := if_t hm hb
        refine wpIn_skip ?_
        refine then_n ?_
        exact ⟨hF.weak [0, 3, 12, 13] (by kernel_rfl), hS, hm⟩
      · replace hm := if_f hm hb
        refine wpIn_exit ?_
        refine then_e (then_e (block_e (then_n ?_)))
        rw [← hφ1] at hm
        replace hm := done_b hm
        unfold magic_double_K1 at hm
        try dsimp only at hm
        have hm : (magic_double_J1 l1).bind some = some r := hm
        exact ⟨l1, hF.weak [3] (by kernel_rfl), hS, hm⟩

noncomputable def magic_single_J8  (n1 : Int) (r1 : (List Int)) (z1 : Int) (z2 : Int) (lux1 : List Int) (l5 : List Int) (z3 : Int) : Option (St (List Int × Int) (List Int)) :=
  some (.next ((l5.set (Int.toNat (w64 ((w64 ((w64 ((w64 ((w64 (2 * z1)) + (w64 (Int.tdiv z3 2)))) * n1)) + (w64 (2 * z2)))) + (Int.tmod z3 2)))) (w64 ((w64 (4 * (w64 ((geti r1 (w64 ((w64 (z1 * (w64 (Int.tdiv n1 2)))) + z2))) - 1)))) + (geti lux1 z3)))), (w64 (z3 + 1))))

noncomputable def magic_single_J7  (n1 : Int) (r1 : (List Int)) (z1 : Int) (z2 : Int) (lux1 : List Int) (l5 : List Int) (z3 : Int) : Option (St (List Int × Int) (List Int)) :=
  asrt (0 ≤ z3 ∧ z3 < 4) <| asrt (0 ≤ (w64 ((w64 (z1 * (w64 (Int.tdiv n1 2)))) + z2)) ∧ (w64 ((w64 (z1 * (w64 (Int.tdiv n1 2)))) + z2)) < (r1.length : Int)) <| asrt (0 ≤ (w64 ((w64 ((w64 ((w64 ((w64 (2 * z1)) + (w64 (Int.tdiv z3 2)))) * n1)) + (w64 (2 * z2)))) + (Int.tmod z3 2))) ∧ (w64 ((w64 ((w64 ((w64 ((w64 (2 * z1)) + (w64 (Int.tdiv z3 2)))) * n1)) + (w64 (2 * z2)))) + (Int.tmod z3 2))) < (((Int.toNat (w64 (n1 * n1))) : Nat) : Int)) <| (magic_single_J8 n1 r1 z1 z2 lux1 l5 z3)

noncomputable def magic_single_J5  (z2 : Int) (l6 : List Int) : Option (St (List Int × Int) (List Int)) :=
  some (.next (l6, (w64 (z2 + 1))))

noncomputable def magic_single_K3  (z2 : Int) : (List Int) → Option (St (List Int × Int) (List Int)) :=
  fun (x : (List Int)) => match x with | l6 => (magic_single_J5 z2) l6

noncomputable def magic_single_L3  (n1 : Int) (r1 : (List Int)) (z1 : Int) (z2 : Int) (lux1 : List Int) : (List Int × Int) → Option (St (List Int × Int) (List Int)) :=
  fun (x : (List Int × Int)) => match x with | (l5, z3) => if (decide (z3 < 4)) then ((magic_single_J7 n1 r1 z1 z2 lux1 l5 z3)) else (some (.done l5))

noncomputable def magic_single_J6  (n1 : Int) (r1 : (List Int)) (z1 : Int) (l3 : List Int) (z2 : Int) (lux1 : List Int) : Option (St (List Int × Int) (List Int)) :=
  (loop (magic_single_L3 n1 r1 z1 z2 lux1) (l3, 0)).bind (magic_single_K3 z2)

noncomputable def magic_single_J4  (n1 : Int) (r1 : (List Int)) (z1 : Int) (l3 : List Int) (z2 : Int) : Option (St (List Int × Int) (List Int)) :=
  if (((z1 == (w64 ((w64 (Int.tdiv (w64 (Int.tdiv n1 2)) 2)) + 1))) && (z2 != (w64 (Int.tdiv (w64 (Int.tdiv n1 2)) 2)))) || ((z1 == (w64 (Int.tdiv (w64 (Int.tdiv n1 2)) 2))) && (z2 == (w64 (Int.tdiv (w64 (Int.tdiv n1 2)) 2))))) then ((magic_single_J6 n1 r1 z1 l3 z2) ([1, 4, 2, 3] : List Int)) else (if (decide ((w64 ((w64 (Int.tdiv (w64 (Int.tdiv n1 2)) 2)) + 1)) < z1)) then ((magic_single_J6 n1 r1 z1 l3 z2) ([1, 4, 3, 2] : List Int)) else (if ((z1 == (w64 ((w64 (Int.tdiv (w64 (Int.tdiv n1 2)) 2)) + 1))) && (z2 == (w64 (Int.tdiv (w64 (Int.tdiv n1 2)) 2)))) then ((magic_single_J6 n1 r1 z1 l3 z2) ([4, 1, 2, 3] : List Int)) else ((magic_single_J6 n1 r1 z1 l3 z2) ([4, 1, 2, 3] : List Int))))

noncomputable def magic_single_J3  (z1 : Int) (l4 : List Int) : Option (St (List Int × Int) (List Int)) :=
  some (.next (l4, (w64 (z1 + 1))))

noncomputable def magic_single_K2  (z1 : Int) : (List Int) → Option (St (List Int × Int) (List Int)) :=
  fun (x : (List Int)) => match x with | l4 => (magic_single_J3 z1) l4

noncomputable def magic_single_L2  (n1 : Int) (r1 : (List Int)) (z1 : Int) : (List Int × Int) → Option (St (List Int × Int) (List Int)) :=
  fun (x : (List Int × Int)) => match x with | (l3, z2) => if (decide (z2 < (w64 (Int.tdiv n1 2)))) then ((magic_single_J4 n1 r1 z1 l3 z2)) else (some (.done l3))

noncomputable def magic_single_J2  (n1 : Int) (r1 : (List Int)) (l1 : List Int) (z1 : Int) : Option (St (List Int × Int) (List Int)) :=
  (loop (magic_single_L2 n1 r1 z1) (l1, 0)).bind (magic_single_K2 z1)

noncomputable def magic_single_J1  (l2 : List Int) : Option (List Int) :=
  some l2

noncomputable def magic_single_K1  : (List Int) → Option (List Int) :=
  fun (x : (List Int)) => match x with | l2 => magic_single_J1 l2

noncomputable def magic_single_L1  (n1 : Int) (r1 : (List Int)) : (List Int × Int) → Option (St (List Int × Int) (List Int)) :=
  fun (x : (List Int × Int)) => match x with | (l1, z1) => if (decide (z1 < (w64 (Int.tdiv n1 2)))) then ((magic_single_J2 n1 r1 l1 z1)) else (some (.done l1))

noncomputable def magic_single_m  (n1 : Int) : Option (List Int) :=
  (magic_odd_m (w64 (Int.tdiv n1 2))).bind fun r1 => asrt ((0 : Int) ≤ (w64 (n1 * n1)) ∧ (w64 (n1 * n1)) ≤ bigN) <| (loop (magic_single_L1 n1 r1) ((List.replicate (Int.toNat (w64 (n1 * n1))) (0 : Int)), 0)).bind magic_single_K1

set_option maxRecDepth 100000 in
set_option maxHeartbeats 4000000 in
theorem magic_single_w {n1 : Int} {r : (List Int)} {w0 w : World} {B : Nat} {fs : List HP} (hm : magic_single_m n1 = some r) (hS : Sep w0 B w (fs)) :
    Calls Try.prog 96 #[.int .i64 n1] w fun e w' => ∃ v, e = .returned v ∧ ∃ (A3 : Option Addr) (c3 : Nat), v = .slice A3 r.length c3 ∧ Sep w0 B w' (own 3 (.slice A3 r.length c3) (vI r) :: fs) := by
  obtain ⟨i3, hi3, hz3, hs3, hb3⟩ := info_parts Info3
  unfold magic_single_m at hm
  replace hm := start_b hm
  refine enter (l := [.int .i64 n1]) (n := 104) Try.func96 rfl rfl (by simp) (fun a hF => ?_)
  refine reg [] [] [0] [pl 0 (.int .i64 n1)] hF hS Fol (by kernel_rfl) (by kernel_rfl) (by kernel_rfl) ?_ (fun a w hF hS => ?_)
  · exact obs_nil
  refine reg [] [] [0, 3] [pl 0 (.int .i64 n1), pl 3 (.int .i64 (w64 (Int.tdiv n1 2)))] hF hS Fol (by kernel_rfl) (by kernel_rfl) (by kernel_rfl) ?_ (fun a w hF hS => ?_)
  · exact obs_nil
  refine reg [] [] [0, 3, 4] [pl 0 (.int .i64 n1), pl 3 (.int .i64 (w64 (Int.tdiv n1 2))), pl 4 (.int .i64 (w64 (Int.tdiv (w64 (Int.tdiv n1 2)) 2)))] hF hS Fol (by kernel_rfl) (by kernel_rfl) (by kernel_rfl) ?_ (fun a w hF hS => ?_)
  · exact obs_nil
  refine seqR ?_
  obtain ⟨r1, hr1, hm⟩ := call_b hm
  refine at_run 1 [] [] [0, 3, 4, 16] [pl 0 (.int .i64 n1), pl 3 (.int .i64 (w64 (Int.tdiv n1 2))), pl 4 (.int .i64 (w64 (Int.tdiv (w64 (Int.tdiv n1 2)) 2))), pl 16 (.int .i64 (w64 (Int.tdiv n1 2)))] hF hS (by kernel_rfl) (by kernel_rfl) ?_ (fun a w hF hS => ?_)
  · exact obs_nil
  refine at_call (f := 94) (args := #[.int .i64 (w64 (Int.tdiv n1 2))]) (d := 17) hF (by kernel_rfl) (by kernel_rfl) Try.func94 (by kernel_rfl) rfl (magic_odd_w hr1 hS ) (fun v a w hR hF => ?_)
  clear hS
  obtain ⟨A1, c1, rfl, hS⟩ := hR
  have hS : Sep w0 B w (own 3 (.slice A1 r1.length c1) (vI r1) :: fs) := hS
  refine at_run 1 [] [] [0, 3, 4, 5] [pl 0 (.int .i64 n1), pl 3 (.int .i64 (w64 (Int.tdiv n1 2))), pl 4 (.int .i64 (w64 (Int.tdiv (w64 (Int.tdiv n1 2)) 2))), pl 5 (.slice A1 r1.length c1)] hF hS (by kernel_rfl) (by kernel_rfl) ?_ (fun a w hF hS => ?_)
  · exact obs_nil
  refine at_end [0, 3, 4, 5] [pl 0 (.int .i64 n1), pl 3 (.int .i64 (w64 (Int.tdiv n1 2))), pl 4 (.int .i64 (w64 (Int.tdiv (w64 (Int.tdiv n1 2)) 2))), pl 5 (.slice A1 r1.length c1)] hF rfl (by kernel_rfl) (fun hF => ?_)
  refine then_n ?_
  refine seqR ?_
  obtain ⟨hp1, hm⟩ := asrt_b hm
  refine at_run 3 [] [] [0, 3, 4, 5, 20] [pl 0 (.int .i64 n1), pl 3 (.int .i64 (w64 (Int.tdiv n1 2))), pl 4 (.int .i64 (w64 (Int.tdiv (w64 (Int.tdiv n1 2)) 2))), pl 5 (.slice A1 r1.length c1), pl 20 (.int .i64 (w64 (n1 * n1)))] hF hS (by kernel_rfl) (by kernel_rfl) ?_ (fun a w hF hS => ?_)
  · exact obs_nil
  obtain ⟨A2, c2, w, hrun, hS⟩ := run_mk1 (P := Try.prog) (t := 34) (Value.int .i64) (0 : Int) hS .i64 .i64 Und34 hi3 hz3 hs3 (by omega) rfl hp1
  have hS : Sep w0 B w (own 3 (.slice A2 (Int.toNat (w64 (n1 * n1))) c2) (vI (List.replicate (Int.toNat (w64 (n1 * n1))) (0 : Int))) :: own 3 (.slice A1 r1.length c1) (vI r1) :: fs) := hS
  refine at_do (d := 21) hF (by kernel_rfl) (by kernel_rfl) hrun (fun a hF => ?_)
  refine at_run 1 [] [] [0, 3, 4, 5, 6] [pl 0 (.int .i64 n1), pl 3 (.int .i64 (w64 (Int.tdiv n1 2))), pl 4 (.int .i64 (w64 (Int.tdiv (w64 (Int.tdiv n1 2)) 2))), pl 5 (.slice A1 r1.length c1), pl 6 (.slice A2 (Int.toNat (w64 (n1 * n1))) c2)] hF hS (by kernel_rfl) (by kernel_rfl) ?_ (fun a w hF hS => ?_)
  · exact obs_nil
  refine at_end [0, 3, 4, 5, 6] [pl 0 (.int .i64 n1), pl 3 (.int .i64 (w64 (Int.tdiv n1 2))), pl 4 (.int .i64 (w64 (Int.tdiv (w64 (Int.tdiv n1 2)) 2))), pl 5 (.slice A1 r1.length c1), pl 6 (.slice A2 (Int.toNat (w64 (n1 * n1))) c2)] hF rfl (by kernel_rfl) (fun hF => ?_)
  refine then_n ?_
  refine seq_cut (fun a w => ∃ (l2 : List Int), Fr 104 [pl 6 (.slice A2 (Int.toNat (w64 (n1 * n1))) c2)] a ∧ Sep w0 B w (own 3 (.slice A2 (Int.toNat (w64 (n1 * n1))) c2) (vI l2) :: fs) ∧ (magic_single_J1 l2).bind some = some r) ?_ ?_
  · rintro a w ⟨l2, hF, hS, hm⟩
    unfold magic_single_J1 at hm
    refine reg [] [] [2] [pl 2 (.slice A2 (Int.toNat (w64 (n1 * n1))) c2)] hF hS Fol (by kernel_rfl) (by kernel_rfl) (by kernel_rfl) ?_ (fun a w hF hS => ?_)
    · exact obs_nil
    refine wpIn_ret ?_
    have hl1 := (hS.at_ 0 rfl).len1
    have hS := (hS.at_ 0 rfl).reN hl1
    have hS : Sep w0 B w (own 3 (.slice A2 l2.length c2) (vI l2) :: fs) := hS
    have hF := hF.cast (t := 2) (v := .slice A2 (Int.toNat (w64 (n1 * n1))) c2) (v' := .slice A2 l2.length c2) rfl rfl (congrArg (fun k => Value.slice A2 k c2) hl1)
    have hm : some l2 = some r := hm
    obtain rfl := Option.some.inj hm
    exact retV (rs := [.tmp 2]) (vs := [.slice A2 l2.length c2]) hF rfl (rv_t (by kernel_rfl) <| rv_nil) rfl ⟨_, rfl, A2, c2, rfl, hS⟩
  · refine reg [] [] [0, 3, 4, 5, 6, 22, 23] [pl 0 (.int .i64 n1), pl 3 (.int .i64 (w64 (Int.tdiv n1 2))), pl 4 (.int .i64 (w64 (Int.tdiv (w64 (Int.tdiv n1 2)) 2))), pl 5 (.slice A1 r1.length c1), pl 6 (.slice A2 (Int.toNat (w64 (n1 * n1))) c2), pl 22 (.int .i64 (w64 (Int.tdiv n1 2))), pl 23 (.int .i64 0)] hF hS Fol (by kernel_rfl) (by kernel_rfl) (by kernel_rfl) ?_ (fun a w hF hS => ?_)
    · exact obs_nil
    refine wpIn_block ?_
    have hS := hS.pickN 2 [1, 0] (by decide)
    refine wp_loop_model (S := (List Int × Int)) (R := (List Int)) (magic_single_L1 n1 r1) (fun x => (magic_single_K1 x).bind some) r (fun (x : (List Int × Int)) a w => Fr 104 [pl 0 (.int .i64 n1), pl 3 (.int .i64 (w64 (Int.tdiv n1 2))), pl 4 (.int .i64 (w64 (Int.tdiv (w64 (Int.tdiv n1 2)) 2))), pl 5 (.slice A1 r1.length c1), pl 6 (.slice A2 (Int.toNat (w64 (n1 * n1))) c2), pl 22 (.int .i64 (w64 (Int.tdiv n1 2))), pl 23 (.int .i64 x.2)] a ∧ Sep w0 B w (own 3 (.slice A1 r1.length c1) (vI r1) :: own 3 (.slice A2 (Int.toNat (w64 (n1 * n1))) c2) (vI x.1) :: fs)) (assoc_b hm) ⟨hF.weak [0, 3, 4, 5, 6, 22, 23] (by kernel_rfl), hS⟩ ?_
    clear hF hS hm
    rintro nn1 ⟨l1, z1⟩ a w ⟨hF, hS⟩ hm
    generalize hφ1 : stK (magic_single_L1 n1 r1) nn1 (fun x => (magic_single_K1 x).bind some) = φ1 at hm
    unfold magic_single_L1 at hm
    dsimp only at hF hS hm
    refine reg [] [] [0, 3, 4, 5, 6, 22, 23, 24] [pl 0 (.int .i64 n1), pl 3 (.int .i64 (w64 (Int.tdiv n1 2))), pl 4 (.int .i64 (w64 (Int.tdiv (w64 (Int.tdiv n1 2)) 2))), pl 5 (.slice A1 r1.length c1), pl 6 (.slice A2 (Int.toNat (w64 (n1 * n1))) c2), pl 22 (.int .i64 (w64 (Int.tdiv n1 2))), pl 23 (.int .i64 z1), pl 24 (.bool (decide (z1 < (w64 (Int.tdiv n1 2)))))] hF hS Fol (by kernel_rfl) (by kernel_rfl) (by kernel_rfl) ?_ (fun a w hF hS => ?_)
    · exact obs_nil
    refine seq_cut (fun a w => Fr 104 [pl 0 (.int .i64 n1), pl 3 (.int .i64 (w64 (Int.tdiv n1 2))), pl 4 (.int .i64 (w64 (Int.tdiv (w64 (Int.tdiv n1 2)) 2))), pl 5 (.slice A1 r1.length c1), pl 6 (.slice A2 (Int.toNat (w64 (n1 * n1))) c2), pl 22 (.int .i64 (w64 (Int.tdiv n1 2))), pl 23 (.int .i64 z1)] a ∧ Sep w0 B w (own 3 (.slice A1 r1.length c1) (vI r1) :: own 3 (.slice A2 (Int.toNat (w64 (n1 * n1))) c2) (vI l1) :: fs) ∧ ((magic_single_J2 n1 r1 l1 z1)).bind φ1 = some r) ?_ ?_
    · rintro a w ⟨hF, hS, hm⟩
      unfold magic_single_J2 at hm
      refine seq_cut (fun a w => ∃ (l4 : List Int), Fr 104 [pl 0 (.int .i64 n1), pl 3 (.int .i64 (w64 (Int.tdiv n1 2))), pl 4 (.int .i64 (w64 (Int.tdiv (w64 (Int.tdiv n1 2)) 2))), pl 5 (.slice A1 r1.length c1), pl 6 (.slice A2 (Int.toNat (w64 (n1 * n1))) c2), pl 22 (.int .i64 (w64 (Int.tdiv n1 2))), pl 23 (.int .i64 z1)] a ∧ Sep w0 B w (own 3 (.slice A1 r1.length c1) (vI r1) :: own 3 (.slice A2 (Int.toNat (w64 (n1 * n1))) c2) (vI l4) :: fs) ∧ ((magic_single_J3 z1) l4).bind φ1 = some r) ?_ ?_
      · rintro a w ⟨l4, hF, hS, hm⟩
        unfold magic_single_J3 at hm
        refine reg1 [] [] [0, 3, 4, 5, 6, 22, 23] [pl 0 (.int .i64 n1), pl 3 (.int .i64 (w64 (Int.tdiv n1 2))), pl 4 (.int .i64 (w64 (Int.tdiv (w64 (Int.tdiv n1 2)) 2))), pl 5 (.slice A1 r1.length c1), pl 6 (.slice A2 (Int.toNat (w64 (n1 * n1))) c2), pl 22 (.int .i64 (w64 (Int.tdiv n1 2))), pl 23 (.int .i64 (w64 (z1 + 1)))] hF hS Fol (by kernel_rfl) (by kernel_rfl) (by kernel_rfl) ?_ (fun a w hF hS => ?_)
        · exact obs_nil
        refine then_n ?_
        rw [← hφ1] at hm
        exact ⟨(l4, (w64 (z1 + 1))), ⟨hF.weak [0, 3, 4, 5, 6, 22, 23] (by kernel_rfl), hS⟩, hm⟩
      · refine wpIn_block ?_
        refine reg [] [] [0, 3, 4, 5, 6, 7, 22, 23] [pl 0 (.int .i64 n1), pl 3 (.int .i64 (w64 (Int.tdiv n1 2))), pl 4 (.int .i64 (w64 (Int.tdiv (w64 (Int.tdiv n1 2)) 2))), pl 5 (.slice A1 r1.length c1), pl 6 (.slice A2 (Int.toNat (w64 (n1 * n1))) c2), pl 7 (.int .i64 z1), pl 22 (.int .i64 (w64 (Int.tdiv n1 2))), pl 23 (.int .i64 z1)] hF hS Fol (by kernel_rfl) (by kernel_rfl) (by kernel_rfl) ?_ (fun a w hF hS => ?_)
        · exact obs_nil
        refine reg [] [] [0, 3, 4, 5, 6, 7, 22, 23, 26, 27] [pl 0 (.int .i64 n1), pl 3 (.int .i64 (w64 (Int.tdiv n1 2))), pl 4 (.int .i64 (w64 (Int.tdiv (w64 (Int.tdiv n1 2)) 2))), pl 5 (.slice A1 r1.length c1), pl 6 (.slice A2 (Int.toNat (w64 (n1 * n1))) c2), pl 7 (.int .i64 z1), pl 22 (.int .i64 (w64 (Int.tdiv n1 2))), pl 23 (.int .i64 z1), pl 26 (.int .i64 (w64 (Int.tdiv n1 2))), pl 27 (.int .i64 0)] hF hS Fol (by kernel_rfl) (by kernel_rfl) (by kernel_rfl) ?_ (fun a w hF hS => ?_)
        · exact obs_nil
        refine wpIn_block ?_
        refine wp_loop_model (S := (List Int × Int)) (R := (List Int)) (magic_single_L2 n1 r1 z1) (fun x => ((magic_single_K2 z1) x).bind φ1) r (fun (x : (List Int × Int)) a w => Fr 104 [pl 0 (.int .i64 n1), pl 3 (.int .i64 (w64 (Int.tdiv n1 2))), pl 4 (.int .i64 (w64 (Int.tdiv (w64 (Int.tdiv n1 2)) 2))), pl 5 (.slice A1 r1.length c1), pl 6 (.slice A2 (Int.toNat (w64 (n1 * n1))) c2), pl 7 (.int .i64 z1), pl 22 (.int .i64 (w64 (Int.tdiv n1 2))), pl 23 (.int .i64 z1), pl 26 (.int .i64 (w64 (Int.tdiv n1 2))), pl 27 (.int .i64 x.2)] a ∧ Sep w0 B w (own 3 (.slice A1 r1.length c1) (vI r1) :: own 3 (.slice A2 (Int.toNat (w64 (n1 * n1))) c2) (vI x.1) :: fs)) (assoc_b hm) ⟨hF.weak [0, 3, 4, 5, 6, 7, 22, 23, 26, 27] (by kernel_rfl), hS⟩ ?_
        clear hF hS hm
        rintro nn2 ⟨l3, z2⟩ a w ⟨hF, hS⟩ hm
        generalize hφ2 : stK (magic_single_L2 n1 r1 z1) nn2 (fun x => ((magic_single_K2 z1) x).bind φ1) = φ2 at hm
        unfold magic_single_L2 at hm
        dsimp only at hF hS hm
        refine reg [] [] [0, 3, 4, 5, 6, 7, 22, 23, 26, 27, 28] [pl 0 (.int .i64 n1), pl 3 (.int .i64 (w64 (Int.tdiv n1 2))), pl 4 (.int .i64 (w64 (Int.tdiv (w64 (Int.tdiv n1 2)) 2))), pl 5 (.slice A1 r1.length c1), pl 6 (.slice A2 (Int.toNat (w64 (n1 * n1))) c2), pl 7 (.int .i64 z1), pl 22 (.int .i64 (w64 (Int.tdiv n1 2))), pl 23 (.int .i64 z1), pl 26 (.int .i64 (w64 (Int.tdiv n1 2))), pl 27 (.int .i64 z2), pl 28 (.bool (decide (z2 < (w64 (Int.tdiv n1 2)))))] hF hS Fol (by kernel_rfl) (by kernel_rfl) (by kernel_rfl) ?_ (fun a w hF hS => ?_)
        · exact obs_nil
        refine seq_cut (fun a w => Fr 104 [pl 0 (.int .i64 n1), pl 3 (.int .i64 (w64 (Int.tdiv n1 2))), pl 4 (.int .i64 (w64 (Int.tdiv (w64 (Int.tdiv n1 2)) 2))), pl 5 (.slice A1 r1.length c1), pl 6 (.slice A2 (Int.toNat (w64 (n1 * n1))) c2), pl 7 (.int .i64 z1), pl 22 (.int .i64 (w64 (Int.tdiv n1 2))), pl 23 (.int .i64 z1), pl 26 (.int .i64 (w64 (Int.tdiv n1 2))), pl 27 (.int .i64 z2)] a ∧ Sep w0 B w (own 3 (.slice A1 r1.length c1) (vI r1) :: own 3 (.slice A2 (Int.toNat (w64 (n1 * n1))) c2) (vI l3) :: fs) ∧ ((magic_single_J4 n1 r1 z1 l3 z2)).bind φ2 = some r) ?_ ?_
        · rintro a w ⟨hF, hS, hm⟩
          unfold magic_single_J4 at hm
          refine seq_cut (fun a w => ∃ (l6 : List Int), Fr 104 [pl 0 (.int .i64 n1), pl 3 (.int .i64 (w64 (Int.tdiv n1 2))), pl 4 (.int .i64 (w64 (Int.tdiv (w64 (Int.tdiv n1 2)) 2))), pl 5 (.slice A1 r1.length c1), pl 6 (.slice A2 (Int.toNat (w64 (n1 * n1))) c2), pl 7 (.int .i64 z1), pl 22 (.int .i64 (w64 (Int.tdiv n1 2))), pl 23 (.int .i64 z1), pl 26 (.int .i64 (w64 (Int.tdiv n1 2))), pl 27 (.int .i64 z2)] a ∧ Sep w0 B w (own 3 (.slice A1 r1.length c1) (vI r1) :: own 3 (.slice A2 (Int.toNat (w64 (n1 * n1))) c2) (vI l6) :: fs) ∧ ((magic_single_J5 z2) l6).bind φ2 = some r) ?_ ?_
          · rintro a w ⟨l6, hF, hS, hm⟩
            unfold magic_single_J5 at hm
            refine reg1 [] [] [0, 3, 4, 5, 6, 7, 22, 23, 26, 27] [pl 0 (.int .i64 n1), pl 3 (.int .i64 (w64 (Int.tdiv n1 2))), pl 4 (.int .i64 (w64 (Int.tdiv (w64 (Int.tdiv n1 2)) 2))), pl 5 (.slice A1 r1.length c1), pl 6 (.slice A2 (Int.toNat (w64 (n1 * n1))) c2), pl 7 (.int .i64 z1), pl 22 (.int .i64 (w64 (Int.tdiv n1 2))), pl 23 (.int .i64 z1), pl 26 (.int .i64 (w64 (Int.tdiv n1 2))), pl 27 (.int .i64 (w64 (z2 + 1)))] hF hS Fol (by kernel_rfl) (by kernel_rfl) (by kernel_rfl) ?_ (fun a w hF hS => ?_)
            · exact obs_nil
            refine then_n ?_
            rw [← hφ2] at hm
            exact ⟨(l6, (w64 (z2 + 1))), ⟨hF.weak [0, 3, 4, 5, 6, 7, 22, 23, 26, 27] (by kernel_rfl), hS⟩, hm⟩
          · refine wpIn_block ?_
            refine reg [] [] [0, 3, 4, 5, 6, 7, 8, 22, 23, 26, 27] [pl 0 (.int .i64 n1), pl 3 (.int .i64 (w64 (Int.tdiv n1 2))), pl 4 (.int .i64 (w64 (Int.tdiv (w64 (Int.tdiv n1 2)) 2))), pl 5 (.slice A1 r1.length c1), pl 6 (.slice A2 (Int.toNat (w64 (n1 * n1))) c2), pl 7 (.int .i64 z1), pl 8 (.int .i64 z2), pl 22 (.int .i64 (w64 (Int.tdiv n1 2))), pl 23 (.int .i64 z1), pl 26 (.int .i64 (w64 (Int.tdiv n1 2))), pl 27 (.int .i64 z2)] hF hS Fol (by kernel_rfl) (by kernel_rfl) (by kernel_rfl) ?_ (fun a w hF hS => ?_)
            · exact obs_nil
            refine seqR ?_
            refine at_run 1 [] [] [0, 3, 4, 5, 6, 7, 8, 22, 23, 26, 27, 30] [pl 0 (.int .i64 n1), pl 3 (.int .i64 (w64 (Int.tdiv n1 2))), pl 4 (.int .i64 (w64 (Int.tdiv (w64 (Int.tdiv n1 2)) 2))), pl 5 (.slice A1 r1.length c1), pl 6 (.slice A2 (Int.toNat (w64 (n1 * n1))) c2), pl 7 (.int .i64 z1), pl 8 (.int .i64 z2), pl 22 (.int .i64 (w64 (Int.tdiv n1 2))), pl 23 (.int .i64 z1), pl 26 (.int .i64 (w64 (Int.tdiv n1 2))), pl 27 (.int .i64 z2), pl 30 (.agg (List.toArray (([] : List Value) ++ (arr1 (Value.int .i64) (0 : Int) 4 ([4, 1, 2, 3] : List Int) ++ ([] : List Value)))))] hF hS (by kernel_rfl) (by kernel_rfl) ?_ (fun a w hF hS => ?_)
            · exact obs_nil
            refine at_do (d := 9) (s := vS (Instr.alloc 117 true (.tuple #[]))) (v := .pointer (some ⟨w.heap.size, 0, none⟩)) (w' := w.alloc (.cells (List.toArray (([] : List Value) ++ (arr1 (Value.int .i64) (0 : Int) 4 (List.replicate 4 (0 : Int)) ++ ([] : List Value)))) 117)) hF (by kernel_rfl) (by kernel_rfl) (by kernel_rfl) (fun a hF => ?_)
            have hS : Sep w0 B (w.alloc (.cells (List.toArray (([] : List Value) ++ (arr1 (Value.int .i64) (0 : Int) 4 (List.replicate 4 (0 : Int)) ++ ([] : List Value)))) 117)) (blk w.heap.size 117 (List.toArray (([] : List Value) ++ (arr1 (Value.int .i64) (0 : Int) 4 (List.replicate 4 (0 : Int)) ++ ([] : List Value)))) :: (own 3 (.slice A1 r1.length c1) (vI r1) :: own 3 (.slice A2 (Int.toNat (w64 (n1 * n1))) c2) (vI l3) :: fs)) := hS.box 117 (List.toArray (([] : List Value) ++ (arr1 (Value.int .i64) (0 : Int) 4 (List.replicate 4 (0 : Int)) ++ ([] : List Value))))
            generalize w.heap.size = g1 at hF hS
            generalize w.alloc (.cells (List.toArray (([] : List Value) ++ (arr1 (Value.int .i64) (0 : Int) 4 (List.replicate 4 (0 : Int)) ++ ([] : List Value)))) 117) = w at hS ⊢
            obtain ⟨w, hrun, hS⟩ := run_putA (P := Try.prog) (t := 117) (us := (List.toArray (([] : List Value) ++ (arr1 (Value.int .i64) (0 : Int) 4 ([4, 1, 2, 3] : List Int) ++ ([] : List Value))))) (o := 0) (hS.at_ 0 rfl) (by kernel_rfl) (all_one (by kernel_rfl)) (Nat.le_of_ble_eq_true (by kernel_rfl))
            refine at_skip hF (by kernel_rfl) hrun ?_
            have hS : Sep w0 B w (blk g1 117 (List.toArray (([] : List Value) ++ (arr1 (Value.int .i64) (0 : Int) 4 ([4, 1, 2, 3] : List Int) ++ ([] : List Value)))) :: own 3 (.slice A1 r1.length c1) (vI r1) :: own 3 (.slice A2 (Int.toNat (w64 (n1 * n1))) c2) (vI l3) :: fs) := hS
            refine at_end [0, 3, 4, 5, 6, 7, 8, 9, 22, 23, 26, 27] [pl 0 (.int .i64 n1), pl 3 (.int .i64 (w64 (Int.tdiv n1 2))), pl 4 (.int .i64 (w64 (Int.tdiv (w64 (Int.tdiv n1 2)) 2))), pl 5 (.slice A1 r1.length c1), pl 6 (.slice A2 (Int.toNat (w64 (n1 * n1))) c2), pl 7 (.int .i64 z1), pl 8 (.int .i64 z2), pl 9 (.pointer (some ⟨g1, 0, none⟩)), pl 22 (.int .i64 (w64 (Int.tdiv n1 2))), pl 23 (.int .i64 z1), pl 26 (.int .i64 (w64 (Int.tdiv n1 2))), pl 27 (.int .i64 z2)] hF rfl (by kernel_rfl) (fun hF => ?_)
            refine then_n ?_
            refine seq_cut (fun a w => ∃ (lux1 : List Int), Fr 104 [pl 0 (.int .i64 n1), pl 3 (.int .i64 (w64 (Int.tdiv n1 2))), pl 4 (.int .i64 (w64 (Int.tdiv (w64 (Int.tdiv n1 2)) 2))), pl 5 (.slice A1 r1.length c1), pl 6 (.slice A2 (Int.toNat (w64 (n1 * n1))) c2), pl 7 (.int .i64 z1), pl 8 (.int .i64 z2), pl 9 (.pointer (some ⟨g1, 0, none⟩)), pl 22 (.int .i64 (w64 (Int.tdiv n1 2))), pl 23 (.int .i64 z1), pl 26 (.int .i64 (w64 (Int.tdiv n1 2))), pl 27 (.int .i64 z2)] a ∧ Sep w0 B w (own 3 (.slice A1 r1.length c1) (vI r1) :: own 3 (.slice A2 (Int.toNat (w64 (n1 * n1))) c2) (vI l3) :: blk g1 117 (List.toArray (([] : List Value) ++ (arr1 (Value.int .i64) (0 : Int) 4 lux1 ++ ([] : List Value)))) :: fs) ∧ ((magic_single_J6 n1 r1 z1 l3 z2) lux1).bind φ2 = some r) ?_ ?_
            · rintro a w ⟨lux1, hF, hS, hm⟩
              unfold magic_single_J6 at hm
              refine reg [⟨false, [], vS (Instr.loadAt 117 (.pointer (some ⟨g1, 0, none⟩))), .agg (List.toArray (([] : List Value) ++ (arr1 (Value.int .i64) (0 : Int) 4 lux1 ++ ([] : List Value))))⟩] [some (.agg (List.toArray (([] : List Value) ++ (arr1 (Value.int .i64) (0 : Int) 4 lux1 ++ ([] : List Value))))), none] [0, 3, 4, 5, 6, 7, 8, 22, 23, 26, 27, 68, 69] [pl 0 (.int .i64 n1), pl 3 (.int .i64 (w64 (Int.tdiv n1 2))), pl 4 (.int .i64 (w64 (Int.tdiv (w64 (Int.tdiv n1 2)) 2))), pl 5 (.slice A1 r1.length c1), pl 6 (.slice A2 (Int.toNat (w64 (n1 * n1))) c2), pl 7 (.int .i64 z1), pl 8 (.int .i64 z2), pl 22 (.int .i64 (w64 (Int.tdiv n1 2))), pl 23 (.int .i64 z1), pl 26 (.int .i64 (w64 (Int.tdiv n1 2))), pl 27 (.int .i64 z2), pl 68 (.agg (List.toArray (([] : List Value) ++ (arr1 (Value.int .i64) (0 : Int) 4 lux1 ++ ([] : List Value))))), pl 69 (.int .i64 0)] hF hS Fol (by kernel_rfl) (by kernel_rfl) (by kernel_rfl) ?_ (fun a w hF hS => ?_)
              · exact obs_cons (ob_loadA (cs := (List.toArray (([] : List Value) ++ (arr1 (Value.int .i64) (0 : Int) 4 lux1 ++ ([] : List Value))))) (by kernel_rfl) (by kernel_rfl) (fun _ _ hS => (hS.at_ 2 rfl).cellsAt 0 (by rfl))) <| obs_nil
              refine wpIn_block ?_
              have hS := hS.pickN 3 [0, 1] (by decide)
              refine wp_loop_model (S := (List Int × Int)) (R := (List Int)) (magic_single_L3 n1 r1 z1 z2 lux1) (fun x => ((magic_single_K3 z2) x).bind φ2) r (fun (x : (List Int × Int)) a w => Fr 104 [pl 0 (.int .i64 n1), pl 3 (.int .i64 (w64 (Int.tdiv n1 2))), pl 4 (.int .i64 (w64 (Int.tdiv (w64 (Int.tdiv n1 2)) 2))), pl 5 (.slice A1 r1.length c1), pl 6 (.slice A2 (Int.toNat (w64 (n1 * n1))) c2), pl 7 (.int .i64 z1), pl 8 (.int .i64 z2), pl 22 (.int .i64 (w64 (Int.tdiv n1 2))), pl 23 (.int .i64 z1), pl 26 (.int .i64 (w64 (Int.tdiv n1 2))), pl 27 (.int .i64 z2), pl 68 (.agg (List.toArray (([] : List Value) ++ (arr1 (Value.int .i64) (0 : Int) 4 lux1 ++ ([] : List Value))))), pl 69 (.int .i64 x.2)] a ∧ Sep w0 B w (own 3 (.slice A1 r1.length c1) (vI r1) :: own 3 (.slice A2 (Int.toNat (w64 (n1 * n1))) c2) (vI x.1) :: fs)) (assoc_b hm) ⟨hF.weak [0, 3, 4, 5, 6, 7, 8, 22, 23, 26, 27, 68, 69] (by kernel_rfl), hS⟩ ?_
              clear hF hS hm
              rintro nn3 ⟨l5, z3⟩ a w ⟨hF, hS⟩ hm
              generalize hφ3 : stK (magic_single_L3 n1 r1 z1 z2 lux1) nn3 (fun x => ((magic_single_K3 z2) x).bind φ2) = φ3 at hm
              unfold magic_single_L3 at hm
              dsimp only at hF hS hm
              refine reg [] [] [0, 3, 4, 5, 6, 7, 8, 22, 23, 26, 27, 68, 69, 70] [pl 0 (.int .i64 n1), pl 3 (.int .i64 (w64 (Int.tdiv n1 2))), pl 4 (.int .i64 (w64 (Int.tdiv (w64 (Int.tdiv n1 2)) 2))), pl 5 (.slice A1 r1.length c1), pl 6 (.slice A2 (Int.toNat (w64 (n1 * n1))) c2), pl 7 (.int .i64 z1), pl 8 (.int .i64 z2), pl 22 (.int .i64 (w64 (Int.tdiv n1 2))), pl 23 (.int .i64 z1), pl 26 (.int .i64 (w64 (Int.tdiv n1 2))), pl 27 (.int .i64 z2), pl 68 (.agg (List.toArray (([] : List Value) ++ (arr1 (Value.int .i64) (0 : Int) 4 lux1 ++ ([] : List Value))))), pl 69 (.int .i64 z3), pl 70 (.bool (decide (z3 < 4)))] hF hS Fol (by kernel_rfl) (by kernel_rfl) (by kernel_rfl) ?_ (fun a w hF hS => ?_)
              · exact obs_nil
              refine seq_cut (fun a w => Fr 104 [pl 0 (.int .i64 n1), pl 3 (.int .i64 (w64 (Int.tdiv n1 2))), pl 4 (.int .i64 (w64 (Int.tdiv (w64 (Int.tdiv n1 2)) 2))), pl 5 (.slice A1 r1.length c1), pl 6 (.slice A2 (Int.toNat (w64 (n1 * n1))) c2), pl 7 (.int .i64 z1), pl 8 (.int .i64 z2), pl 22 (.int .i64 (w64 (Int.tdiv n1 2))), pl 23 (.int .i64 z1), pl 26 (.int .i64 (w64 (Int.tdiv n1 2))), pl 27 (.int .i64 z2), pl 68 (.agg (List.toArray (([] : List Value) ++ (arr1 (Value.int .i64) (0 : Int) 4 lux1 ++ ([] : List Value))))), pl 69 (.int .i64 z3)] a ∧ Sep w0 B w (own 3 (.slice A1 r1.length c1) (vI r1) :: own 3 (.slice A2 (Int.toNat (w64 (n1 * n1))) c2) (vI l5) :: fs) ∧ ((magic_single_J7 n1 r1 z1 z2 lux1 l5 z3)).bind φ3 = some r) ?_ ?_
              · rintro a w ⟨hF, hS, hm⟩
                unfold magic_single_J7 at hm
                refine seq_cut (fun a w => Fr 104 [pl 0 (.int .i64 n1), pl 3 (.int .i64 (w64 (Int.tdiv n1 2))), pl 4 (.int .i64 (w64 (Int.tdiv (w64 (Int.tdiv n1 2)) 2))), pl 5 (.slice A1 r1.length c1), pl 6 (.slice A2 (Int.toNat (w64 (n1 * n1))) c2), pl 7 (.int .i64 z1), pl 8 (.int .i64 z2), pl 22 (.int .i64 (w64 (Int.tdiv n1 2))), pl 23 (.int .i64 z1), pl 26 (.int .i64 (w64 (Int.tdiv n1 2))), pl 27 (.int .i64 z2), pl 68 (.agg (List.toArray (([] : List Value) ++ (arr1 (Value.int .i64) (0 : Int) 4 lux1 ++ ([] : List Value))))), pl 69 (.int .i64 z3)] a ∧ Sep w0 B w (own 3 (.slice A1 r1.length c1) (vI r1) :: own 3 (.slice A2 (Int.toNat (w64 (n1 * n1))) c2) (vI (l5.set (Int.toNat (w64 ((w64 ((w64 ((w64 ((w64 (2 * z1)) + (w64 (Int.tdiv z3 2)))) * n1)) + (w64 (2 * z2)))) + (Int.tmod z3 2)))) (w64 ((w64 (4 * (w64 ((geti r1 (w64 ((w64 (z1 * (w64 (Int.tdiv n1 2)))) + z2))) - 1)))) + (geti lux1 z3))))) :: fs) ∧ ((magic_single_J8 n1 r1 z1 z2 lux1 l5 z3)).bind φ3 = some r) ?_ ?_
                · rintro a w ⟨hF, hS, hm⟩
                  unfold magic_single_J8 at hm
                  refine reg1 [] [] [0, 3, 4, 5, 6, 7, 8, 22, 23, 26, 27, 68, 69] [pl 0 (.int .i64 n1), pl 3 (.int .i64 (w64 (Int.tdiv n1 2))), pl 4 (.int .i64 (w64 (Int.tdiv (w64 (Int.tdiv n1 2)) 2))), pl 5 (.slice A1 r1.length c1), pl 6 (.slice A2 (Int.toNat (w64 (n1 * n1))) c2), pl 7 (.int .i64 z1), pl 8 (.int .i64 z2), pl 22 (.int .i64 (w64 (Int.tdiv n1 2))), pl 23 (.int .i64 z1), pl 26 (.int .i64 (w64 (Int.tdiv n1 2))), pl 27 (.int .i64 z2), pl 68 (.agg (List.toArray (([] : List Value) ++ (arr1 (Value.int .i64) (0 : Int) 4 lux1 ++ ([] : List Value))))), pl 69 (.int .i64 (w64 (z3 + 1)))] hF hS Fol (by kernel_rfl) (by kernel_rfl) (by kernel_rfl) ?_ (fun a w hF hS => ?_)
                  · exact obs_nil
                  refine then_n ?_
                  rw [← hφ3] at hm
                  exact ⟨((l5.set (Int.toNat (w64 ((w64 ((w64 ((w64 ((w64 (2 * z1)) + (w64 (Int.tdiv z3 2)))) * n1)) + (w64 (2 * z2)))) + (Int.tmod z3 2)))) (w64 ((w64 (4 * (w64 ((geti r1 (w64 ((w64 (z1 * (w64 (Int.tdiv n1 2)))) + z2))) - 1)))) + (geti lux1 z3)))), (w64 (z3 + 1))), ⟨hF.weak [0, 3, 4, 5, 6, 7, 8, 22, 23, 26, 27, 68, 69] (by kernel_rfl), hS⟩, hm⟩
                · refine wpIn_block ?_
                  obtain ⟨hp2, hm⟩ := asrt_b hm
                  refine reg [⟨true, [], vS (Instr.index 117 (.agg (List.toArray (([] : List Value) ++ (arr1 (Value.int .i64) (0 : Int) 4 lux1 ++ ([] : List Value))))) (.int .i64 z3)), .int .i64 (geti lux1 z3)⟩] [none, some (.int .i64 (geti lux1 z3)), none, none] [0, 3, 4, 5, 6, 7, 8, 10, 11, 22, 23, 26, 27, 68, 69] [pl 0 (.int .i64 n1), pl 3 (.int .i64 (w64 (Int.tdiv n1 2))), pl 4 (.int .i64 (w64 (Int.tdiv (w64 (Int.tdiv n1 2)) 2))), pl 5 (.slice A1 r1.length c1), pl 6 (.slice A2 (Int.toNat (w64 (n1 * n1))) c2), pl 7 (.int .i64 z1), pl 8 (.int .i64 z2), pl 10 (.int .i64 z3), pl 11 (.int .i64 (geti lux1 z3)), pl 22 (.int .i64 (w64 (Int.tdiv n1 2))), pl 23 (.int .i64 z1), pl 26 (.int .i64 (w64 (Int.tdiv n1 2))), pl 27 (.int .i64 z2), pl 68 (.agg (List.toArray (([] : List Value) ++ (arr1 (Value.int .i64) (0 : Int) 4 lux1 ++ ([] : List Value))))), pl 69 (.int .i64 z3)] hF hS Fol (by kernel_rfl) (by kernel_rfl) (by kernel_rfl) ?_ (fun a w hF hS => ?_)
                  · exact obs_cons (ob_idx1 (f := (Value.int .i64)) (z := (0 : Int)) (m := lux1) UndA117 (by kernel_rfl) (by kernel_rfl) (fun _ => hp2)) <| obs_nil
                  refine oneR ?_
                  obtain ⟨hp3, hm⟩ := asrt_b hm
                  obtain ⟨hp4, hm⟩ := asrt_b hm
                  refine at_run 27 [⟨true, [], vS (Instr.indexAt 34 (.slice A1 r1.length c1) (.int .i64 (w64 ((w64 (z1 * (w64 (Int.tdiv n1 2)))) + z2)))), .pointer (some (sAddr A1 (w64 ((w64 (z1 * (w64 (Int.tdiv n1 2)))) + z2))))⟩, ⟨false, [], vS (Instr.loadAt 3 (.pointer (some (sAddr A1 (w64 ((w64 (z1 * (w64 (Int.tdiv n1 2)))) + z2)))))), .int .i64 (geti r1 (w64 ((w64 (z1 * (w64 (Int.tdiv n1 2)))) + z2)))⟩, ⟨true, [], vS (Instr.indexAt 34 (.slice A2 (Int.toNat (w64 (n1 * n1))) c2) (.int .i64 (w64 ((w64 ((w64 ((w64 ((w64 (2 * z1)) + (w64 (Int.tdiv z3 2)))) * n1)) + (w64 (2 * z2)))) + (Int.tmod z3 2))))), .pointer (some (sAddr A2 (w64 ((w64 ((w64 ((w64 ((w64 (2 * z1)) + (w64 (Int.tdiv z3 2)))) * n1)) + (w64 (2 * z2)))) + (Int.tmod z3 2)))))⟩] [none, none, none, none, none, none, none, none, none, none, none, none, none, none, none, none, none, none, none, none, some (.pointer (some (sAddr A1 (w64 ((w64 (z1 * (w64 (Int.tdiv n1 2)))) + z2))))), some (.int .i64 (geti r1 (w64 ((w64 (z1 * (w64 (Int.tdiv n1 2)))) + z2)))), none, none, none, none, some (.pointer (some (sAddr A2 (w64 ((w64 ((w64 ((w64 ((w64 (2 * z1)) + (w64 (Int.tdiv z3 2)))) * n1)) + (w64 (2 * z2)))) + (Int.tmod z3 2))))))] [0, 3, 4, 5, 6, 7, 8, 22, 23, 26, 27, 68, 69, 98, 99] [pl 0 (.int .i64 n1), pl 3 (.int .i64 (w64 (Int.tdiv n1 2))), pl 4 (.int .i64 (w64 (Int.tdiv (w64 (Int.tdiv n1 2)) 2))), pl 5 (.slice A1 r1.length c1), pl 6 (.slice A2 (Int.toNat (w64 (n1 * n1))) c2), pl 7 (.int .i64 z1), pl 8 (.int .i64 z2), pl 22 (.int .i64 (w64 (Int.tdiv n1 2))), pl 23 (.int .i64 z1), pl 26 (.int .i64 (w64 (Int.tdiv n1 2))), pl 27 (.int .i64 z2), pl 68 (.agg (List.toArray (([] : List Value) ++ (arr1 (Value.int .i64) (0 : Int) 4 lux1 ++ ([] : List Value))))), pl 69 (.int .i64 z3), pl 98 (.int .i64 (w64 ((w64 (4 * (w64 ((geti r1 (w64 ((w64 (z1 * (w64 (Int.tdiv n1 2)))) + z2))) - 1)))) + (geti lux1 z3)))), pl 99 (.pointer (some (sAddr A2 (w64 ((w64 ((w64 ((w64 ((w64 (2 * z1)) + (w64 (Int.tdiv z3 2)))) * n1)) + (w64 (2 * z2)))) + (Int.tmod z3 2))))))] hF hS (by kernel_rfl) (by kernel_rfl) ?_ (fun a w hF hS => ?_)
                  · exact obs_cons (ob_ix1 (f := (Value.int .i64)) (m := r1) Und34 hi3 hs3 (hS.at_ 0 rfl).rd rfl (fun _ => hp3)) <| obs_cons (ob_get1 (n := r1.length) (m := r1) (Value.int .i64) (0 : Int) Agg3 (fun _ hS => ⟨_, (hS.at_ 0 rfl).rd⟩) (fun _ hS => rfl) (fun _ => hp3)) <| obs_cons (ob_ix1 (f := (Value.int .i64)) (m := l5) Und34 hi3 hs3 (hS.at_ 1 rfl).rd ((hS.at_ 1 rfl).len1) (fun _ => hp4)) <| obs_nil
                  obtain ⟨w, hrun, hS⟩ := run_set1 (P := Try.prog) (t := 3) (x := (w64 ((w64 (4 * (w64 ((geti r1 (w64 ((w64 (z1 * (w64 (Int.tdiv n1 2)))) + z2))) - 1)))) + (geti lux1 z3)))) (Value.int .i64) (hS.at_ 1 rfl) hi3 hs3 rfl rfl hp4
                  refine at_skip hF (by kernel_rfl) hrun ?_
                  have hS : Sep w0 B w (own 3 (.slice A1 r1.length c1) (vI r1) :: own 3 (.slice A2 (Int.toNat (w64 (n1 * n1))) c2) (vI (l5.set (Int.toNat (w64 ((w64 ((w64 ((w64 ((w64 (2 * z1)) + (w64 (Int.tdiv z3 2)))) * n1)) + (w64 (2 * z2)))) + (Int.tmod z3 2)))) (w64 ((w64 (4 * (w64 ((geti r1 (w64 ((w64 (z1 * (w64 (Int.tdiv n1 2)))) + z2))) - 1)))) + (geti lux1 z3))))) :: fs) := hS
                  refine at_end [0, 3, 4, 5, 6, 7, 8, 22, 23, 26, 27, 68, 69] [pl 0 (.int .i64 n1), pl 3 (.int .i64 (w64 (Int.tdiv n1 2))), pl 4 (.int .i64 (w64 (Int.tdiv (w64 (Int.tdiv n1 2)) 2))), pl 5 (.slice A1 r1.length c1), pl 6 (.slice A2 (Int.toNat (w64 (n1 * n1))) c2), pl 7 (.int .i64 z1), pl 8 (.int .i64 z2), pl 22 (.int .i64 (w64 (Int.tdiv n1 2))), pl 23 (.int .i64 z1), pl 26 (.int .i64 (w64 (Int.tdiv n1 2))), pl 27 (.int .i64 z2), pl 68 (.agg (List.toArray (([] : List Value) ++ (arr1 (Value.int .i64) (0 : Int) 4 lux1 ++ ([] : List Value))))), pl 69 (.int .i64 z3)] hF rfl (by kernel_rfl) (fun hF => ?_)
                  refine block_n ?_
                  refine then_n ?_
                  exact ⟨hF.weak [0, 3, 4, 5, 6, 7, 8, 22, 23, 26, 27, 68, 69] (by kernel_rfl), hS, hm⟩
              · refine cond_ev (t := 70) (b := decide (z3 < 4)) hF (by kernel_rfl) (fun hb => ?_) (fun hb => ?_)
                · replace hm := if_t hm hb
                  refine wpIn_skip ?_
                  refine then_n ?_
                  exact ⟨hF.weak [0, 3, 4, 5, 6, 7, 8, 22, 23, 26, 27, 68, 69] (by kernel_rfl), hS, hm⟩
                · replace hm := if_f hm hb
                  refine wpIn_exit ?_
                  refine then_e (then_e (block_e (block_n (then_n ?_))))
                  rw [← hφ3] at hm
                  replace hm := done_b hm
                  unfold magic_single_K3 at hm
                  try dsimp only at hm
                  have hm : ((magic_single_J5 z2) l5).bind φ2 = some r := hm
                  exact ⟨l5, hF.weak [0, 3, 4, 5, 6, 7, 22, 23, 26, 27] (by kernel_rfl), hS, hm⟩
            · refine wpIn_block ?_
              refine reg [] [] [0, 3, 4, 5, 6, 7, 8, 9, 22, 23, 26, 27, 31] [pl 0 (.int .i64 n1), pl 3 (.int .i64 (w64 (Int.tdiv n1 2))), pl 4 (.int .i64 (w64 (Int.tdiv (w64 (Int.tdiv n1 2)) 2))), pl 5 (.slice A1 r1.length c1), pl 6 (.slice A2 (Int.toNat (w64 (n1 * n1))) c2), pl 7 (.int .i64 z1), pl 8 (.int .i64 z2), pl 9 (.pointer (some ⟨g1, 0, none⟩)), pl 22 (.int .i64 (w64 (Int.tdiv n1 2))), pl 23 (.int .i64 z1), pl 26 (.int .i64 (w64 (Int.tdiv n1 2))), pl 27 (.int .i64 z2), pl 31 (.bool (((z1 == (w64 ((w64 (Int.tdiv (w64 (Int.tdiv n1 2)) 2)) + 1))) && (z2 != (w64 (Int.tdiv (w64 (Int.tdiv n1 2)) 2)))) || ((z1 == (w64 (Int.tdiv (w64 (Int.tdiv n1 2)) 2))) && (z2 == (w64 (Int.tdiv (w64 (Int.tdiv n1 2)) 2))))))] hF hS Fol (by kernel_rfl) (by kernel_rfl) (by kernel_rfl) ?_ (fun a w hF hS => ?_)
              · exact obs_nil
              refine cond_ev (t := 31) (b := ((z1 == (w64 ((w64 (Int.tdiv (w64 (Int.tdiv n1 2)) 2)) + 1))) && (z2 != (w64 (Int.tdiv (w64 (Int.tdiv n1 2)) 2)))) || ((z1 == (w64 (Int.tdiv (w64 (Int.tdiv n1 2)) 2))) && (z2 == (w64 (Int.tdiv (w64 (Int.tdiv n1 2)) 2))))) hF (by kernel_rfl) (fun hb => ?_) (fun hb => ?_)
              · replace hm := if_t hm hb
                refine oneR ?_
                refine at_run 1 [] [] [0, 3, 4, 5, 6, 7, 8, 9, 22, 23, 26, 27, 51] [pl 0 (.int .i64 n1), pl 3 (.int .i64 (w64 (Int.tdiv n1 2))), pl 4 (.int .i64 (w64 (Int.tdiv (w64 (Int.tdiv n1 2)) 2))), pl 5 (.slice A1 r1.length c1), pl 6 (.slice A2 (Int.toNat (w64 (n1 * n1))) c2), pl 7 (.int .i64 z1), pl 8 (.int .i64 z2), pl 9 (.pointer (some ⟨g1, 0, none⟩)), pl 22 (.int .i64 (w64 (Int.tdiv n1 2))), pl 23 (.int .i64 z1), pl 26 (.int .i64 (w64 (Int.tdiv n1 2))), pl 27 (.int .i64 z2), pl 51 (.agg (List.toArray (([] : List Value) ++ (arr1 (Value.int .i64) (0 : Int) 4 ([1, 4, 2, 3] : List Int) ++ ([] : List Value)))))] hF hS (by kernel_rfl) (by kernel_rfl) ?_ (fun a w hF hS => ?_)
                · exact obs_nil
                obtain ⟨w, hrun, hS⟩ := run_putA (P := Try.prog) (t := 117) (us := (List.toArray (([] : List Value) ++ (arr1 (Value.int .i64) (0 : Int) 4 ([1, 4, 2, 3] : List Int) ++ ([] : List Value))))) (o := 0) (hS.at_ 0 rfl) (by kernel_rfl) (all_one (by kernel_rfl)) (Nat.le_of_ble_eq_true (by kernel_rfl))
                refine at_skip hF (by kernel_rfl) hrun ?_
                have hS : Sep w0 B w (blk g1 117 (List.toArray (([] : List Value) ++ (arr1 (Value.int .i64) (0 : Int) 4 ([1, 4, 2, 3] : List Int) ++ ([] : List Value)))) :: own 3 (.slice A1 r1.length c1) (vI r1) :: own 3 (.slice A2 (Int.toNat (w64 (n1 * n1))) c2) (vI l3) :: fs) := hS
                refine at_end [0, 3, 4, 5, 6, 7, 8, 9, 22, 23, 26, 27] [pl 0 (.int .i64 n1), pl 3 (.int .i64 (w64 (Int.tdiv n1 2))), pl 4 (.int .i64 (w64 (Int.tdiv (w64 (Int.tdiv n1 2)) 2))), pl 5 (.slice A1 r1.length c1), pl 6 (.slice A2 (Int.toNat (w64 (n1 * n1))) c2), pl 7 (.int .i64 z1), pl 8 (.int .i64 z2), pl 9 (.pointer (some ⟨g1, 0, none⟩)), pl 22 (.int .i64 (w64 (Int.tdiv n1 2))), pl 23 (.int .i64 z1), pl 26 (.int .i64 (w64 (Int.tdiv n1 2))), pl 27 (.int .i64 z2)] hF rfl (by kernel_rfl) (fun hF => ?_)
                refine block_n ?_
                refine then_n ?_
                have hS := hS.pickN 3 [1, 2, 0] (by decide)
                exact ⟨([1, 4, 2, 3] : List Int), hF.weak [0, 3, 4, 5, 6, 7, 8, 9, 22, 23, 26, 27] (by kernel_rfl), hS, hm⟩
              · replace hm := if_f hm hb
                refine reg [] [] [0, 3, 4, 5, 6, 7, 8, 9, 22, 23, 26, 27, 52] [pl 0 (.int .i64 n1), pl 3 (.int .i64 (w64 (Int.tdiv n1 2))), pl 4 (.int .i64 (w64 (Int.tdiv (w64 (Int.tdiv n1 2)) 2))), pl 5 (.slice A1 r1.length c1), pl 6 (.slice A2 (Int.toNat (w64 (n1 * n1))) c2), pl 7 (.int .i64 z1), pl 8 (.int .i64 z2), pl 9 (.pointer (some ⟨g1, 0, none⟩)), pl 22 (.int .i64 (w64 (Int.tdiv n1 2))), pl 23 (.int .i64 z1), pl 26 (.int .i64 (w64 (Int.tdiv n1 2))), pl 27 (.int .i64 z2), pl 52 (.bool (decide ((w64 ((w64 (Int.tdiv (w64 (Int.tdiv n1 2)) 2)) + 1)) < z1)))] hF hS Fol (by kernel_rfl) (by kernel_rfl) (by kernel_rfl) ?_ (fun a w hF hS => ?_)
                · exact obs_nil
                refine cond_ev (t := 52) (b := decide ((w64 ((w64 (Int.tdiv (w64 (Int.tdiv n1 2)) 2)) + 1)) < z1)) hF (by kernel_rfl) (fun hb => ?_) (fun hb => ?_)
                · replace hm := if_t hm hb
                  refine oneR ?_
                  refine at_run 1 [] [] [0, 3, 4, 5, 6, 7, 8, 9, 22, 23, 26, 27, 57] [pl 0 (.int .i64 n1), pl 3 (.int .i64 (w64 (Int.tdiv n1 2))), pl 4 (.int .i64 (w64 (Int.tdiv (w64 (Int.tdiv n1 2)) 2))), pl 5 (.slice A1 r1.length c1), pl 6 (.slice A2 (Int.toNat (w64 (n1 * n1))) c2), pl 7 (.int .i64 z1), pl 8 (.int .i64 z2), pl 9 (.pointer (some ⟨g1, 0, none⟩)), pl 22 (.int .i64 (w64 (Int.tdiv n1 2))), pl 23 (.int .i64 z1), pl 26 (.int .i64 (w64 (Int.tdiv n1 2))), pl 27 (.int .i64 z2), pl 57 (.agg (List.toArray (([] : List Value) ++ (arr1 (Value.int .i64) (0 : Int) 4 ([1, 4, 3, 2] : List Int) ++ ([] : List Value)))))] hF hS (by kernel_rfl) (by kernel_rfl) ?_ (fun a w hF hS => ?_)
                  · exact obs_nil
                  obtain ⟨w, hrun, hS⟩ := run_putA (P := Try.prog) (t := 117) (us := (List.toArray (([] : List Value) ++ (arr1 (Value.int .i64) (0 : Int) 4 ([1, 4, 3, 2] : List Int) ++ ([] : List Value))))) (o := 0) (hS.at_ 0 rfl) (by kernel_rfl) (all_one (by kernel_rfl)) (Nat.le_of_ble_eq_true (by kernel_rfl))
                  refine at_skip hF (by kernel_rfl) hrun ?_
                  have hS : Sep w0 B w (blk g1 117 (List.toArray (([] : List Value) ++ (arr1 (Value.int .i64) (0 : Int) 4 ([1, 4, 3, 2] : List Int) ++ ([] : List Value)))) :: own 3 (.slice A1 r1.length c1) (vI r1) :: own 3 (.slice A2 (Int.toNat (w64 (n1 * n1))) c2) (vI l3) :: fs) := hS
                  refine at_end [0, 3, 4, 5, 6, 7, 8, 9, 22, 23, 26, 27] [pl 0 (.int .i64 n1), pl 3 (.int .i64 (w64 (Int.tdiv n1 2))), pl 4 (.int .i64 (w64 (Int.tdiv (w64 (Int.tdiv n1 2)) 2))), pl 5 (.slice A1 r1.length c1), pl 6 (.slice A2 (Int.toNat (w64 (n1 * n1))) c2), pl 7 (.int .i64 z1), pl 8 (.int .i64 z2), pl 9 (.pointer (some ⟨g1, 0, none⟩)), pl 22 (.int .i64 (w64 (Int.tdiv n1 2))), pl 23 (.int .i64 z1), pl 26 (.int .i64 (w64 (Int.tdiv n1 2))), pl 27 (.int .i64 z2)] hF rfl (by kernel_rfl) (fun hF => ?_)
                  refine block_n ?_
                  refine then_n ?_
                  have hS := hS.pickN 3 [1, 2, 0] (by decide)
                  exact ⟨([1, 4, 3, 2] : List Int), hF.weak [0, 3, 4, 5, 6, 7, 8, 9, 22, 23, 26, 27] (by kernel_rfl), hS, hm⟩
                · replace hm := if_f hm hb
                  refine reg [] [] [0, 3, 4, 5, 6, 7, 8, 9, 22, 23, 26, 27, 58] [pl 0 (.int .i64 n1), pl 3 (.int .i64 (w64 (Int.tdiv n1 2))), pl 4 (.int .i64 (w64 (Int.tdiv (w64 (Int.tdiv n1 2)) 2))), pl 5 (.slice A1 r1.length c1), pl 6 (.slice A2 (Int.toNat (w64 (n1 * n1))) c2), pl 7 (.int .i64 z1), pl 8 (.int .i64 z2), pl 9 (.pointer (some ⟨g1, 0, none⟩)), pl 22 (.int .i64 (w64 (Int.tdiv n1 2))), pl 23 (.int .i64 z1), pl 26 (.int .i64 (w64 (Int.tdiv n1 2))), pl 27 (.int .i64 z2), pl 58 (.bool ((z1 == (w64 ((w64 (Int.tdiv (w64 (Int.tdiv n1 2)) 2)) + 1))) && (z2 == (w64 (Int.tdiv (w64 (Int.tdiv n1 2)) 2)))))] hF hS Fol (by kernel_rfl) (by kernel_rfl) (by kernel_rfl) ?_ (fun a w hF hS => ?_)
                  · exact obs_nil
                  refine cond_ev (t := 58) (b := (z1 == (w64 ((w64 (Int.tdiv (w64 (Int.tdiv n1 2)) 2)) + 1))) && (z2 == (w64 (Int.tdiv (w64 (Int.tdiv n1 2)) 2)))) hF (by kernel_rfl) (fun hb => ?_) (fun hb => ?_)
                  · replace hm := if_t hm hb
                    refine wpIn_skip ?_
                    refine block_n ?_
                    refine then_n ?_
                    have hS := hS.pickN 3 [1, 2, 0] (by decide)
                    exact ⟨([4, 1, 2, 3] : List Int), hF.weak [0, 3, 4, 5, 6, 7, 8, 9, 22, 23, 26, 27] (by kernel_rfl), hS, hm⟩
                  · replace hm := if_f hm hb
                    refine wpIn_skip ?_
                    refine block_n ?_
                    refine then_n ?_
                    have hS := hS.pickN 3 [1, 2, 0] (by decide)
                    exact ⟨([4, 1, 2, 3] : List Int), hF.weak [0, 3, 4, 5, 6, 7, 8, 9, 22, 23, 26, 27] (by kernel_rfl), hS, hm⟩
        · refine cond_ev (t := 28) (b := decide (z2 < (w64 (Int.tdiv n1 2)))) hF (by kernel_rfl) (fun hb => ?_) (fun hb => ?_)
          · replace hm := if_t hm hb
            refine wpIn_skip ?_
            refine then_n ?_
            exact ⟨hF.weak [0, 3, 4, 5, 6, 7, 22, 23, 26, 27] (by kernel_rfl), hS, hm⟩
          · replace hm := if_f hm hb
            refine wpIn_exit ?_
            refine then_e (then_e (block_e (block_n (then_n ?_))))
            rw [← hφ2] at hm
            replace hm := done_b hm
            unfold magic_single_K2 at hm
            try dsimp only at hm
            have hm : ((magic_single_J3 z1) l3).bind φ1 = some r := hm
            exact ⟨l3, hF.weak [0, 3, 4, 5, 6, 22, 23] (by kernel_rfl), hS, hm⟩
    · refine cond_ev (t := 24) (b := decide (z1 < (w64 (Int.tdiv n1 2)))) hF (by kernel_rfl) (fun hb => ?_) (fun hb => ?_)
      · replace hm := if_t hm hb
        refine wpIn_skip ?_
        refine then_n ?_
        exact ⟨hF.weak [0, 3, 4, 5, 6, 22, 23] (by kernel_rfl), hS, hm⟩
      · replace hm := if_f hm hb
        refine wpIn_exit ?_
        refine then_e (then_e (block_e (then_n ?_)))
        have hS := hS.pickN 2 [1] (by decide)
        rw [← hφ1] at hm
        replace hm := done_b hm
        unfold magic_single_K1 at hm
        try dsimp only at hm
        have hm : (magic_single_J1 l1).bind some = some r := hm
        exact ⟨l1, hF.weak [6] (by kernel_rfl), hS, hm⟩

noncomputable def magic_Make_J1  (n1 : Int) : Option (List Int × Int) :=
  (magic_single_m n1).bind fun r3 => some (r3, 0)

noncomputable def magic_Make_m  (n1 : Int) : Option (List Int × Int) :=
  if ((decide (n1 < 1)) || (decide ((12 : Int) < n1))) then (some (([] : List Int), 3)) else (if (n1 == 2) then (some (([] : List Int), 10)) else (if ((bAnd n1 1) == 1) then ((magic_odd_m n1).bind fun r1 => some (r1, 0)) else (if ((bAnd n1 3) == 0) then ((magic_double_m n1).bind fun r2 => some (r2, 0)) else ((magic_Make_J1 n1)))))

set_option maxRecDepth 100000 in
set_option maxHeartbeats 4000000 in
theorem magic_Make_w {n1 : Int} {r : (List Int × Int)} {w0 w : World} {B : Nat} {fs : List HP} (hm : magic_Make_m n1 = some r) (hS : Sep w0 B w (fs)) :
    Calls Try.prog 38 #[.int .i64 n1] w fun e w' => ∃ v, e = .returned v ∧ ∃ (A4 : Option Addr) (c4 : Nat), v = .tuple #[.slice A4 r.1.length c4, .int .i64 r.2] ∧ Sep w0 B w' (own 3 (.slice A4 r.1.length c4) (vI r.1) :: fs) := by
  obtain ⟨i3, hi3, hz3, hs3, hb3⟩ := info_parts Info3
  unfold magic_Make_m at hm
  replace hm := start_b hm
  refine enter (l := [.int .i64 n1]) (n := 28) Try.func38 rfl rfl (by simp) (fun a hF => ?_)
  refine reg [] [] [0] [pl 0 (.int .i64 n1)] hF hS Fol (by kernel_rfl) (by kernel_rfl) (by kernel_rfl) ?_ (fun a w hF hS => ?_)
  · exact obs_nil
  refine seq_cut (fun a w => Fr 28 [pl 0 (.int .i64 n1)] a ∧ Sep w0 B w (fs) ∧ ((magic_Make_J1 n1)).bind some = some r) ?_ ?_
  · rintro a w ⟨hF, hS, hm⟩
    unfold magic_Make_J1 at hm
    refine seqR ?_
    obtain ⟨r3, hr3, hm⟩ := call_b hm
    refine at_run 1 [] [] [26] [pl 26 (.int .i64 n1)] hF hS (by kernel_rfl) (by kernel_rfl) ?_ (fun a w hF hS => ?_)
    · exact obs_nil
    refine at_call (f := 96) (args := #[.int .i64 n1]) (d := 27) hF (by kernel_rfl) (by kernel_rfl) Try.func96 (by kernel_rfl) rfl (magic_single_w hr3 hS ) (fun v a w hR hF => ?_)
    clear hS
    obtain ⟨A3, c3, rfl, hS⟩ := hR
    have hS : Sep w0 B w (own 3 (.slice A3 r3.length c3) (vI r3) :: fs) := hS
    refine at_run 2 [] [] [2, 3] [pl 2 (.slice A3 r3.length c3), pl 3 (.int .i64 0)] hF hS (by kernel_rfl) (by kernel_rfl) ?_ (fun a w hF hS => ?_)
    · exact obs_nil
    refine at_end [2, 3] [pl 2 (.slice A3 r3.length c3), pl 3 (.int .i64 0)] hF rfl (by kernel_rfl) (fun hF => ?_)
    refine then_n ?_
    refine wpIn_ret ?_
    have hm : some (r3, 0) = some r := hm
    obtain rfl := Option.some.inj hm
    exact retV (rs := [.tmp 2, .tmp 3]) (vs := [.slice A3 r3.length c3, .int .i64 0]) hF rfl (rv_t (by kernel_rfl) <| rv_t (by kernel_rfl) <| rv_nil) rfl ⟨_, rfl, A3, c3, rfl, hS⟩
  · refine wpIn_block ?_
    refine reg [] [] [0, 4] [pl 0 (.int .i64 n1), pl 4 (.bool ((decide (n1 < 1)) || (decide ((12 : Int) < n1))))] hF hS Fol (by kernel_rfl) (by kernel_rfl) (by kernel_rfl) ?_ (fun a w hF hS => ?_)
    · exact obs_nil
    refine cond_ev (t := 4) (b := (decide (n1 < 1)) || (decide ((12 : Int) < n1))) hF (by kernel_rfl) (fun hb => ?_) (fun hb => ?_)
    · replace hm := if_t hm hb
      refine reg [] [] [2, 3] [pl 2 (.slice none 0 0), pl 3 (.int .i64 3)] hF hS Fol (by kernel_rfl) (by kernel_rfl) (by kernel_rfl) ?_ (fun a w hF hS => ?_)
      · exact obs_nil
      refine wpIn_ret ?_
      refine block_r (then_r ?_)
      have hS : Sep w0 B w (own 3 (.slice none 0 0) (vI ([] : List Int)) :: fs) := hS.nil 3
      have hl1 := (hS.at_ 0 rfl).len1
      have hS := (hS.at_ 0 rfl).reN hl1
      have hS : Sep w0 B w (own 3 (.slice none (([] : List Int).length) 0) (vI ([] : List Int)) :: fs) := hS
      have hm : some (([] : List Int), 3) = some r := hm
      obtain rfl := Option.some.inj hm
      exact retV (rs := [.tmp 2, .tmp 3]) (vs := [.slice none (([] : List Int).length) 0, .int .i64 3]) hF rfl (rv_t (by kernel_rfl) <| rv_t (by kernel_rfl) <| rv_nil) rfl ⟨_, rfl, none, 0, rfl, hS⟩
    · replace hm := if_f hm hb
      refine reg [] [] [0, 11] [pl 0 (.int .i64 n1), pl 11 (.bool (n1 == 2))] hF hS Fol (by kernel_rfl) (by kernel_rfl) (by kernel_rfl) ?_ (fun a w hF hS => ?_)
      · exact obs_nil
      refine cond_ev (t := 11) (b := (n1 == 2)) hF (by kernel_rfl) (fun hb => ?_) (fun hb => ?_)
      · replace hm := if_t hm hb
        refine reg [] [] [2, 3] [pl 2 (.slice none 0 0), pl 3 (.int .i64 10)] hF hS Fol (by kernel_rfl) (by kernel_rfl) (by kernel_rfl) ?_ (fun a w hF hS => ?_)
        · exact obs_nil
        refine wpIn_ret ?_
        refine block_r (then_r ?_)
        have hS : Sep w0 B w (own 3 (.slice none 0 0) (vI ([] : List Int)) :: fs) := hS.nil 3
        have hl2 := (hS.at_ 0 rfl).len1
        have hS := (hS.at_ 0 rfl).reN hl2
        have hS : Sep w0 B w (own 3 (.slice none (([] : List Int).length) 0) (vI ([] : List Int)) :: fs) := hS
        have hm : some (([] : List Int), 10) = some r := hm
        obtain rfl := Option.some.inj hm
        exact retV (rs := [.tmp 2, .tmp 3]) (vs := [.slice none (([] : List Int).length) 0, .int .i64 10]) hF rfl (rv_t (by kernel_rfl) <| rv_t (by kernel_rfl) <| rv_nil) rfl ⟨_, rfl, none, 0, rfl, hS⟩
      · replace hm := if_f hm hb
        refine reg [] [] [0, 14] [pl 0 (.int .i64 n1), pl 14 (.bool ((bAnd n1 1) == 1))] hF hS Fol (by kernel_rfl) (by kernel_rfl) (by kernel_rfl) ?_ (fun a w hF hS => ?_)
        · exact obs_nil
        refine cond_ev (t := 14) (b := ((bAnd n1 1) == 1)) hF (by kernel_rfl) (fun hb => ?_) (fun hb => ?_)
        · replace hm := if_t hm hb
          refine seqR ?_
          obtain ⟨r1, hr1, hm⟩ := call_b hm
          refine at_run 1 [] [] [18] [pl 18 (.int .i64 n1)] hF hS (by kernel_rfl) (by kernel_rfl) ?_ (fun a w hF hS => ?_)
          · exact obs_nil
          refine at_call (f := 94) (args := #[.int .i64 n1]) (d := 19) hF (by kernel_rfl) (by kernel_rfl) Try.func94 (by kernel_rfl) rfl (magic_odd_w hr1 hS ) (fun v a w hR hF => ?_)
          clear hS
          obtain ⟨A1, c1, rfl, hS⟩ := hR
          have hS : Sep w0 B w (own 3 (.slice A1 r1.length c1) (vI r1) :: fs) := hS
          refine at_run 2 [] [] [2, 3] [pl 2 (.slice A1 r1.length c1), pl 3 (.int .i64 0)] hF hS (by kernel_rfl) (by kernel_rfl) ?_ (fun a w hF hS => ?_)
          · exact obs_nil
          refine at_end [2, 3] [pl 2 (.slice A1 r1.length c1), pl 3 (.int .i64 0)] hF rfl (by kernel_rfl) (fun hF => ?_)
          refine then_n ?_
          refine wpIn_ret ?_
          refine block_r (then_r ?_)
          have hm : some (r1, 0) = some r := hm
          obtain rfl := Option.some.inj hm
          exact retV (rs := [.tmp 2, .tmp 3]) (vs := [.slice A1 r1.length c1, .int .i64 0]) hF rfl (rv_t (by kernel_rfl) <| rv_t (by kernel_rfl) <| rv_nil) rfl ⟨_, rfl, A1, c1, rfl, hS⟩
        · replace hm := if_f hm hb
          refine reg [] [] [0, 20] [pl 0 (.int .i64 n1), pl 20 (.bool ((bAnd n1 3) == 0))] hF hS Fol (by kernel_rfl) (by kernel_rfl) (by kernel_rfl) ?_ (fun a w hF hS => ?_)
          · exact obs_nil
          refine cond_ev (t := 20) (b := ((bAnd n1 3) == 0)) hF (by kernel_rfl) (fun hb => ?_) (fun hb => ?_)
          · replace hm := if_t hm hb
            refine seqR ?_
            obtain ⟨r2, hr2, hm⟩ := call_b hm
            refine at_run 1 [] [] [24] [pl 24 (.int .i64 n1)] hF hS (by kernel_rfl) (by kernel_rfl) ?_ (fun a w hF hS => ?_)
            · exact obs_nil
            refine at_call (f := 95) (args := #[.int .i64 n1]) (d := 25) hF (by kernel_rfl) (by kernel_rfl) Try.func95 (by kernel_rfl) rfl (magic_double_w hr2 hS ) (fun v a w hR hF => ?_)
            clear hS
            obtain ⟨A2, c2, rfl, hS⟩ := hR
            have hS : Sep w0 B w (own 3 (.slice A2 r2.length c2) (vI r2) :: fs) := hS
            refine at_run 2 [] [] [2, 3] [pl 2 (.slice A2 r2.length c2), pl 3 (.int .i64 0)] hF hS (by kernel_rfl) (by kernel_rfl) ?_ (fun a w hF hS => ?_)
            · exact obs_nil
            refine at_end [2, 3] [pl 2 (.slice A2 r2.length c2), pl 3 (.int .i64 0)] hF rfl (by kernel_rfl) (fun hF => ?_)
            refine then_n ?_
            refine wpIn_ret ?_
            refine block_r (then_r ?_)
            have hm : some (r2, 0) = some r := hm
            obtain rfl := Option.some.inj hm
            exact retV (rs := [.tmp 2, .tmp 3]) (vs := [.slice A2 r2.length c2, .int .i64 0]) hF rfl (rv_t (by kernel_rfl) <| rv_t (by kernel_rfl) <| rv_nil) rfl ⟨_, rfl, A2, c2, rfl, hS⟩
          · replace hm := if_f hm hb
            refine wpIn_skip ?_
            refine block_n ?_
            refine then_n ?_
            exact ⟨hF.weak [0] (by kernel_rfl), hS, hm⟩

noncomputable def gameroomlaw_ints_m  (l1 : List Int) : Option (List Int) :=
  asrt ((0 : Int) + (l1.length : Int) ≤ bigN) <| some ([] ++ l1)

set_option maxRecDepth 100000 in
set_option maxHeartbeats 4000000 in
theorem gameroomlaw_ints_w {A1 : Option Addr} {c1 : Nat} {n1 : Nat} {l1 : List Int} {r : (List Int)} {w0 w : World} {B : Nat} {fs : List HP} (hm : gameroomlaw_ints_m l1 = some r) (hS : Sep w0 B w (fs)) (hr_l1 : RdF w0 B fs A1 (vI l1)) (_hc_l1 : l1.length ≤ c1) (_hn_l1 : n1 = l1.length) :
    Calls Try.prog 22 #[.slice A1 n1 c1] w fun e w' => ∃ v, e = .returned v ∧ ∃ (A3 : Option Addr) (c3 : Nat), v = .slice A3 r.length c3 ∧ Sep w0 B w' (own 3 (.slice A3 r.length c3) (vI r) :: fs) := by
  obtain ⟨i3, hi3, hz3, hs3, hb3⟩ := info_parts Info3
  obtain rfl := _hn_l1
  unfold gameroomlaw_ints_m at hm
  replace hm := start_b hm
  refine enter (l := [.slice A1 l1.length c1]) (n := 5) Try.func22 rfl rfl (by simp) (fun a hF => ?_)
  refine reg [] [] [0] [pl 0 (.slice A1 l1.length c1)] hF hS Fol (by kernel_rfl) (by kernel_rfl) (by kernel_rfl) ?_ (fun a w hF hS => ?_)
  · exact obs_nil
  refine seqR ?_
  obtain ⟨hp1, hm⟩ := asrt_b hm
  refine at_run 1 [] [] [3] [pl 3 (.slice A1 l1.length c1)] hF hS (by kernel_rfl) (by kernel_rfl) ?_ (fun a w hF hS => ?_)
  · exact obs_nil
  have hS : Sep w0 B w (own 3 (.slice none 0 0) (vI ([] : List Int)) :: fs) := hS.nil 3
  obtain ⟨A2, c2, w, hrun, hS⟩ := run_app1 (P := Try.prog) (t := 34) (m := ([] : List Int)) (ys := l1) (A2 := A1) (m2 := l1.length) (c2 := c1) (Value.int .i64) (0 : Int) (hS.at_ 0 rfl) (hr_l1 _ (hS.dropN 1)) rfl 34 Und34 hi3 hz3 hs3 (by omega) rfl (fun _ => rfl) hp1
  have hS : Sep w0 B w (own 3 (.slice A2 (([] ++ l1).length) c2) (vI ([] ++ l1)) :: fs) := hS
  refine at_do (d := 4) hF (by kernel_rfl) (by kernel_rfl) hrun (fun a hF => ?_)
  refine at_run 1 [] [] [2] [pl 2 (.slice A2 (([] ++ l1).length) c2)] hF hS (by kernel_rfl) (by kernel_rfl) ?_ (fun a w hF hS => ?_)
  · exact obs_nil
  refine at_end [2] [pl 2 (.slice A2 (([] ++ l1).length) c2)] hF rfl (by kernel_rfl) (fun hF => ?_)
  refine then_n ?_
  refine wpIn_ret ?_
  have hm : some ([] ++ l1) = some r := hm
  obtain rfl := Option.some.inj hm
  exact retV (rs := [.tmp 2]) (vs := [.slice A2 (([] ++ l1).length) c2]) hF rfl (rv_t (by kernel_rfl) <| rv_nil) rfl ⟨_, rfl, A2, c2, rfl, hS⟩

noncomputable def magic_Count_1_m  (x1 : Int) (p11 : Int) : Option Bool :=
  some ((decide (x1 < 0)) || (decide ((w64 (p11 * p11)) < x1)))

set_option maxRecDepth 100000 in
set_option maxHeartbeats 4000000 in
theorem magic_Count_1_w {x1 : Int} {g1 : Nat} {p11 : Int} {r : Bool} {w0 w : World} {B : Nat} {fs : List HP} (hm : magic_Count_1_m x1 p11 = some r) (hS : Sep w0 B w (blk g1 3 #[.int .i64 p11] :: fs)) :
    Calls Try.prog 97 #[.int .i64 x1, .pointer (some ⟨g1, 0, none⟩)] w fun e w' => e = .returned (.bool r) ∧ Sep w0 B w' (blk g1 3 #[.int .i64 p11] :: fs) := by
  unfold magic_Count_1_m at hm
  replace hm := start_b hm
  refine enter (l := [.int .i64 x1, .pointer (some ⟨g1, 0, none⟩)]) (n := 13) Try.func97 rfl rfl (by simp) (fun a hF => ?_)
  refine reg [] [] [0, 1] [pl 0 (.int .i64 x1), pl 1 (.pointer (some ⟨g1, 0, none⟩))] hF hS Fol (by kernel_rfl) (by kernel_rfl) (by kernel_rfl) ?_ (fun a w hF hS => ?_)
  · exact obs_nil
  refine reg [⟨false, [(decide (x1 < 0), false)], vS (Instr.loadAt 3 (.pointer (some ⟨g1, 0, none⟩))), .int .i64 p11⟩, ⟨false, [(decide (x1 < 0), false)], vS (Instr.loadAt 3 (.pointer (some ⟨g1, 0, none⟩))), .int .i64 p11⟩] [none, none, none, none, some (.int .i64 p11), some (.int .i64 p11), none, none, none, none] [3] [pl 3 (.bool ((decide (x1 < 0)) || (decide ((w64 (p11 * p11)) < x1))))] hF hS Fol (by kernel_rfl) (by kernel_rfl) (by kernel_rfl) ?_ (fun a w hF hS => ?_)
  · exact obs_cons (ob_load Agg3 (fun _ _ hS => (hS.at_ 0 rfl).cell rfl)) <| obs_cons (ob_load Agg3 (fun _ _ hS => (hS.at_ 0 rfl).cell rfl)) <| obs_nil
  refine wpIn_ret ?_
  have hm : some ((decide (x1 < 0)) || (decide ((w64 (p11 * p11)) < x1))) = some r := hm
  obtain rfl := Option.some.inj hm
  exact retV (rs := [.tmp 3]) (vs := [.bool ((decide (x1 < 0)) || (decide ((w64 (p11 * p11)) < x1)))]) hF rfl (rv_t (by kernel_rfl) <| rv_nil) rfl ⟨rfl, hS⟩

noncomputable def slices_IndexFunc_J3  (z1 : Int) : Option (St Int (Fl Unit Int)) :=
  some (.next (w64 (z1 + 1)))

noncomputable def slices_IndexFunc_J2  (s1 : List Int) (v1 : Int) (z1 : Int) : Option (St Int (Fl Unit Int)) :=
  asrt (0 ≤ z1 ∧ z1 < (s1.length : Int)) <| (magic_Count_1_m (geti s1 z1) v1).bind fun r1 => if r1 then (some (.done (.ret z1))) else ((slices_IndexFunc_J3 z1))

noncomputable def slices_IndexFunc_J1  : Option Int :=
  some (-1)

noncomputable def slices_IndexFunc_K1  : (Fl Unit Int) → Option Int :=
  fun (x : (Fl Unit Int)) => match x with | .go _ => slices_IndexFunc_J1 | .ret x => some x

noncomputable def slices_IndexFunc_L1  (s1 : List Int) (v1 : Int) : Int → Option (St Int (Fl Unit Int)) :=
  fun (x : Int) => match x with | z1 => if (decide (z1 < (s1.length : Int))) then ((slices_IndexFunc_J2 s1 v1 z1)) else (some (.done (.go ())))

noncomputable def slices_IndexFunc_m  (s1 : List Int) (v1 : Int) : Option Int :=
  (loop (slices_IndexFunc_L1 s1 v1) 0).bind slices_IndexFunc_K1

set_option maxRecDepth 100000 in
set_option maxHeartbeats 4000000 in
theorem slices_IndexFunc_w {A1 : Option Addr} {c1 : Nat} {n1 : Nat} {s1 : List Int} {g1 : Nat} {v1 : Int} {r : Int} {w0 w : World} {B : Nat} {fs : List HP} (hm : slices_IndexFunc_m s1 v1 = some r) (hS : Sep w0 B w (blk g1 3 #[.int .i64 v1] :: fs)) (hr_s1 : RdF w0 B fs A1 (vI s1)) (_hc_s1 : s1.length ≤ c1) (_hn_s1 : n1 = s1.length) :
    Calls Try.prog 140 #[.slice A1 n1 c1, .func (.func 97) #[] #[.pointer (some ⟨g1, 0, none⟩)]] w fun e w' => e = .returned (.int .i64 r) ∧ Sep w0 B w' (blk g1 3 #[.int .i64 v1] :: fs) := by
  obtain ⟨i3, hi3, hz3, hs3, hb3⟩ := info_parts Info3
  obtain rfl := _hn_s1
  unfold slices_IndexFunc_m at hm
  replace hm := start_b hm
  refine enter (l := [.slice A1 s1.length c1, .func (.func 97) #[] #[.pointer (some ⟨g1, 0, none⟩)]]) (n := 19) Try.func140 rfl rfl (by simp) (fun a hF => ?_)
  refine reg [] [] [0, 1] [pl 0 (.slice A1 s1.length c1), pl 1 (.func (.func 97) #[] #[.pointer (some ⟨g1, 0, none⟩)])] hF hS Fol (by kernel_rfl) (by kernel_rfl) (by kernel_rfl) ?_ (fun a w hF hS => ?_)
  · exact obs_nil
  refine seq_cut (fun a w => Fr 19 [] a ∧ Sep w0 B w (blk g1 3 #[.int .i64 v1] :: fs) ∧ (slices_IndexFunc_J1).bind some = some r) ?_ ?_
  · rintro a w ⟨hF, hS, hm⟩
    unfold slices_IndexFunc_J1 at hm
    refine reg [] [] [4] [pl 4 (.int .i64 (-1))] hF hS Fol (by kernel_rfl) (by kernel_rfl) (by kernel_rfl) ?_ (fun a w hF hS => ?_)
    · exact obs_nil
    refine wpIn_ret ?_
    have hm : some (-1) = some r := hm
    obtain rfl := Option.some.inj hm
    exact retV (rs := [.tmp 4]) (vs := [.int .i64 (-1)]) hF rfl (rv_t (by kernel_rfl) <| rv_nil) rfl ⟨rfl, hS⟩
  · refine reg [] [] [0, 1, 7, 8] [pl 0 (.slice A1 s1.length c1), pl 1 (.func (.func 97) #[] #[.pointer (some ⟨g1, 0, none⟩)]), pl 7 (.int .i64 (s1.length : Int)), pl 8 (.int .i64 0)] hF hS Fol (by kernel_rfl) (by kernel_rfl) (by kernel_rfl) ?_ (fun a w hF hS => ?_)
    · exact obs_nil
    refine wpIn_block ?_
    refine wp_loop_model (S := Int) (R := (Fl Unit Int)) (slices_IndexFunc_L1 s1 v1) (fun x => (slices_IndexFunc_K1 x).bind some) r (fun (x : Int) a w => Fr 19 [pl 0 (.slice A1 s1.length c1), pl 1 (.func (.func 97) #[] #[.pointer (some ⟨g1, 0, none⟩)]), pl 7 (.int .i64 (s1.length : Int)), pl 8 (.int .i64 x)] a ∧ Sep w0 B w (blk g1 3 #[.int .i64 v1] :: fs)) (assoc_b hm) ⟨hF.weak [0, 1, 7, 8] (by kernel_rfl), hS⟩ ?_
    clear hF hS hm
    rintro nn1 z1 a w ⟨hF, hS⟩ hm
    generalize hφ1 : stK (slices_IndexFunc_L1 s1 v1) nn1 (fun x => (slices_IndexFunc_K1 x).bind some) = φ1 at hm
    unfold slices_IndexFunc_L1 at hm
    dsimp only at hm
    refine reg [] [] [0, 1, 7, 8, 9] [pl 0 (.slice A1 s1.length c1), pl 1 (.func (.func 97) #[] #[.pointer (some ⟨g1, 0, none⟩)]), pl 7 (.int .i64 (s1.length : Int)), pl 8 (.int .i64 z1), pl 9 (.bool (decide (z1 < (s1.length : Int))))] hF hS Fol (by kernel_rfl) (by kernel_rfl) (by kernel_rfl) ?_ (fun a w hF hS => ?_)
    · exact obs_nil
    refine seq_cut (fun a w => Fr 19 [pl 0 (.slice A1 s1.length c1), pl 1 (.func (.func 97) #[] #[.pointer (some ⟨g1, 0, none⟩)]), pl 7 (.int .i64 (s1.length : Int)), pl 8 (.int .i64 z1)] a ∧ Sep w0 B w (blk g1 3 #[.int .i64 v1] :: fs) ∧ ((slices_IndexFunc_J2 s1 v1 z1)).bind φ1 = some r) ?_ ?_
    · rintro a w ⟨hF, hS, hm⟩
      unfold slices_IndexFunc_J2 at hm
      refine seq_cut (fun a w => Fr 19 [pl 0 (.slice A1 s1.length c1), pl 1 (.func (.func 97) #[] #[.pointer (some ⟨g1, 0, none⟩)]), pl 7 (.int .i64 (s1.length : Int)), pl 8 (.int .i64 z1)] a ∧ Sep w0 B w (blk g1 3 #[.int .i64 v1] :: fs) ∧ ((slices_IndexFunc_J3 z1)).bind φ1 = some r) ?_ ?_
      · rintro a w ⟨hF, hS, hm⟩
        unfold slices_IndexFunc_J3 at hm
        refine reg1 [] [] [0, 1, 7, 8] [pl 0 (.slice A1 s1.length c1), pl 1 (.func (.func 97) #[] #[.pointer (some ⟨g1, 0, none⟩)]), pl 7 (.int .i64 (s1.length : Int)), pl 8 (.int .i64 (w64 (z1 + 1)))] hF hS Fol (by kernel_rfl) (by kernel_rfl) (by kernel_rfl) ?_ (fun a w hF hS => ?_)
        · exact obs_nil
        refine then_n ?_
        rw [← hφ1] at hm
        exact ⟨(w64 (z1 + 1)), ⟨hF.weak [0, 1, 7, 8] (by kernel_rfl), hS⟩, hm⟩
      · refine wpIn_block ?_
        refine reg [] [] [0, 1, 5, 7, 8] [pl 0 (.slice A1 s1.length c1), pl 1 (.func (.func 97) #[] #[.pointer (some ⟨g1, 0, none⟩)]), pl 5 (.int .i64 z1), pl 7 (.int .i64 (s1.length : Int)), pl 8 (.int .i64 z1)] hF hS Fol (by kernel_rfl) (by kernel_rfl) (by kernel_rfl) ?_ (fun a w hF hS => ?_)
        · exact obs_nil
        obtain ⟨hp1, hm⟩ := asrt_b hm
        obtain ⟨r1, hr1, hm⟩ := call_b hm
        refine reg [⟨true, [], vS (Instr.indexAt 34 (.slice A1 s1.length c1) (.int .i64 z1)), .pointer (some (sAddr A1 z1))⟩, ⟨false, [], vS (Instr.loadAt 3 (.pointer (some (sAddr A1 z1)))), .int .i64 (geti s1 z1)⟩, ⟨false, [], callFunc 97 #[.int .i64 (geti s1 z1), .pointer (some ⟨g1, 0, none⟩)], .bool r1⟩] [none, none, none, some (.pointer (some (sAddr A1 z1))), some (.int .i64 (geti s1 z1)), some (.bool r1)] [0, 1, 5, 7, 8, 16] [pl 0 (.slice A1 s1.length c1), pl 1 (.func (.func 97) #[] #[.pointer (some ⟨g1, 0, none⟩)]), pl 5 (.int .i64 z1), pl 7 (.int .i64 (s1.length : Int)), pl 8 (.int .i64 z1), pl 16 (.bool r1)] hF hS Fol (by kernel_rfl) (by kernel_rfl) (by kernel_rfl) ?_ (fun a w hF hS => ?_)
        · exact obs_cons (ob_ix1 (f := (Value.int .i64)) (m := s1) Und34 hi3 hs3 (hr_s1 _ (hS.dropN 1)) rfl (fun _ => hp1)) <| obs_cons (ob_get1 (n := s1.length) (m := s1) (Value.int .i64) (0 : Int) Agg3 (fun _ hS => ⟨_, (hr_s1 _ (hS.dropN 1))⟩) (fun _ hS => rfl) (fun _ => hp1)) <| obs_cons (ob_call Try.func97 (by kernel_rfl) rfl (fun _ _ hS => magic_Count_1_w hr1 hS )) <| obs_nil
        refine cond_ev (t := 16) (b := r1) hF (by kernel_rfl) (fun hb => ?_) (fun hb => ?_)
        · replace hm := if_t hm hb
          refine reg [] [] [4] [pl 4 (.int .i64 z1)] hF hS Fol (by kernel_rfl) (by kernel_rfl) (by kernel_rfl) ?_ (fun a w hF hS => ?_)
          · exact obs_nil
          refine wpIn_ret ?_
          refine block_r (then_r (then_r (block_r (then_r ?_))))
          rw [← hφ1] at hm
          replace hm := done_b hm
          unfold slices_IndexFunc_K1 at hm
          try dsimp only at hm
          have hm : some z1 = some r := hm
          obtain rfl := Option.some.inj hm
          exact retV (rs := [.tmp 4]) (vs := [.int .i64 z1]) hF rfl (rv_t (by kernel_rfl) <| rv_nil) rfl ⟨rfl, hS⟩
        · replace hm := if_f hm hb
          refine wpIn_skip ?_
          refine block_n ?_
          refine then_n ?_
          exact ⟨hF.weak [0, 1, 7, 8] (by kernel_rfl), hS, hm⟩
    · refine cond_ev (t := 9) (b := decide (z1 < (s1.length : Int))) hF (by kernel_rfl) (fun hb => ?_) (fun hb => ?_)
      · replace hm := if_t hm hb
        refine wpIn_skip ?_
        refine then_n ?_
        exact ⟨hF.weak [0, 1, 7, 8] (by kernel_rfl), hS, hm⟩
      · replace hm := if_f hm hb
        refine wpIn_exit ?_
        refine then_e (then_e (block_e (then_n ?_)))
        rw [← hφ1] at hm
        replace hm := done_b hm
        unfold slices_IndexFunc_K1 at hm
        try dsimp only at hm
        have hm : (slices_IndexFunc_J1).bind some = some r := hm
        exact ⟨hF.weak [] (by kernel_rfl), hS, hm⟩

noncomputable def slices_ContainsFunc_m  (s1 : List Int) (v1 : Int) : Option Bool :=
  (slices_IndexFunc_m s1 v1).bind fun r1 => some (decide ((0 : Int) ≤ r1))

set_option maxRecDepth 100000 in
set_option maxHeartbeats 4000000 in
theorem slices_ContainsFunc_w {A1 : Option Addr} {c1 : Nat} {n1 : Nat} {s1 : List Int} {g1 : Nat} {v1 : Int} {r : Bool} {w0 w : World} {B : Nat} {fs : List HP} (hm : slices_ContainsFunc_m s1 v1 = some r) (hS : Sep w0 B w (blk g1 3 #[.int .i64 v1] :: fs)) (hr_s1 : RdF w0 B fs A1 (vI s1)) (_hc_s1 : s1.length ≤ c1) (_hn_s1 : n1 = s1.length) :
    Calls Try.prog 87 #[.slice A1 n1 c1, .func (.func 97) #[] #[.pointer (some ⟨g1, 0, none⟩)]] w fun e w' => e = .returned (.bool r) ∧ Sep w0 B w' (blk g1 3 #[.int .i64 v1] :: fs) := by
  obtain ⟨i3, hi3, hz3, hs3, hb3⟩ := info_parts Info3
  obtain rfl := _hn_s1
  unfold slices_ContainsFunc_m at hm
  replace hm := start_b hm
  refine enter (l := [.slice A1 s1.length c1, .func (.func 97) #[] #[.pointer (some ⟨g1, 0, none⟩)]]) (n := 9) Try.func87 rfl rfl (by simp) (fun a hF => ?_)
  refine reg [] [] [0, 1] [pl 0 (.slice A1 s1.length c1), pl 1 (.func (.func 97) #[] #[.pointer (some ⟨g1, 0, none⟩)])] hF hS Fol (by kernel_rfl) (by kernel_rfl) (by kernel_rfl) ?_ (fun a w hF hS => ?_)
  · exact obs_nil
  obtain ⟨r1, hr1, hm⟩ := call_b hm
  refine reg [⟨false, [], callFunc 140 #[.slice A1 s1.length c1, .func (.func 97) #[] #[.pointer (some ⟨g1, 0, none⟩)]], .int .i64 r1⟩] [none, none, some (.int .i64 r1), none, none] [4] [pl 4 (.bool (decide ((0 : Int) ≤ r1)))] hF hS Fol (by kernel_rfl) (by kernel_rfl) (by kernel_rfl) ?_ (fun a w hF hS => ?_)
  · exact obs_cons (ob_call Try.func140 (by kernel_rfl) rfl (fun _ _ hS => slices_IndexFunc_w hr1 hS (fun _ hS => (hr_s1 _ (hS.dropN 0))) _hc_s1 rfl)) <| obs_nil
  refine wpIn_ret ?_
  have hm : some (decide ((0 : Int) ≤ r1)) = some r := hm
  obtain rfl := Option.some.inj hm
  exact retV (rs := [.tmp 4]) (vs := [.bool (decide ((0 : Int) ≤ r1))]) hF rfl (rv_t (by kernel_rfl) <| rv_nil) rfl ⟨rfl, hS⟩

noncomputable def magic_row_m  (k1 : Int) : Option Int :=
  some k1

set_option maxRecDepth 100000 in
set_option maxHeartbeats 4000000 in
theorem magic_row_w {k1 : Int} {r : Int} {w0 w : World} {B : Nat} {fs : List HP} (hm : magic_row_m k1 = some r) (hS : Sep w0 B w (fs)) :
    Calls Try.prog 101 #[.int .i64 k1] w fun e w' => ∃ v, e = .returned v ∧ ∃ (g2 : Nat), v = .func (.func 149) #[] #[.pointer (some ⟨g2, 0, none⟩)] ∧ Sep w0 B w' (blk g2 3 #[.int .i64 r] :: fs) := by
  unfold magic_row_m at hm
  replace hm := start_b hm
  refine enter (l := [.int .i64 k1]) (n := 4) Try.func101 rfl rfl (by simp) (fun a hF => ?_)
  refine seqR ?_
  refine at_do (d := 1) (s := vS (Instr.box 3 (.int .i64 k1))) (v := .pointer (some ⟨w.heap.size, 0, none⟩)) (w' := w.alloc (.cells #[.int .i64 k1] 3)) hF (by kernel_rfl) (by kernel_rfl) (by kernel_rfl) (fun a hF => ?_)
  have hS : Sep w0 B (w.alloc (.cells #[.int .i64 k1] 3)) (blk w.heap.size 3 #[.int .i64 k1] :: (fs)) := hS.box 3 #[.int .i64 k1]
  generalize w.heap.size = g1 at hF hS
  generalize w.alloc (.cells #[.int .i64 k1] 3) = w at hS ⊢
  refine at_run 1 [] [] [1] [pl 1 (.pointer (some ⟨g1, 0, none⟩))] hF hS (by kernel_rfl) (by kernel_rfl) ?_ (fun a w hF hS => ?_)
  · exact obs_nil
  refine at_end [1] [pl 1 (.pointer (some ⟨g1, 0, none⟩))] hF rfl (by kernel_rfl) (fun hF => ?_)
  refine then_n ?_
  refine reg [] [] [2] [pl 2 (.func (.func 149) #[] #[.pointer (some ⟨g1, 0, none⟩)])] hF hS Fol (by kernel_rfl) (by kernel_rfl) (by kernel_rfl) ?_ (fun a w hF hS => ?_)
  · exact obs_nil
  refine wpIn_ret ?_
  have hm : some k1 = some r := hm
  obtain rfl := Option.some.inj hm
  exact retV (rs := [.tmp 2]) (vs := [.func (.func 149) #[] #[.pointer (some ⟨g1, 0, none⟩)]]) hF rfl (rv_t (by kernel_rfl) <| rv_nil) rfl ⟨_, rfl, g1, rfl, hS⟩

noncomputable def magic_row_1_m  (i1 : Int) (p11 : Int) : Option (Int × Int) :=
  some (i1, p11)

set_option maxRecDepth 100000 in
set_option maxHeartbeats 4000000 in
theorem magic_row_1_w {i1 : Int} {g1 : Nat} {p11 : Int} {r : (Int × Int)} {w0 w : World} {B : Nat} {fs : List HP} (hm : magic_row_1_m i1 p11 = some r) (hS : Sep w0 B w (blk g1 3 #[.int .i64 p11] :: fs)) :
    Calls Try.prog 149 #[.int .i64 i1, .pointer (some ⟨g1, 0, none⟩)] w fun e w' => e = .returned (.tuple #[.int .i64 r.1, .int .i64 r.2]) ∧ Sep w0 B w' (blk g1 3 #[.int .i64 p11] :: fs) := by
  unfold magic_row_1_m at hm
  replace hm := start_b hm
  refine enter (l := [.int .i64 i1, .pointer (some ⟨g1, 0, none⟩)]) (n := 7) Try.func149 rfl rfl (by simp) (fun a hF => ?_)
  refine reg [] [] [0, 1] [pl 0 (.int .i64 i1), pl 1 (.pointer (some ⟨g1, 0, none⟩))] hF hS Fol (by kernel_rfl) (by kernel_rfl) (by kernel_rfl) ?_ (fun a w hF hS => ?_)
  · exact obs_nil
  refine reg [⟨false, [], vS (Instr.loadAt 3 (.pointer (some ⟨g1, 0, none⟩))), .int .i64 p11⟩] [none, some (.int .i64 p11), none, none] [3, 4] [pl 3 (.int .i64 i1), pl 4 (.int .i64 p11)] hF hS Fol (by kernel_rfl) (by kernel_rfl) (by kernel_rfl) ?_ (fun a w hF hS => ?_)
  · exact obs_cons (ob_load Agg3 (fun _ _ hS => (hS.at_ 0 rfl).cell rfl)) <| obs_nil
  refine wpIn_ret ?_
  have hm : some (i1, p11) = some r := hm
  obtain rfl := Option.some.inj hm
  exact retV (rs := [.tmp 3, .tmp 4]) (vs := [.int .i64 i1, .int .i64 p11]) hF rfl (rv_t (by kernel_rfl) <| rv_t (by kernel_rfl) <| rv_nil) rfl ⟨rfl, hS⟩

noncomputable def magic_sum_J3  (z1 : Int) (s3 : Int) : Option (St (Int × Int) Int) :=
  some (.next (s3, (w64 (z1 + 1))))

noncomputable def magic_sum_J2  (l1 : List Int) (n2 : Int) (v1 : Int) (s1 : Int) (z1 : Int) : Option (St (Int × Int) Int) :=
  (magic_row_1_m z1 v1).bind fun r1 => asrt (n2 ≠ (0 : Int)) <| asrt (n2 ≠ (0 : Int)) <| asrt (0 ≤ (w64 ((w64 ((Int.tmod r1.2 n2) * n2)) + (Int.tmod r1.1 n2))) ∧ (w64 ((w64 ((Int.tmod r1.2 n2) * n2)) + (Int.tmod r1.1 n2))) < (l1.length : Int)) <| (magic_sum_J3 z1) (w64 (s1 + (geti l1 (w64 ((w64 ((Int.tmod r1.2 n2) * n2)) + (Int.tmod r1.1 n2))))))

noncomputable def magic_sum_J1  (s2 : Int) : Option Int :=
  some s2

noncomputable def magic_sum_K1  : Int → Option Int :=
  fun (x : Int) => match x with | s2 => magic_sum_J1 s2

noncomputable def magic_sum_L1  (l1 : List Int) (n2 : Int) (v1 : Int) : (Int × Int) → Option (St (Int × Int) Int) :=
  fun (x : (Int × Int)) => match x with | (s1, z1) => if (decide (z1 < n2)) then ((magic_sum_J2 l1 n2 v1 s1 z1)) else (some (.done s1))

noncomputable def magic_sum_m  (l1 : List Int) (n2 : Int) (v1 : Int) : Option Int :=
  (loop (magic_sum_L1 l1 n2 v1) (0, 0)).bind magic_sum_K1

set_option maxRecDepth 100000 in
set_option maxHeartbeats 4000000 in
theorem magic_sum_w {A1 : Option Addr} {c1 : Nat} {n1 : Nat} {l1 : List Int} {n2 : Int} {g1 : Nat} {v1 : Int} {r : Int} {w0 w : World} {B : Nat} {fs : List HP} (hm : magic_sum_m l1 n2 v1 = some r) (hS : Sep w0 B w (blk g1 3 #[.int .i64 v1] :: fs)) (hr_l1 : RdF w0 B fs A1 (vI l1)) (_hc_l1 : l1.length ≤ c1) (_hn_l1 : n1 = l1.length) :
    Calls Try.prog 100 #[.slice A1 n1 c1, .int .i64 n2, .func (.func 149) #[] #[.pointer (some ⟨g1, 0, none⟩)]] w fun e w' => e = .returned (.int .i64 r) ∧ Sep w0 B w' (blk g1 3 #[.int .i64 v1] :: fs) := by
  obtain ⟨i3, hi3, hz3, hs3, hb3⟩ := info_parts Info3
  obtain rfl := _hn_l1
  unfold magic_sum_m at hm
  replace hm := start_b hm
  refine enter (l := [.slice A1 l1.length c1, .int .i64 n2, .func (.func 149) #[] #[.pointer (some ⟨g1, 0, none⟩)]]) (n := 37) Try.func100 rfl rfl (by simp) (fun a hF => ?_)
  refine reg [] [] [0, 1, 2] [pl 0 (.slice A1 l1.length c1), pl 1 (.int .i64 n2), pl 2 (.func (.func 149) #[] #[.pointer (some ⟨g1, 0, none⟩)])] hF hS Fol (by kernel_rfl) (by kernel_rfl) (by kernel_rfl) ?_ (fun a w hF hS => ?_)
  · exact obs_nil
  refine reg [] [] [0, 1, 2, 7] [pl 0 (.slice A1 l1.length c1), pl 1 (.int .i64 n2), pl 2 (.func (.func 149) #[] #[.pointer (some ⟨g1, 0, none⟩)]), pl 7 (.int .i64 0)] hF hS Fol (by kernel_rfl) (by kernel_rfl) (by kernel_rfl) ?_ (fun a w hF hS => ?_)
  · exact obs_nil
  refine seq_cut (fun a w => ∃ (s2 : Int), Fr 37 [pl 7 (.int .i64 s2)] a ∧ Sep w0 B w (blk g1 3 #[.int .i64 v1] :: fs) ∧ (magic_sum_J1 s2).bind some = some r) ?_ ?_
  · rintro a w ⟨s2, hF, hS, hm⟩
    unfold magic_sum_J1 at hm
    refine reg [] [] [6] [pl 6 (.int .i64 s2)] hF hS Fol (by kernel_rfl) (by kernel_rfl) (by kernel_rfl) ?_ (fun a w hF hS => ?_)
    · exact obs_nil
    refine wpIn_ret ?_
    have hm : some s2 = some r := hm
    obtain rfl := Option.some.inj hm
    exact retV (rs := [.tmp 6]) (vs := [.int .i64 s2]) hF rfl (rv_t (by kernel_rfl) <| rv_nil) rfl ⟨rfl, hS⟩
  · refine reg [] [] [0, 1, 2, 7, 11, 12] [pl 0 (.slice A1 l1.length c1), pl 1 (.int .i64 n2), pl 2 (.func (.func 149) #[] #[.pointer (some ⟨g1, 0, none⟩)]), pl 7 (.int .i64 0), pl 11 (.int .i64 n2), pl 12 (.int .i64 0)] hF hS Fol (by kernel_rfl) (by kernel_rfl) (by kernel_rfl) ?_ (fun a w hF hS => ?_)
    · exact obs_nil
    refine wpIn_block ?_
    refine wp_loop_model (S := (Int × Int)) (R := Int) (magic_sum_L1 l1 n2 v1) (fun x => (magic_sum_K1 x).bind some) r (fun (x : (Int × Int)) a w => Fr 37 [pl 0 (.slice A1 l1.length c1), pl 1 (.int .i64 n2), pl 2 (.func (.func 149) #[] #[.pointer (some ⟨g1, 0, none⟩)]), pl 7 (.int .i64 x.1), pl 11 (.int .i64 n2), pl 12 (.int .i64 x.2)] a ∧ Sep w0 B w (blk g1 3 #[.int .i64 v1] :: fs)) (assoc_b hm) ⟨hF.weak [0, 1, 2, 7, 11, 12] (by kernel_rfl), hS⟩ ?_
    clear hF hS hm
    rintro nn1 ⟨s1, z1⟩ a w ⟨hF, hS⟩ hm
    generalize hφ1 : stK (magic_sum_L1 l1 n2 v1) nn1 (fun x => (magic_sum_K1 x).bind some) = φ1 at hm
    unfold magic_sum_L1 at hm
    dsimp only at hF hS hm
    refine reg [] [] [0, 1, 2, 7, 11, 12, 13] [pl 0 (.slice A1 l1.length c1), pl 1 (.int .i64 n2), pl 2 (.func (.func 149) #[] #[.pointer (some ⟨g1, 0, none⟩)]), pl 7 (.int .i64 s1), pl 11 (.int .i64 n2), pl 12 (.int .i64 z1), pl 13 (.bool (decide (z1 < n2)))] hF hS Fol (by kernel_rfl) (by kernel_rfl) (by kernel_rfl) ?_ (fun a w hF hS => ?_)
    · exact obs_nil
    refine seq_cut (fun a w => Fr 37 [pl 0 (.slice A1 l1.length c1), pl 1 (.int .i64 n2), pl 2 (.func (.func 149) #[] #[.pointer (some ⟨g1, 0, none⟩)]), pl 7 (.int .i64 s1), pl 11 (.int .i64 n2), pl 12 (.int .i64 z1)] a ∧ Sep w0 B w (blk g1 3 #[.int .i64 v1] :: fs) ∧ ((magic_sum_J2 l1 n2 v1 s1 z1)).bind φ1 = some r) ?_ ?_
    · rintro a w ⟨hF, hS, hm⟩
      unfold magic_sum_J2 at hm
      refine seq_cut (fun a w => ∃ (s3 : Int), Fr 37 [pl 0 (.slice A1 l1.length c1), pl 1 (.int .i64 n2), pl 2 (.func (.func 149) #[] #[.pointer (some ⟨g1, 0, none⟩)]), pl 7 (.int .i64 s3), pl 11 (.int .i64 n2), pl 12 (.int .i64 z1)] a ∧ Sep w0 B w (blk g1 3 #[.int .i64 v1] :: fs) ∧ ((magic_sum_J3 z1) s3).bind φ1 = some r) ?_ ?_
      · rintro a w ⟨s3, hF, hS, hm⟩
        unfold magic_sum_J3 at hm
        refine reg1 [] [] [0, 1, 2, 7, 11, 12] [pl 0 (.slice A1 l1.length c1), pl 1 (.int .i64 n2), pl 2 (.func (.func 149) #[] #[.pointer (some ⟨g1, 0, none⟩)]), pl 7 (.int .i64 s3), pl 11 (.int .i64 n2), pl 12 (.int .i64 (w64 (z1 + 1)))] hF hS Fol (by kernel_rfl) (by kernel_rfl) (by kernel_rfl) ?_ (fun a w hF hS => ?_)
        · exact obs_nil
        refine then_n ?_
        rw [← hφ1] at hm
        exact ⟨(s3, (w64 (z1 + 1))), ⟨hF.weak [0, 1, 2, 7, 11, 12] (by kernel_rfl), hS⟩, hm⟩
      · refine wpIn_block ?_
        refine reg [] [] [0, 1, 2, 7, 8, 11, 12] [pl 0 (.slice A1 l1.length c1), pl 1 (.int .i64 n2), pl 2 (.func (.func 149) #[] #[.pointer (some ⟨g1, 0, none⟩)]), pl 7 (.int .i64 s1), pl 8 (.int .i64 z1), pl 11 (.int .i64 n2), pl 12 (.int .i64 z1)] hF hS Fol (by kernel_rfl) (by kernel_rfl) (by kernel_rfl) ?_ (fun a w hF hS => ?_)
        · exact obs_nil
        obtain ⟨r1, hr1, hm⟩ := call_b hm
        refine reg [⟨false, [], callFunc 149 #[.int .i64 z1, .pointer (some ⟨g1, 0, none⟩)], .tuple #[.int .i64 r1.1, .int .i64 r1.2]⟩] [none, none, some (.tuple #[.int .i64 r1.1, .int .i64 r1.2]), none, none, none, none, none] [0, 1, 2, 7, 9, 10, 11, 12] [pl 0 (.slice A1 l1.length c1), pl 1 (.int .i64 n2), pl 2 (.func (.func 149) #[] #[.pointer (some ⟨g1, 0, none⟩)]), pl 7 (.int .i64 s1), pl 9 (.int .i64 r1.1), pl 10 (.int .i64 r1.2), pl 11 (.int .i64 n2), pl 12 (.int .i64 z1)] hF hS Fol (by kernel_rfl) (by kernel_rfl) (by kernel_rfl) ?_ (fun a w hF hS => ?_)
        · exact obs_cons (ob_call Try.func149 (by kernel_rfl) rfl (fun _ _ hS => magic_row_1_w hr1 hS )) <| obs_nil
        obtain ⟨hp1, hm⟩ := asrt_b hm
        obtain ⟨hp2, hm⟩ := asrt_b hm
        obtain ⟨hp3, hm⟩ := asrt_b hm
        refine reg1 [⟨true, [], vS (Op.intDiv .rem .i64 r1.2 n2), .int .i64 (Int.tmod r1.2 n2)⟩, ⟨true, [], vS (Op.intDiv .rem .i64 r1.1 n2), .int .i64 (Int.tmod r1.1 n2)⟩, ⟨true, [], vS (Instr.indexAt 34 (.slice A1 l1.length c1) (.int .i64 (w64 ((w64 ((Int.tmod r1.2 n2) * n2)) + (Int.tmod r1.1 n2))))), .pointer (some (sAddr A1 (w64 ((w64 ((Int.tmod r1.2 n2) * n2)) + (Int.tmod r1.1 n2)))))⟩, ⟨false, [], vS (Instr.loadAt 3 (.pointer (some (sAddr A1 (w64 ((w64 ((Int.tmod r1.2 n2) * n2)) + (Int.tmod r1.1 n2))))))), .int .i64 (geti l1 (w64 ((w64 ((Int.tmod r1.2 n2) * n2)) + (Int.tmod r1.1 n2))))⟩] [none, none, none, none, some (.int .i64 (Int.tmod r1.2 n2)), none, none, none, none, some (.int .i64 (Int.tmod r1.1 n2)), none, some (.pointer (some (sAddr A1 (w64 ((w64 ((Int.tmod r1.2 n2) * n2)) + (Int.tmod r1.1 n2)))))), some (.int .i64 (geti l1 (w64 ((w64 ((Int.tmod r1.2 n2) * n2)) + (Int.tmod r1.1 n2))))), none, none] [0, 1, 2, 7, 11, 12] [pl 0 (.slice A1 l1.length c1), pl 1 (.int .i64 n2), pl 2 (.func (.func 149) #[] #[.pointer (some ⟨g1, 0, none⟩)]), pl 7 (.int .i64 (w64 (s1 + (geti l1 (w64 ((w64 ((Int.tmod r1.2 n2) * n2)) + (Int.tmod r1.1 n2))))))), pl 11 (.int .i64 n2), pl 12 (.int .i64 z1)] hF hS Fol (by kernel_rfl) (by kernel_rfl) (by kernel_rfl) ?_ (fun a w hF hS => ?_)
        · exact obs_cons (ob_rem rfl (fun _ => hp1)) <| obs_cons (ob_rem rfl (fun _ => hp2)) <| obs_cons (ob_ix1 (f := (Value.int .i64)) (m := l1) Und34 hi3 hs3 (hr_l1 _ (hS.dropN 1)) rfl (fun _ => hp3)) <| obs_cons (ob_get1 (n := l1.length) (m := l1) (Value.int .i64) (0 : Int) Agg3 (fun _ hS => ⟨_, (hr_l1 _ (hS.dropN 1))⟩) (fun _ hS => rfl) (fun _ => hp3)) <| obs_nil
        refine block_n ?_
        refine then_n ?_
        exact ⟨(w64 (s1 + (geti l1 (w64 ((w64 ((Int.tmod r1.2 n2) * n2)) + (Int.tmod r1.1 n2)))))), hF.weak [0, 1, 2, 7, 11, 12] (by kernel_rfl), hS, hm⟩
    · refine cond_ev (t := 13) (b := decide (z1 < n2)) hF (by kernel_rfl) (fun hb => ?_) (fun hb => ?_)
      · replace hm := if_t hm hb
        refine wpIn_skip ?_
        refine then_n ?_
        exact ⟨hF.weak [0, 1, 2, 7, 11, 12] (by kernel_rfl), hS, hm⟩
      · replace hm := if_f hm hb
        refine wpIn_exit ?_
        refine then_e (then_e (block_e (then_n ?_)))
        rw [← hφ1] at hm
        replace hm := done_b hm
        unfold magic_sum_K1 at hm
        try dsimp only at hm
        have hm : (magic_sum_J1 s1).bind some = some r := hm
        exact ⟨s1, hF.weak [7] (by kernel_rfl), hS, hm⟩

noncomputable def magic_alike_J3  (z1 : Int) : Option (St Int (Fl Unit Bool)) :=
  some (.next (w64 (z1 + 1)))

noncomputable def magic_alike_J2  (l1 : List Int) (n2 : Int) (want1 : Int) (z1 : Int) : Option (St Int (Fl Unit Bool)) :=
  (magic_row_m z1).bind fun r1 => (magic_sum_m l1 n2 r1).bind fun r2 => if (r2 != want1) then (some (.done (.ret false))) else ((magic_alike_J3 z1))

noncomputable def magic_alike_J1  : Option Bool :=
  some true

noncomputable def magic_alike_K1  : (Fl Unit Bool) → Option Bool :=
  fun (x : (Fl Unit Bool)) => match x with | .go _ => magic_alike_J1 | .ret x => some x

noncomputable def magic_alike_L1  (l1 : List Int) (n2 : Int) (want1 : Int) : Int → Option (St Int (Fl Unit Bool)) :=
  fun (x : Int) => match x with | z1 => if (decide (z1 < n2)) then ((magic_alike_J2 l1 n2 want1 z1)) else (some (.done (.go ())))

noncomputable def magic_alike_m  (l1 : List Int) (n2 : Int) (want1 : Int) : Option Bool :=
  (loop (magic_alike_L1 l1 n2 want1) 0).bind magic_alike_K1

set_option maxRecDepth 100000 in
set_option maxHeartbeats 4000000 in
theorem magic_alike_w {A1 : Option Addr} {c1 : Nat} {n1 : Nat} {l1 : List Int} {n2 : Int} {want1 : Int} {r : Bool} {w0 w : World} {B : Nat} {fs : List HP} (hm : magic_alike_m l1 n2 want1 = some r) (hS : Sep w0 B w (fs)) (hr_l1 : RdF w0 B fs A1 (vI l1)) (_hc_l1 : l1.length ≤ c1) (_hn_l1 : n1 = l1.length) :
    Calls Try.prog 145 #[.slice A1 n1 c1, .int .i64 n2, .int .i64 want1, .func (.func 101) #[] #[]] w fun e w' => e = .returned (.bool r) ∧ Sep w0 B w' (fs) := by
  obtain ⟨i3, hi3, hz3, hs3, hb3⟩ := info_parts Info3
  obtain rfl := _hn_l1
  unfold magic_alike_m at hm
  replace hm := start_b hm
  refine enter (l := [.slice A1 l1.length c1, .int .i64 n2, .int .i64 want1, .func (.func 101) #[] #[]]) (n := 23) Try.func145 rfl rfl (by simp) (fun a hF => ?_)
  refine reg [] [] [0, 1, 2, 3] [pl 0 (.slice A1 l1.length c1), pl 1 (.int .i64 n2), pl 2 (.int .i64 want1), pl 3 (.func (.func 101) #[] #[])] hF hS Fol (by kernel_rfl) (by kernel_rfl) (by kernel_rfl) ?_ (fun a w hF hS => ?_)
  · exact obs_nil
  refine seq_cut (fun a w => Fr 23 [] a ∧ Sep w0 B w (fs) ∧ (magic_alike_J1).bind some = some r) ?_ ?_
  · rintro a w ⟨hF, hS, hm⟩
    unfold magic_alike_J1 at hm
    refine reg [] [] [8] [pl 8 (.bool true)] hF hS Fol (by kernel_rfl) (by kernel_rfl) (by kernel_rfl) ?_ (fun a w hF hS => ?_)
    · exact obs_nil
    refine wpIn_ret ?_
    have hm : some true = some r := hm
    obtain rfl := Option.some.inj hm
    exact retV (rs := [.tmp 8]) (vs := [.bool true]) hF rfl (rv_t (by kernel_rfl) <| rv_nil) rfl ⟨rfl, hS⟩
  · refine reg [] [] [0, 1, 2, 3, 10, 11] [pl 0 (.slice A1 l1.length c1), pl 1 (.int .i64 n2), pl 2 (.int .i64 want1), pl 3 (.func (.func 101) #[] #[]), pl 10 (.int .i64 n2), pl 11 (.int .i64 0)] hF hS Fol (by kernel_rfl) (by kernel_rfl) (by kernel_rfl) ?_ (fun a w hF hS => ?_)
    · exact obs_nil
    refine wpIn_block ?_
    refine wp_loop_model (S := Int) (R := (Fl Unit Bool)) (magic_alike_L1 l1 n2 want1) (fun x => (magic_alike_K1 x).bind some) r (fun (x : Int) a w => Fr 23 [pl 0 (.slice A1 l1.length c1), pl 1 (.int .i64 n2), pl 2 (.int .i64 want1), pl 3 (.func (.func 101) #[] #[]), pl 10 (.int .i64 n2), pl 11 (.int .i64 x)] a ∧ Sep w0 B w (fs)) (assoc_b hm) ⟨hF.weak [0, 1, 2, 3, 10, 11] (by kernel_rfl), hS⟩ ?_
    clear hF hS hm
    rintro nn1 z1 a w ⟨hF, hS⟩ hm
    generalize hφ1 : stK (magic_alike_L1 l1 n2 want1) nn1 (fun x => (magic_alike_K1 x).bind some) = φ1 at hm
    unfold magic_alike_L1 at hm
    dsimp only at hm
    refine reg [] [] [0, 1, 2, 3, 10, 11, 12] [pl 0 (.slice A1 l1.length c1), pl 1 (.int .i64 n2), pl 2 (.int .i64 want1), pl 3 (.func (.func 101) #[] #[]), pl 10 (.int .i64 n2), pl 11 (.int .i64 z1), pl 12 (.bool (decide (z1 < n2)))] hF hS Fol (by kernel_rfl) (by kernel_rfl) (by kernel_rfl) ?_ (fun a w hF hS => ?_)
    · exact obs_nil
    refine seq_cut (fun a w => Fr 23 [pl 0 (.slice A1 l1.length c1), pl 1 (.int .i64 n2), pl 2 (.int .i64 want1), pl 3 (.func (.func 101) #[] #[]), pl 10 (.int .i64 n2), pl 11 (.int .i64 z1)] a ∧ Sep w0 B w (fs) ∧ ((magic_alike_J2 l1 n2 want1 z1)).bind φ1 = some r) ?_ ?_
    · rintro a w ⟨hF, hS, hm⟩
      unfold magic_alike_J2 at hm
      refine seq_cut (fun a w => Fr 23 [pl 0 (.slice A1 l1.length c1), pl 1 (.int .i64 n2), pl 2 (.int .i64 want1), pl 3 (.func (.func 101) #[] #[]), pl 10 (.int .i64 n2), pl 11 (.int .i64 z1)] a ∧ Sep w0 B w (fs) ∧ ((magic_alike_J3 z1)).bind φ1 = some r) ?_ ?_
      · rintro a w ⟨hF, hS, hm⟩
        unfold magic_alike_J3 at hm
        refine reg1 [] [] [0, 1, 2, 3, 10, 11] [pl 0 (.slice A1 l1.length c1), pl 1 (.int .i64 n2), pl 2 (.int .i64 want1), pl 3 (.func (.func 101) #[] #[]), pl 10 (.int .i64 n2), pl 11 (.int .i64 (w64 (z1 + 1)))] hF hS Fol (by kernel_rfl) (by kernel_rfl) (by kernel_rfl) ?_ (fun a w hF hS => ?_)
        · exact obs_nil
        refine then_n ?_
        rw [← hφ1] at hm
        exact ⟨(w64 (z1 + 1)), ⟨hF.weak [0, 1, 2, 3, 10, 11] (by kernel_rfl), hS⟩, hm⟩
      · refine wpIn_block ?_
        refine reg [] [] [0, 1, 2, 3, 9, 10, 11] [pl 0 (.slice A1 l1.length c1), pl 1 (.int .i64 n2), pl 2 (.int .i64 want1), pl 3 (.func (.func 101) #[] #[]), pl 9 (.int .i64 z1), pl 10 (.int .i64 n2), pl 11 (.int .i64 z1)] hF hS Fol (by kernel_rfl) (by kernel_rfl) (by kernel_rfl) ?_ (fun a w hF hS => ?_)
        · exact obs_nil
        refine seqR ?_
        obtain ⟨r1, hr1, hm⟩ := call_b hm
        obtain ⟨r2, hr2, hm⟩ := call_b hm
        refine at_run 4 [] [] [0, 1, 2, 3, 10, 11, 14, 15, 16, 17] [pl 0 (.slice A1 l1.length c1), pl 1 (.int .i64 n2), pl 2 (.int .i64 want1), pl 3 (.func (.func 101) #[] #[]), pl 10 (.int .i64 n2), pl 11 (.int .i64 z1), pl 14 (.slice A1 l1.length c1), pl 15 (.int .i64 n2), pl 16 (.func (.func 101) #[] #[]), pl 17 (.int .i64 z1)] hF hS (by kernel_rfl) (by kernel_rfl) ?_ (fun a w hF hS => ?_)
        · exact obs_nil
        refine at_call (f := 101) (args := #[.int .i64 z1]) (d := 18) hF (by kernel_rfl) (by kernel_rfl) Try.func101 (by kernel_rfl) rfl (magic_row_w hr1 hS ) (fun v a w hR hF => ?_)
        clear hS
        obtain ⟨g1, rfl, hS⟩ := hR
        have hS : Sep w0 B w (blk g1 3 #[.int .i64 r1] :: fs) := hS
        refine at_run 3 [⟨false, [], callFunc 100 #[.slice A1 l1.length c1, .int .i64 n2, .func (.func 149) #[] #[.pointer (some ⟨g1, 0, none⟩)]], .int .i64 r2⟩] [some (.int .i64 r2), none, none] [0, 1, 2, 3, 10, 11, 21] [pl 0 (.slice A1 l1.length c1), pl 1 (.int .i64 n2), pl 2 (.int .i64 want1), pl 3 (.func (.func 101) #[] #[]), pl 10 (.int .i64 n2), pl 11 (.int .i64 z1), pl 21 (.bool (r2 != want1))] hF hS (by kernel_rfl) (by kernel_rfl) ?_ (fun a w hF hS => ?_)
        · exact obs_cons (ob_call Try.func100 (by kernel_rfl) rfl (fun _ _ hS => magic_sum_w hr2 hS (fun _ hS => (hr_l1 _ (hS.dropN 0))) _hc_l1 rfl)) <| obs_nil
        refine at_end [0, 1, 2, 3, 10, 11, 21] [pl 0 (.slice A1 l1.length c1), pl 1 (.int .i64 n2), pl 2 (.int .i64 want1), pl 3 (.func (.func 101) #[] #[]), pl 10 (.int .i64 n2), pl 11 (.int .i64 z1), pl 21 (.bool (r2 != want1))] hF rfl (by kernel_rfl) (fun hF => ?_)
        refine then_n ?_
        refine cond_ev (t := 21) (b := (r2 != want1)) hF (by kernel_rfl) (fun hb => ?_) (fun hb => ?_)
        · replace hm := if_t hm hb
          refine reg [] [] [8] [pl 8 (.bool false)] hF hS Fol (by kernel_rfl) (by kernel_rfl) (by kernel_rfl) ?_ (fun a w hF hS => ?_)
          · exact obs_nil
          refine wpIn_ret ?_
          refine block_r (then_r (then_r (block_r (then_r ?_))))
          rw [← hφ1] at hm
          replace hm := done_b hm
          unfold magic_alike_K1 at hm
          try dsimp only at hm
          have hS := hS.pickN 1 [] (by decide)
          have hm : some false = some r := hm
          obtain rfl := Option.some.inj hm
          exact retV (rs := [.tmp 8]) (vs := [.bool false]) hF rfl (rv_t (by kernel_rfl) <| rv_nil) rfl ⟨rfl, hS⟩
        · replace hm := if_f hm hb
          refine wpIn_skip ?_
          refine block_n ?_
          refine then_n ?_
          have hS := hS.pickN 1 [] (by decide)
          exact ⟨hF.weak [0, 1, 2, 3, 10, 11] (by kernel_rfl), hS, hm⟩
    · refine cond_ev (t := 12) (b := decide (z1 < n2)) hF (by kernel_rfl) (fun hb => ?_) (fun hb => ?_)
      · replace hm := if_t hm hb
        refine wpIn_skip ?_
        refine then_n ?_
        exact ⟨hF.weak [0, 1, 2, 3, 10, 11] (by kernel_rfl), hS, hm⟩
      · replace hm := if_f hm hb
        refine wpIn_exit ?_
        refine then_e (then_e (block_e (then_n ?_)))
        rw [← hφ1] at hm
        replace hm := done_b hm
        unfold magic_alike_K1 at hm
        try dsimp only at hm
        have hm : (magic_alike_J1).bind some = some r := hm
        exact ⟨hF.weak [] (by kernel_rfl), hS, hm⟩

noncomputable def magic_column_m  (k1 : Int) : Option Int :=
  some k1

set_option maxRecDepth 100000 in
set_option maxHeartbeats 4000000 in
theorem magic_column_w {k1 : Int} {r : Int} {w0 w : World} {B : Nat} {fs : List HP} (hm : magic_column_m k1 = some r) (hS : Sep w0 B w (fs)) :
    Calls Try.prog 146 #[.int .i64 k1] w fun e w' => ∃ v, e = .returned v ∧ ∃ (g2 : Nat), v = .func (.func 182) #[] #[.pointer (some ⟨g2, 0, none⟩)] ∧ Sep w0 B w' (blk g2 3 #[.int .i64 r] :: fs) := by
  unfold magic_column_m at hm
  replace hm := start_b hm
  refine enter (l := [.int .i64 k1]) (n := 4) Try.func146 rfl rfl (by simp) (fun a hF => ?_)
  refine seqR ?_
  refine at_do (d := 1) (s := vS (Instr.box 3 (.int .i64 k1))) (v := .pointer (some ⟨w.heap.size, 0, none⟩)) (w' := w.alloc (.cells #[.int .i64 k1] 3)) hF (by kernel_rfl) (by kernel_rfl) (by kernel_rfl) (fun a hF => ?_)
  have hS : Sep w0 B (w.alloc (.cells #[.int .i64 k1] 3)) (blk w.heap.size 3 #[.int .i64 k1] :: (fs)) := hS.box 3 #[.int .i64 k1]
  generalize w.heap.size = g1 at hF hS
  generalize w.alloc (.cells #[.int .i64 k1] 3) = w at hS ⊢
  refine at_run 1 [] [] [1] [pl 1 (.pointer (some ⟨g1, 0, none⟩))] hF hS (by kernel_rfl) (by kernel_rfl) ?_ (fun a w hF hS => ?_)
  · exact obs_nil
  refine at_end [1] [pl 1 (.pointer (some ⟨g1, 0, none⟩))] hF rfl (by kernel_rfl) (fun hF => ?_)
  refine then_n ?_
  refine reg [] [] [2] [pl 2 (.func (.func 182) #[] #[.pointer (some ⟨g1, 0, none⟩)])] hF hS Fol (by kernel_rfl) (by kernel_rfl) (by kernel_rfl) ?_ (fun a w hF hS => ?_)
  · exact obs_nil
  refine wpIn_ret ?_
  have hm : some k1 = some r := hm
  obtain rfl := Option.some.inj hm
  exact retV (rs := [.tmp 2]) (vs := [.func (.func 182) #[] #[.pointer (some ⟨g1, 0, none⟩)]]) hF rfl (rv_t (by kernel_rfl) <| rv_nil) rfl ⟨_, rfl, g1, rfl, hS⟩

noncomputable def magic_column_1_m  (i1 : Int) (p11 : Int) : Option (Int × Int) :=
  some (p11, i1)

set_option maxRecDepth 100000 in
set_option maxHeartbeats 4000000 in
theorem magic_column_1_w {i1 : Int} {g1 : Nat} {p11 : Int} {r : (Int × Int)} {w0 w : World} {B : Nat} {fs : List HP} (hm : magic_column_1_m i1 p11 = some r) (hS : Sep w0 B w (blk g1 3 #[.int .i64 p11] :: fs)) :
    Calls Try.prog 182 #[.int .i64 i1, .pointer (some ⟨g1, 0, none⟩)] w fun e w' => e = .returned (.tuple #[.int .i64 r.1, .int .i64 r.2]) ∧ Sep w0 B w' (blk g1 3 #[.int .i64 p11] :: fs) := by
  unfold magic_column_1_m at hm
  replace hm := start_b hm
  refine enter (l := [.int .i64 i1, .pointer (some ⟨g1, 0, none⟩)]) (n := 7) Try.func182 rfl rfl (by simp) (fun a hF => ?_)
  refine reg [] [] [0, 1] [pl 0 (.int .i64 i1), pl 1 (.pointer (some ⟨g1, 0, none⟩))] hF hS Fol (by kernel_rfl) (by kernel_rfl) (by kernel_rfl) ?_ (fun a w hF hS => ?_)
  · exact obs_nil
  refine reg [⟨false, [], vS (Instr.loadAt 3 (.pointer (some ⟨g1, 0, none⟩))), .int .i64 p11⟩] [some (.int .i64 p11), none, none, none] [3, 4] [pl 3 (.int .i64 p11), pl 4 (.int .i64 i1)] hF hS Fol (by kernel_rfl) (by kernel_rfl) (by kernel_rfl) ?_ (fun a w hF hS => ?_)
  · exact obs_cons (ob_load Agg3 (fun _ _ hS => (hS.at_ 0 rfl).cell rfl)) <| obs_nil
  refine wpIn_ret ?_
  have hm : some (p11, i1) = some r := hm
  obtain rfl := Option.some.inj hm
  exact retV (rs := [.tmp 3, .tmp 4]) (vs := [.int .i64 p11, .int .i64 i1]) hF rfl (rv_t (by kernel_rfl) <| rv_t (by kernel_rfl) <| rv_nil) rfl ⟨rfl, hS⟩

noncomputable def magic_sum_2_J3  (z1 : Int) (s3 : Int) : Option (St (Int × Int) Int) :=
  some (.next (s3, (w64 (z1 + 1))))

noncomputable def magic_sum_2_J2  (l1 : List Int) (n2 : Int) (v1 : Int) (s1 : Int) (z1 : Int) : Option (St (Int × Int) Int) :=
  (magic_column_1_m z1 v1).bind fun r1 => asrt (n2 ≠ (0 : Int)) <| asrt (n2 ≠ (0 : Int)) <| asrt (0 ≤ (w64 ((w64 ((Int.tmod r1.2 n2) * n2)) + (Int.tmod r1.1 n2))) ∧ (w64 ((w64 ((Int.tmod r1.2 n2) * n2)) + (Int.tmod r1.1 n2))) < (l1.length : Int)) <| (magic_sum_2_J3 z1) (w64 (s1 + (geti l1 (w64 ((w64 ((Int.tmod r1.2 n2) * n2)) + (Int.tmod r1.1 n2))))))

noncomputable def magic_sum_2_J1  (s2 : Int) : Option Int :=
  some s2

noncomputable def magic_sum_2_K1  : Int → Option Int :=
  fun (x : Int) => match x with | s2 => magic_sum_2_J1 s2

noncomputable def magic_sum_2_L1  (l1 : List Int) (n2 : Int) (v1 : Int) : (Int × Int) → Option (St (Int × Int) Int) :=
  fun (x : (Int × Int)) => match x with | (s1, z1) => if (decide (z1 < n2)) then ((magic_sum_2_J2 l1 n2 v1 s1 z1)) else (some (.done s1))

noncomputable def magic_sum_2_m  (l1 : List Int) (n2 : Int) (v1 : Int) : Option Int :=
  (loop (magic_sum_2_L1 l1 n2 v1) (0, 0)).bind magic_sum_2_K1

set_option maxRecDepth 100000 in
set_option maxHeartbeats 4000000 in
theorem magic_sum_2_w {A1 : Option Addr} {c1 : Nat} {n1 : Nat} {l1 : List Int} {n2 : Int} {g1 : Nat} {v1 : Int} {r : Int} {w0 w : World} {B : Nat} {fs : List HP} (hm : magic_sum_2_m l1 n2 v1 = some r) (hS : Sep w0 B w (blk g1 3 #[.int .i64 v1] :: fs)) (hr_l1 : RdF w0 B fs A1 (vI l1)) (_hc_l1 : l1.length ≤ c1) (_hn_l1 : n1 = l1.length) :
    Calls Try.prog 100 #[.slice A1 n1 c1, .int .i64 n2, .func (.func 182) #[] #[.pointer (some ⟨g1, 0, none⟩)]] w fun e w' => e = .returned (.int .i64 r) ∧ Sep w0 B w' (blk g1 3 #[.int .i64 v1] :: fs) := by
  obtain ⟨i3, hi3, hz3, hs3, hb3⟩ := info_parts Info3
  obtain rfl := _hn_l1
  unfold magic_sum_2_m at hm
  replace hm := start_b hm
  refine enter (l := [.slice A1 l1.length c1, .int .i64 n2, .func (.func 182) #[] #[.pointer (some ⟨g1, 0, none⟩)]]) (n := 37) Try.func100 rfl rfl (by simp) (fun a hF => ?_)
  refine reg [] [] [0, 1, 2] [pl 0 (.slice A1 l1.length c1), pl 1 (.int .i64 n2), pl 2 (.func (.func 182) #[] #[.pointer (some ⟨g1, 0, none⟩)])] hF hS Fol (by kernel_rfl) (by kernel_rfl) (by kernel_rfl) ?_ (fun a w hF hS => ?_)
  · exact obs_nil
  refine reg [] [] [0, 1, 2, 7] [pl 0 (.slice A1 l1.length c1), pl 1 (.int .i64 n2), pl 2 (.func (.func 182) #[] #[.pointer (some ⟨g1, 0, none⟩)]), pl 7 (.int .i64 0)] hF hS Fol (by kernel_rfl) (by kernel_rfl) (by kernel_rfl) ?_ (fun a w hF hS => ?_)
  · exact obs_nil
  refine seq_cut (fun a w => ∃ (s2 : Int), Fr 37 [pl 7 (.int .i64 s2)] a ∧ Sep w0 B w (blk g1 3 #[.int .i64 v1] :: fs) ∧ (magic_sum_2_J1 s2).bind some = some r) ?_ ?_
  · rintro a w ⟨s2, hF, hS, hm⟩
    unfold magic_sum_2_J1 at hm
    refine reg [] [] [6] [pl 6 (.int .i64 s2)] hF hS Fol (by kernel_rfl) (by kernel_rfl) (by kernel_rfl) ?_ (fun a w hF hS => ?_)
    · exact obs_nil
    refine wpIn_ret ?_
    have hm : some s2 = some r := hm
    obtain rfl := Option.some.inj hm
    exact retV (rs := [.tmp 6]) (vs := [.int .i64 s2]) hF rfl (rv_t (by kernel_rfl) <| rv_nil) rfl ⟨rfl, hS⟩
  · refine reg [] [] [0, 1, 2, 7, 11, 12] [pl 0 (.slice A1 l1.length c1), pl 1 (.int .i64 n2), pl 2 (.func (.func 182) #[] #[.pointer (some ⟨g1, 0, none⟩)]), pl 7 (.int .i64 0), pl 11 (.int .i64 n2), pl 12 (.int .i64 0)] hF hS Fol (by kernel_rfl) (by kernel_rfl) (by kernel_rfl) ?_ (fun a w hF hS => ?_)
    · exact obs_nil
    refine wpIn_block ?_
    refine wp_loop_model (S := (Int × Int)) (R := Int) (magic_sum_2_L1 l1 n2 v1) (fun x => (magic_sum_2_K1 x).bind some) r (fun (x : (Int × Int)) a w => Fr 37 [pl 0 (.slice A1 l1.length c1), pl 1 (.int .i64 n2), pl 2 (.func (.func 182) #[] #[.pointer (some ⟨g1, 0, none⟩)]), pl 7 (.int .i64 x.1), pl 11 (.int .i64 n2), pl 12 (.int .i64 x.2)] a ∧ Sep w0 B w (blk g1 3 #[.int .i64 v1] :: fs)) (assoc_b hm) ⟨hF.weak [0, 1, 2, 7, 11, 12] (by kernel_rfl), hS⟩ ?_
    clear hF hS hm
    rintro nn1 ⟨s1, z1⟩ a w ⟨hF, hS⟩ hm
    generalize hφ1 : stK (magic_sum_2_L1 l1 n2 v1) nn1 (fun x => (magic_sum_2_K1 x).bind some) = φ1 at hm
    unfold magic_sum_2_L1 at hm
    dsimp only at hF hS hm
    refine reg [] [] [0, 1, 2, 7, 11, 12, 13] [pl 0 (.slice A1 l1.length c1), pl 1 (.int .i64 n2), pl 2 (.func (.func 182) #[] #[.pointer (some ⟨g1, 0, none⟩)]), pl 7 (.int .i64 s1), pl 11 (.int .i64 n2), pl 12 (.int .i64 z1), pl 13 (.bool (decide (z1 < n2)))] hF hS Fol (by kernel_rfl) (by kernel_rfl) (by kernel_rfl) ?_ (fun a w hF hS => ?_)
    · exact obs_nil
    refine seq_cut (fun a w => Fr 37 [pl 0 (.slice A1 l1.length c1), pl 1 (.int .i64 n2), pl 2 (.func (.func 182) #[] #[.pointer (some ⟨g1, 0, none⟩)]), pl 7 (.int .i64 s1), pl 11 (.int .i64 n2), pl 12 (.int .i64 z1)] a ∧ Sep w0 B w (blk g1 3 #[.int .i64 v1] :: fs) ∧ ((magic_sum_2_J2 l1 n2 v1 s1 z1)).bind φ1 = some r) ?_ ?_
    · rintro a w ⟨hF, hS, hm⟩
      unfold magic_sum_2_J2 at hm
      refine seq_cut (fun a w => ∃ (s3 : Int), Fr 37 [pl 0 (.slice A1 l1.length c1), pl 1 (.int .i64 n2), pl 2 (.func (.func 182) #[] #[.pointer (some ⟨g1, 0, none⟩)]), pl 7 (.int .i64 s3), pl 11 (.int .i64 n2), pl 12 (.int .i64 z1)] a ∧ Sep w0 B w (blk g1 3 #[.int .i64 v1] :: fs) ∧ ((magic_sum_2_J3 z1) s3).bind φ1 = some r) ?_ ?_
      · rintro a w ⟨s3, hF, hS, hm⟩
        unfold magic_sum_2_J3 at hm
        refine reg1 [] [] [0, 1, 2, 7, 11, 12] [pl 0 (.slice A1 l1.length c1), pl 1 (.int .i64 n2), pl 2 (.func (.func 182) #[] #[.pointer (some ⟨g1, 0, none⟩)]), pl 7 (.int .i64 s3), pl 11 (.int .i64 n2), pl 12 (.int .i64 (w64 (z1 + 1)))] hF hS Fol (by kernel_rfl) (by kernel_rfl) (by kernel_rfl) ?_ (fun a w hF hS => ?_)
        · exact obs_nil
        refine then_n ?_
        rw [← hφ1] at hm
        exact ⟨(s3, (w64 (z1 + 1))), ⟨hF.weak [0, 1, 2, 7, 11, 12] (by kernel_rfl), hS⟩, hm⟩
      · refine wpIn_block ?_
        refine reg [] [] [0, 1, 2, 7, 8, 11, 12] [pl 0 (.slice A1 l1.length c1), pl 1 (.int .i64 n2), pl 2 (.func (.func 182) #[] #[.pointer (some ⟨g1, 0, none⟩)]), pl 7 (.int .i64 s1), pl 8 (.int .i64 z1), pl 11 (.int .i64 n2), pl 12 (.int .i64 z1)] hF hS Fol (by kernel_rfl) (by kernel_rfl) (by kernel_rfl) ?_ (fun a w hF hS => ?_)
        · exact obs_nil
        obtain ⟨r1, hr1, hm⟩ := call_b hm
        refine reg [⟨false, [], callFunc 182 #[.int .i64 z1, .pointer (some ⟨g1, 0, none⟩)], .tuple #[.int .i64 r1.1, .int .i64 r1.2]⟩] [none, none, some (.tuple #[.int .i64 r1.1, .int .i64 r1.2]), none, none, none, none, none] [0, 1, 2, 7, 9, 10, 11, 12] [pl 0 (.slice A1 l1.length c1), pl 1 (.int .i64 n2), pl 2 (.func (.func 182) #[] #[.pointer (some ⟨g1, 0, none⟩)]), pl 7 (.int .i64 s1), pl 9 (.int .i64 r1.1), pl 10 (.int .i64 r1.2), pl 11 (.int .i64 n2), pl 12 (.int .i64 z1)] hF hS Fol (by kernel_rfl) (by kernel_rfl) (by kernel_rfl) ?_ (fun a w hF hS => ?_)
        · exact obs_cons (ob_call Try.func182 (by kernel_rfl) rfl (fun _ _ hS => magic_column_1_w hr1 hS )) <| obs_nil
        obtain ⟨hp1, hm⟩ := asrt_b hm
        obtain ⟨hp2, hm⟩ := asrt_b hm
        obtain ⟨hp3, hm⟩ := asrt_b hm
        refine reg1 [⟨true, [], vS (Op.intDiv .rem .i64 r1.2 n2), .int .i64 (Int.tmod r1.2 n2)⟩, ⟨true, [], vS (Op.intDiv .rem .i64 r1.1 n2), .int .i64 (Int.tmod r1.1 n2)⟩, ⟨true, [], vS (Instr.indexAt 34 (.slice A1 l1.length c1) (.int .i64 (w64 ((w64 ((Int.tmod r1.2 n2) * n2)) + (Int.tmod r1.1 n2))))), .pointer (some (sAddr A1 (w64 ((w64 ((Int.tmod r1.2 n2) * n2)) + (Int.tmod r1.1 n2)))))⟩, ⟨false, [], vS (Instr.loadAt 3 (.pointer (some (sAddr A1 (w64 ((w64 ((Int.tmod r1.2 n2) * n2)) + (Int.tmod r1.1 n2))))))), .int .i64 (geti l1 (w64 ((w64 ((Int.tmod r1.2 n2) * n2)) + (Int.tmod r1.1 n2))))⟩] [none, none, none, none, some (.int .i64 (Int.tmod r1.2 n2)), none, none, none, none, some (.int .i64 (Int.tmod r1.1 n2)), none, some (.pointer (some (sAddr A1 (w64 ((w64 ((Int.tmod r1.2 n2) * n2)) + (Int.tmod r1.1 n2)))))), some (.int .i64 (geti l1 (w64 ((w64 ((Int.tmod r1.2 n2) * n2)) + (Int.tmod r1.1 n2))))), none, none] [0, 1, 2, 7, 11, 12] [pl 0 (.slice A1 l1.length c1), pl 1 (.int .i64 n2), pl 2 (.func (.func 182) #[] #[.pointer (some ⟨g1, 0, none⟩)]), pl 7 (.int .i64 (w64 (s1 + (geti l1 (w64 ((w64 ((Int.tmod r1.2 n2) * n2)) + (Int.tmod r1.1 n2))))))), pl 11 (.int .i64 n2), pl 12 (.int .i64 z1)] hF hS Fol (by kernel_rfl) (by kernel_rfl) (by kernel_rfl) ?_ (fun a w hF hS => ?_)
        · exact obs_cons (ob_rem rfl (fun _ => hp1)) <| obs_cons (ob_rem rfl (fun _ => hp2)) <| obs_cons (ob_ix1 (f := (Value.int .i64)) (m := l1) Und34 hi3 hs3 (hr_l1 _ (hS.dropN 1)) rfl (fun _ => hp3)) <| obs_cons (ob_get1 (n := l1.length) (m := l1) (Value.int .i64) (0 : Int) Agg3 (fun _ hS => ⟨_, (hr_l1 _ (hS.dropN 1))⟩) (fun _ hS => rfl) (fun _ => hp3)) <| obs_nil
        refine block_n ?_
        refine then_n ?_
        exact ⟨(w64 (s1 + (geti l1 (w64 ((w64 ((Int.tmod r1.2 n2) * n2)) + (Int.tmod r1.1 n2)))))), hF.weak [0, 1, 2, 7, 11, 12] (by kernel_rfl), hS, hm⟩
    · refine cond_ev (t := 13) (b := decide (z1 < n2)) hF (by kernel_rfl) (fun hb => ?_) (fun hb => ?_)
      · replace hm := if_t hm hb
        refine wpIn_skip ?_
        refine then_n ?_
        exact ⟨hF.weak [0, 1, 2, 7, 11, 12] (by kernel_rfl), hS, hm⟩
      · replace hm := if_f hm hb
        refine wpIn_exit ?_
        refine then_e (then_e (block_e (then_n ?_)))
        rw [← hφ1] at hm
        replace hm := done_b hm
        unfold magic_sum_2_K1 at hm
        try dsimp only at hm
        have hm : (magic_sum_2_J1 s1).bind some = some r := hm
        exact ⟨s1, hF.weak [7] (by kernel_rfl), hS, hm⟩

noncomputable def magic_alike_2_J3  (z1 : Int) : Option (St Int (Fl Unit Bool)) :=
  some (.next (w64 (z1 + 1)))

noncomputable def magic_alike_2_J2  (l1 : List Int) (n2 : Int) (want1 : Int) (z1 : Int) : Option (St Int (Fl Unit Bool)) :=
  (magic_column_m z1).bind fun r1 => (magic_sum_2_m l1 n2 r1).bind fun r2 => if (r2 != want1) then (some (.done (.ret false))) else ((magic_alike_2_J3 z1))

noncomputable def magic_alike_2_J1  : Option Bool :=
  some true

noncomputable def magic_alike_2_K1  : (Fl Unit Bool) → Option Bool :=
  fun (x : (Fl Unit Bool)) => match x with | .go _ => magic_alike_2_J1 | .ret x => some x

noncomputable def magic_alike_2_L1  (l1 : List Int) (n2 : Int) (want1 : Int) : Int → Option (St Int (Fl Unit Bool)) :=
  fun (x : Int) => match x with | z1 => if (decide (z1 < n2)) then ((magic_alike_2_J2 l1 n2 want1 z1)) else (some (.done (.go ())))

noncomputable def magic_alike_2_m  (l1 : List Int) (n2 : Int) (want1 : Int) : Option Bool :=
  (loop (magic_alike_2_L1 l1 n2 want1) 0).bind magic_alike_2_K1

set_option maxRecDepth 100000 in
set_option maxHeartbeats 4000000 in
theorem magic_alike_2_w {A1 : Option Addr} {c1 : Nat} {n1 : Nat} {l1 : List Int} {n2 : Int} {want1 : Int} {r : Bool} {w0 w : World} {B : Nat} {fs : List HP} (hm : magic_alike_2_m l1 n2 want1 = some r) (hS : Sep w0 B w (fs)) (hr_l1 : RdF w0 B fs A1 (vI l1)) (_hc_l1 : l1.length ≤ c1) (_hn_l1 : n1 = l1.length) :
    Calls Try.prog 145 #[.slice A1 n1 c1, .int .i64 n2, .int .i64 want1, .func (.func 146) #[] #[]] w fun e w' => e = .returned (.bool r) ∧ Sep w0 B w' (fs) := by
  obtain ⟨i3, hi3, hz3, hs3, hb3⟩ := info_parts Info3
  obtain rfl := _hn_l1
  unfold magic_alike_2_m at hm
  replace hm := start_b hm
  refine enter (l := [.slice A1 l1.length c1, .int .i64 n2, .int .i64 want1, .func (.func 146) #[] #[]]) (n := 23) Try.func145 rfl rfl (by simp) (fun a hF => ?_)
  refine reg [] [] [0, 1, 2, 3] [pl 0 (.slice A1 l1.length c1), pl 1 (.int .i64 n2), pl 2 (.int .i64 want1), pl 3 (.func (.func 146) #[] #[])] hF hS Fol (by kernel_rfl) (by kernel_rfl) (by kernel_rfl) ?_ (fun a w hF hS => ?_)
  · exact obs_nil
  refine seq_cut (fun a w => Fr 23 [] a ∧ Sep w0 B w (fs) ∧ (magic_alike_2_J1).bind some = some r) ?_ ?_
  · rintro a w ⟨hF, hS, hm⟩
    unfold magic_alike_2_J1 at hm
    refine reg [] [] [8] [pl 8 (.bool true)] hF hS Fol (by kernel_rfl) (by kernel_rfl) (by kernel_rfl) ?_ (fun a w hF hS => ?_)
    · exact obs_nil
    refine wpIn_ret ?_
    have hm : some true = some r := hm
    obtain rfl := Option.some.inj hm
    exact retV (rs := [.tmp 8]) (vs := [.bool true]) hF rfl (rv_t (by kernel_rfl) <| rv_nil) rfl ⟨rfl, hS⟩
  · refine reg [] [] [0, 1, 2, 3, 10, 11] [pl 0 (.slice A1 l1.length c1), pl 1 (.int .i64 n2), pl 2 (.int .i64 want1), pl 3 (.func (.func 146) #[] #[]), pl 10 (.int .i64 n2), pl 11 (.int .i64 0)] hF hS Fol (by kernel_rfl) (by kernel_rfl) (by kernel_rfl) ?_ (fun a w hF hS => ?_)
    · exact obs_nil
    refine wpIn_block ?_
    refine wp_loop_model (S := Int) (R := (Fl Unit Bool)) (magic_alike_2_L1 l1 n2 want1) (fun x => (magic_alike_2_K1 x).bind some) r (fun (x : Int) a w => Fr 23 [pl 0 (.slice A1 l1.length c1), pl 1 (.int .i64 n2), pl 2 (.int .i64 want1), pl 3 (.func (.func 146) #[] #[]), pl 10 (.int .i64 n2), pl 11 (.int .i64 x)] a ∧ Sep w0 B w (fs)) (assoc_b hm) ⟨hF.weak [0, 1, 2, 3, 10, 11] (by kernel_rfl), hS⟩ ?_
    clear hF hS hm
    rintro nn1 z1 a w ⟨hF, hS⟩ hm
    generalize hφ1 : stK (magic_alike_2_L1 l1 n2 want1) nn1 (fun x => (magic_alike_2_K1 x).bind some) = φ1 at hm
    unfold magic_alike_2_L1 at hm
    dsimp only at hm
    refine reg [] [] [0, 1, 2, 3, 10, 11, 12] [pl 0 (.slice A1 l1.length c1), pl 1 (.int .i64 n2), pl 2 (.int .i64 want1), pl 3 (.func (.func 146) #[] #[]), pl 10 (.int .i64 n2), pl 11 (.int .i64 z1), pl 12 (.bool (decide (z1 < n2)))] hF hS Fol (by kernel_rfl) (by kernel_rfl) (by kernel_rfl) ?_ (fun a w hF hS => ?_)
    · exact obs_nil
    refine seq_cut (fun a w => Fr 23 [pl 0 (.slice A1 l1.length c1), pl 1 (.int .i64 n2), pl 2 (.int .i64 want1), pl 3 (.func (.func 146) #[] #[]), pl 10 (.int .i64 n2), pl 11 (.int .i64 z1)] a ∧ Sep w0 B w (fs) ∧ ((magic_alike_2_J2 l1 n2 want1 z1)).bind φ1 = some r) ?_ ?_
    · rintro a w ⟨hF, hS, hm⟩
      unfold magic_alike_2_J2 at hm
      refine seq_cut (fun a w => Fr 23 [pl 0 (.slice A1 l1.length c1), pl 1 (.int .i64 n2), pl 2 (.int .i64 want1), pl 3 (.func (.func 146) #[] #[]), pl 10 (.int .i64 n2), pl 11 (.int .i64 z1)] a ∧ Sep w0 B w (fs) ∧ ((magic_alike_2_J3 z1)).bind φ1 = some r) ?_ ?_
      · rintro a w ⟨hF, hS, hm⟩
        unfold magic_alike_2_J3 at hm
        refine reg1 [] [] [0, 1, 2, 3, 10, 11] [pl 0 (.slice A1 l1.length c1), pl 1 (.int .i64 n2), pl 2 (.int .i64 want1), pl 3 (.func (.func 146) #[] #[]), pl 10 (.int .i64 n2), pl 11 (.int .i64 (w64 (z1 + 1)))] hF hS Fol (by kernel_rfl) (by kernel_rfl) (by kernel_rfl) ?_ (fun a w hF hS => ?_)
        · exact obs_nil
        refine then_n ?_
        rw [← hφ1] at hm
        exact ⟨(w64 (z1 + 1)), ⟨hF.weak [0, 1, 2, 3, 10, 11] (by kernel_rfl), hS⟩, hm⟩
      · refine wpIn_block ?_
        refine reg [] [] [0, 1, 2, 3, 9, 10, 11] [pl 0 (.slice A1 l1.length c1), pl 1 (.int .i64 n2), pl 2 (.int .i64 want1), pl 3 (.func (.func 146) #[] #[]), pl 9 (.int .i64 z1), pl 10 (.int .i64 n2), pl 11 (.int .i64 z1)] hF hS Fol (by kernel_rfl) (by kernel_rfl) (by kernel_rfl) ?_ (fun a w hF hS => ?_)
        · exact obs_nil
        refine seqR ?_
        obtain ⟨r1, hr1, hm⟩ := call_b hm
        obtain ⟨r2, hr2, hm⟩ := call_b hm
        refine at_run 4 [] [] [0, 1, 2, 3, 10, 11, 14, 15, 16, 17] [pl 0 (.slice A1 l1.length c1), pl 1 (.int .i64 n2), pl 2 (.int .i64 want1), pl 3 (.func (.func 146) #[] #[]), pl 10 (.int .i64 n2), pl 11 (.int .i64 z1), pl 14 (.slice A1 l1.length c1), pl 15 (.int .i64 n2), pl 16 (.func (.func 146) #[] #[]), pl 17 (.int .i64 z1)] hF hS (by kernel_rfl) (by kernel_rfl) ?_ (fun a w hF hS => ?_)
        · exact obs_nil
        refine at_call (f := 146) (args := #[.int .i64 z1]) (d := 18) hF (by kernel_rfl) (by kernel_rfl) Try.func146 (by kernel_rfl) rfl (magic_column_w hr1 hS ) (fun v a w hR hF => ?_)
        clear hS
        obtain ⟨g1, rfl, hS⟩ := hR
        have hS : Sep w0 B w (blk g1 3 #[.int .i64 r1] :: fs) := hS
        refine at_run 3 [⟨false, [], callFunc 100 #[.slice A1 l1.length c1, .int .i64 n2, .func (.func 182) #[] #[.pointer (some ⟨g1, 0, none⟩)]], .int .i64 r2⟩] [some (.int .i64 r2), none, none] [0, 1, 2, 3, 10, 11, 21] [pl 0 (.slice A1 l1.length c1), pl 1 (.int .i64 n2), pl 2 (.int .i64 want1), pl 3 (.func (.func 146) #[] #[]), pl 10 (.int .i64 n2), pl 11 (.int .i64 z1), pl 21 (.bool (r2 != want1))] hF hS (by kernel_rfl) (by kernel_rfl) ?_ (fun a w hF hS => ?_)
        · exact obs_cons (ob_call Try.func100 (by kernel_rfl) rfl (fun _ _ hS => magic_sum_2_w hr2 hS (fun _ hS => (hr_l1 _ (hS.dropN 0))) _hc_l1 rfl)) <| obs_nil
        refine at_end [0, 1, 2, 3, 10, 11, 21] [pl 0 (.slice A1 l1.length c1), pl 1 (.int .i64 n2), pl 2 (.int .i64 want1), pl 3 (.func (.func 146) #[] #[]), pl 10 (.int .i64 n2), pl 11 (.int .i64 z1), pl 21 (.bool (r2 != want1))] hF rfl (by kernel_rfl) (fun hF => ?_)
        refine then_n ?_
        refine cond_ev (t := 21) (b := (r2 != want1)) hF (by kernel_rfl) (fun hb => ?_) (fun hb => ?_)
        · replace hm := if_t hm hb
          refine reg [] [] [8] [pl 8 (.bool false)] hF hS Fol (by kernel_rfl) (by kernel_rfl) (by kernel_rfl) ?_ (fun a w hF hS => ?_)
          · exact obs_nil
          refine wpIn_ret ?_
          refine block_r (then_r (then_r (block_r (then_r ?_))))
          rw [← hφ1] at hm
          replace hm := done_b hm
          unfold magic_alike_2_K1 at hm
          try dsimp only at hm
          have hS := hS.pickN 1 [] (by decide)
          have hm : some false = some r := hm
          obtain rfl := Option.some.inj hm
          exact retV (rs := [.tmp 8]) (vs := [.bool false]) hF rfl (rv_t (by kernel_rfl) <| rv_nil) rfl ⟨rfl, hS⟩
        · replace hm := if_f hm hb
          refine wpIn_skip ?_
          refine block_n ?_
          refine then_n ?_
          have hS := hS.pickN 1 [] (by decide)
          exact ⟨hF.weak [0, 1, 2, 3, 10, 11] (by kernel_rfl), hS, hm⟩
    · refine cond_ev (t := 12) (b := decide (z1 < n2)) hF (by kernel_rfl) (fun hb => ?_) (fun hb => ?_)
      · replace hm := if_t hm hb
        refine wpIn_skip ?_
        refine then_n ?_
        exact ⟨hF.weak [0, 1, 2, 3, 10, 11] (by kernel_rfl), hS, hm⟩
      · replace hm := if_f hm hb
        refine wpIn_exit ?_
        refine then_e (then_e (block_e (then_n ?_)))
        rw [← hφ1] at hm
        replace hm := done_b hm
        unfold magic_alike_2_K1 at hm
        try dsimp only at hm
        have hm : (magic_alike_2_J1).bind some = some r := hm
        exact ⟨hF.weak [] (by kernel_rfl), hS, hm⟩

noncomputable def magic_down_m  (k1 : Int) : Option Int :=
  some k1

set_option maxRecDepth 100000 in
set_option maxHeartbeats 4000000 in
theorem magic_down_w {k1 : Int} {r : Int} {w0 w : World} {B : Nat} {fs : List HP} (hm : magic_down_m k1 = some r) (hS : Sep w0 B w (fs)) :
    Calls Try.prog 147 #[.int .i64 k1] w fun e w' => ∃ v, e = .returned v ∧ ∃ (g2 : Nat), v = .func (.func 183) #[] #[.pointer (some ⟨g2, 0, none⟩)] ∧ Sep w0 B w' (blk g2 3 #[.int .i64 r] :: fs) := by
  unfold magic_down_m at hm
  replace hm := start_b hm
  refine enter (l := [.int .i64 k1]) (n := 4) Try.func147 rfl rfl (by simp) (fun a hF => ?_)
  refine seqR ?_
  refine at_do (d := 1) (s := vS (Instr.box 3 (.int .i64 k1))) (v := .pointer (some ⟨w.heap.size, 0, none⟩)) (w' := w.alloc (.cells #[.int .i64 k1] 3)) hF (by kernel_rfl) (by kernel_rfl) (by kernel_rfl) (fun a hF => ?_)
  have hS : Sep w0 B (w.alloc (.cells #[.int .i64 k1] 3)) (blk w.heap.size 3 #[.int .i64 k1] :: (fs)) := hS.box 3 #[.int .i64 k1]
  generalize w.heap.size = g1 at hF hS
  generalize w.alloc (.cells #[.int .i64 k1] 3) = w at hS ⊢
  refine at_run 1 [] [] [1] [pl 1 (.pointer (some ⟨g1, 0, none⟩))] hF hS (by kernel_rfl) (by kernel_rfl) ?_ (fun a w hF hS => ?_)
  · exact obs_nil
  refine at_end [1] [pl 1 (.pointer (some ⟨g1, 0, none⟩))] hF rfl (by kernel_rfl) (fun hF => ?_)
  refine then_n ?_
  refine reg [] [] [2] [pl 2 (.func (.func 183) #[] #[.pointer (some ⟨g1, 0, none⟩)])] hF hS Fol (by kernel_rfl) (by kernel_rfl) (by kernel_rfl) ?_ (fun a w hF hS => ?_)
  · exact obs_nil
  refine wpIn_ret ?_
  have hm : some k1 = some r := hm
  obtain rfl := Option.some.inj hm
  exact retV (rs := [.tmp 2]) (vs := [.func (.func 183) #[] #[.pointer (some ⟨g1, 0, none⟩)]]) hF rfl (rv_t (by kernel_rfl) <| rv_nil) rfl ⟨_, rfl, g1, rfl, hS⟩

noncomputable def magic_down_1_m  (i1 : Int) (p11 : Int) : Option (Int × Int) :=
  some ((w64 (i1 + p11)), i1)

set_option maxRecDepth 100000 in
set_option maxHeartbeats 4000000 in
theorem magic_down_1_w {i1 : Int} {g1 : Nat} {p11 : Int} {r : (Int × Int)} {w0 w : World} {B : Nat} {fs : List HP} (hm : magic_down_1_m i1 p11 = some r) (hS : Sep w0 B w (blk g1 3 #[.int .i64 p11] :: fs)) :
    Calls Try.prog 183 #[.int .i64 i1, .pointer (some ⟨g1, 0, none⟩)] w fun e w' => e = .returned (.tuple #[.int .i64 r.1, .int .i64 r.2]) ∧ Sep w0 B w' (blk g1 3 #[.int .i64 p11] :: fs) := by
  unfold magic_down_1_m at hm
  replace hm := start_b hm
  refine enter (l := [.int .i64 i1, .pointer (some ⟨g1, 0, none⟩)]) (n := 9) Try.func183 rfl rfl (by simp) (fun a hF => ?_)
  refine reg [] [] [0, 1] [pl 0 (.int .i64 i1), pl 1 (.pointer (some ⟨g1, 0, none⟩))] hF hS Fol (by kernel_rfl) (by kernel_rfl) (by kernel_rfl) ?_ (fun a w hF hS => ?_)
  · exact obs_nil
  refine reg [⟨false, [], vS (Instr.loadAt 3 (.pointer (some ⟨g1, 0, none⟩))), .int .i64 p11⟩] [none, some (.int .i64 p11), none, none, none, none] [3, 4] [pl 3 (.int .i64 (w64 (i1 + p11))), pl 4 (.int .i64 i1)] hF hS Fol (by kernel_rfl) (by kernel_rfl) (by kernel_rfl) ?_ (fun a w hF hS => ?_)
  · exact obs_cons (ob_load Agg3 (fun _ _ hS => (hS.at_ 0 rfl).cell rfl)) <| obs_nil
  refine wpIn_ret ?_
  have hm : some ((w64 (i1 + p11)), i1) = some r := hm
  obtain rfl := Option.some.inj hm
  exact retV (rs := [.tmp 3, .tmp 4]) (vs := [.int .i64 (w64 (i1 + p11)), .int .i64 i1]) hF rfl (rv_t (by kernel_rfl) <| rv_t (by kernel_rfl) <| rv_nil) rfl ⟨rfl, hS⟩

noncomputable def magic_sum_3_J3  (z1 : Int) (s3 : Int) : Option (St (Int × Int) Int) :=
  some (.next (s3, (w64 (z1 + 1))))

noncomputable def magic_sum_3_J2  (l1 : List Int) (n2 : Int) (v1 : Int) (s1 : Int) (z1 : Int) : Option (St (Int × Int) Int) :=
  (magic_down_1_m z1 v1).bind fun r1 => asrt (n2 ≠ (0 : Int)) <| asrt (n2 ≠ (0 : Int)) <| asrt (0 ≤ (w64 ((w64 ((Int.tmod r1.2 n2) * n2)) + (Int.tmod r1.1 n2))) ∧ (w64 ((w64 ((Int.tmod r1.2 n2) * n2)) + (Int.tmod r1.1 n2))) < (l1.length : Int)) <| (magic_sum_3_J3 z1) (w64 (s1 + (geti l1 (w64 ((w64 ((Int.tmod r1.2 n2) * n2)) + (Int.tmod r1.1 n2))))))

noncomputable def magic_sum_3_J1  (s2 : Int) : Option Int :=
  some s2

noncomputable def magic_sum_3_K1  : Int → Option Int :=
  fun (x : Int) => match x with | s2 => magic_sum_3_J1 s2

noncomputable def magic_sum_3_L1  (l1 : List Int) (n2 : Int) (v1 : Int) : (Int × Int) → Option (St (Int × Int) Int) :=
  fun (x : (Int × Int)) => match x with | (s1, z1) => if (decide (z1 < n2)) then ((magic_sum_3_J2 l1 n2 v1 s1 z1)) else (some (.done s1))

noncomputable def magic_sum_3_m  (l1 : List Int) (n2 : Int) (v1 : Int) : Option Int :=
  (loop (magic_sum_3_L1 l1 n2 v1) (0, 0)).bind magic_sum_3_K1

set_option maxRecDepth 100000 in
set_option maxHeartbeats 4000000 in
theorem magic_sum_3_w {A1 : Option Addr} {c1 : Nat} {n1 : Nat} {l1 : List Int} {n2 : Int} {g1 : Nat} {v1 : Int} {r : Int} {w0 w : World} {B : Nat} {fs : List HP} (hm : magic_sum_3_m l1 n2 v1 = some r) (hS : Sep w0 B w (blk g1 3 #[.int .i64 v1] :: fs)) (hr_l1 : RdF w0 B fs A1 (vI l1)) (_hc_l1 : l1.length ≤ c1) (_hn_l1 : n1 = l1.length) :
    Calls Try.prog 100 #[.slice A1 n1 c1, .int .i64 n2, .func (.func 183) #[] #[.pointer (some ⟨g1, 0, none⟩)]] w fun e w' => e = .returned (.int .i64 r) ∧ Sep w0 B w' (blk g1 3 #[.int .i64 v1] :: fs) := by
  obtain ⟨i3, hi3, hz3, hs3, hb3⟩ := info_parts Info3
  obtain rfl := _hn_l1
  unfold magic_sum_3_m at hm
  replace hm := start_b hm
  refine enter (l := [.slice A1 l1.length c1, .int .i64 n2, .func (.func 183) #[] #[.pointer (some ⟨g1, 0, none⟩)]]) (n := 37) Try.func100 rfl rfl (by simp) (fun a hF => ?_)
  refine reg [] [] [0, 1, 2] [pl 0 (.slice A1 l1.length c1), pl 1 (.int .i64 n2), pl 2 (.func (.func 183) #[] #[.pointer (some ⟨g1, 0, none⟩)])] hF hS Fol (by kernel_rfl) (by kernel_rfl) (by kernel_rfl) ?_ (fun a w hF hS => ?_)
  · exact obs_nil
  refine reg [] [] [0, 1, 2, 7] [pl 0 (.slice A1 l1.length c1), pl 1 (.int .i64 n2), pl 2 (.func (.func 183) #[] #[.pointer (some ⟨g1, 0, none⟩)]), pl 7 (.int .i64 0)] hF hS Fol (by kernel_rfl) (by kernel_rfl) (by kernel_rfl) ?_ (fun a w hF hS => ?_)
  · exact obs_nil
  refine seq_cut (fun a w => ∃ (s2 : Int), Fr 37 [pl 7 (.int .i64 s2)] a ∧ Sep w0 B w (blk g1 3 #[.int .i64 v1] :: fs) ∧ (magic_sum_3_J1 s2).bind some = some r) ?_ ?_
  · rintro a w ⟨s2, hF, hS, hm⟩
    unfold magic_sum_3_J1 at hm
    refine reg [] [] [6] [pl 6 (.int .i64 s2)] hF hS Fol (by kernel_rfl) (by kernel_rfl) (by kernel_rfl) ?_ (fun a w hF hS => ?_)
    · exact obs_nil
    refine wpIn_ret ?_
    have hm : some s2 = some r := hm
    obtain rfl := Option.some.inj hm
    exact retV (rs := [.tmp 6]) (vs := [.int .i64 s2]) hF rfl (rv_t (by kernel_rfl) <| rv_nil) rfl ⟨rfl, hS⟩
  · refine reg [] [] [0, 1, 2, 7, 11, 12] [pl 0 (.slice A1 l1.length c1), pl 1 (.int .i64 n2), pl 2 (.func (.func 183) #[] #[.pointer (some ⟨g1, 0, none⟩)]), pl 7 (.int .i64 0), pl 11 (.int .i64 n2), pl 12 (.int .i64 0)] hF hS Fol (by kernel_rfl) (by kernel_rfl) (by kernel_rfl) ?_ (fun a w hF hS => ?_)
    · exact obs_nil
    refine wpIn_block ?_
    refine wp_loop_model (S := (Int × Int)) (R := Int) (magic_sum_3_L1 l1 n2 v1) (fun x => (magic_sum_3_K1 x).bind some) r (fun (x : (Int × Int)) a w => Fr 37 [pl 0 (.slice A1 l1.length c1), pl 1 (.int .i64 n2), pl 2 (.func (.func 183) #[] #[.pointer (some ⟨g1, 0, none⟩)]), pl 7 (.int .i64 x.1), pl 11 (.int .i64 n2), pl 12 (.int .i64 x.2)] a ∧ Sep w0 B w (blk g1 3 #[.int .i64 v1] :: fs)) (assoc_b hm) ⟨hF.weak [0, 1, 2, 7, 11, 12] (by kernel_rfl), hS⟩ ?_
    clear hF hS hm
    rintro nn1 ⟨s1, z1⟩ a w ⟨hF, hS⟩ hm
    generalize hφ1 : stK (magic_sum_3_L1 l1 n2 v1) nn1 (fun x => (magic_sum_3_K1 x).bind some) = φ1 at hm
    unfold magic_sum_3_L1 at hm
    dsimp only at hF hS hm
    refine reg [] [] [0, 1, 2, 7, 11, 12, 13] [pl 0 (.slice A1 l1.length c1), pl 1 (.int .i64 n2), pl 2 (.func (.func 183) #[] #[.pointer (some ⟨g1, 0, none⟩)]), pl 7 (.int .i64 s1), pl 11 (.int .i64 n2), pl 12 (.int .i64 z1), pl 13 (.bool (decide (z1 < n2)))] hF hS Fol (by kernel_rfl) (by kernel_rfl) (by kernel_rfl) ?_ (fun a w hF hS => ?_)
    · exact obs_nil
    refine seq_cut (fun a w => Fr 37 [pl 0 (.slice A1 l1.length c1), pl 1 (.int .i64 n2), pl 2 (.func (.func 183) #[] #[.pointer (some ⟨g1, 0, none⟩)]), pl 7 (.int .i64 s1), pl 11 (.int .i64 n2), pl 12 (.int .i64 z1)] a ∧ Sep w0 B w (blk g1 3 #[.int .i64 v1] :: fs) ∧ ((magic_sum_3_J2 l1 n2 v1 s1 z1)).bind φ1 = some r) ?_ ?_
    · rintro a w ⟨hF, hS, hm⟩
      unfold magic_sum_3_J2 at hm
      refine seq_cut (fun a w => ∃ (s3 : Int), Fr 37 [pl 0 (.slice A1 l1.length c1), pl 1 (.int .i64 n2), pl 2 (.func (.func 183) #[] #[.pointer (some ⟨g1, 0, none⟩)]), pl 7 (.int .i64 s3), pl 11 (.int .i64 n2), pl 12 (.int .i64 z1)] a ∧ Sep w0 B w (blk g1 3 #[.int .i64 v1] :: fs) ∧ ((magic_sum_3_J3 z1) s3).bind φ1 = some r) ?_ ?_
      · rintro a w ⟨s3, hF, hS, hm⟩
        unfold magic_sum_3_J3 at hm
        refine reg1 [] [] [0, 1, 2, 7, 11, 12] [pl 0 (.slice A1 l1.length c1), pl 1 (.int .i64 n2), pl 2 (.func (.func 183) #[] #[.pointer (some ⟨g1, 0, none⟩)]), pl 7 (.int .i64 s3), pl 11 (.int .i64 n2), pl 12 (.int .i64 (w64 (z1 + 1)))] hF hS Fol (by kernel_rfl) (by kernel_rfl) (by kernel_rfl) ?_ (fun a w hF hS => ?_)
        · exact obs_nil
        refine then_n ?_
        rw [← hφ1] at hm
        exact ⟨(s3, (w64 (z1 + 1))), ⟨hF.weak [0, 1, 2, 7, 11, 12] (by kernel_rfl), hS⟩, hm⟩
      · refine wpIn_block ?_
        refine reg [] [] [0, 1, 2, 7, 8, 11, 12] [pl 0 (.slice A1 l1.length c1), pl 1 (.int .i64 n2), pl 2 (.func (.func 183) #[] #[.pointer (some ⟨g1, 0, none⟩)]), pl 7 (.int .i64 s1), pl 8 (.int .i64 z1), pl 11 (.int .i64 n2), pl 12 (.int .i64 z1)] hF hS Fol (by kernel_rfl) (by kernel_rfl) (by kernel_rfl) ?_ (fun a w hF hS => ?_)
        · exact obs_nil
        obtain ⟨r1, hr1, hm⟩ := call_b hm
        refine reg [⟨false, [], callFunc 183 #[.int .i64 z1, .pointer (some ⟨g1, 0, none⟩)], .tuple #[.int .i64 r1.1, .int .i64 r1.2]⟩] [none, none, some (.tuple #[.int .i64 r1.1, .int .i64 r1.2]), none, none, none, none, none] [0, 1, 2, 7, 9, 10, 11, 12] [pl 0 (.slice A1 l1.length c1), pl 1 (.int .i64 n2), pl 2 (.func (.func 183) #[] #[.pointer (some ⟨g1, 0, none⟩)]), pl 7 (.int .i64 s1), pl 9 (.int .i64 r1.1), pl 10 (.int .i64 r1.2), pl 11 (.int .i64 n2), pl 12 (.int .i64 z1)] hF hS Fol (by kernel_rfl) (by kernel_rfl) (by kernel_rfl) ?_ (fun a w hF hS => ?_)
        · exact obs_cons (ob_call Try.func183 (by kernel_rfl) rfl (fun _ _ hS => magic_down_1_w hr1 hS )) <| obs_nil
        obtain ⟨hp1, hm⟩ := asrt_b hm
        obtain ⟨hp2, hm⟩ := asrt_b hm
        obtain ⟨hp3, hm⟩ := asrt_b hm
        refine reg1 [⟨true, [], vS (Op.intDiv .rem .i64 r1.2 n2), .int .i64 (Int.tmod r1.2 n2)⟩, ⟨true, [], vS (Op.intDiv .rem .i64 r1.1 n2), .int .i64 (Int.tmod r1.1 n2)⟩, ⟨true, [], vS (Instr.indexAt 34 (.slice A1 l1.length c1) (.int .i64 (w64 ((w64 ((Int.tmod r1.2 n2) * n2)) + (Int.tmod r1.1 n2))))), .pointer (some (sAddr A1 (w64 ((w64 ((Int.tmod r1.2 n2) * n2)) + (Int.tmod r1.1 n2)))))⟩, ⟨false, [], vS (Instr.loadAt 3 (.pointer (some (sAddr A1 (w64 ((w64 ((Int.tmod r1.2 n2) * n2)) + (Int.tmod r1.1 n2))))))), .int .i64 (geti l1 (w64 ((w64 ((Int.tmod r1.2 n2) * n2)) + (Int.tmod r1.1 n2))))⟩] [none, none, none, none, some (.int .i64 (Int.tmod r1.2 n2)), none, none, none, none, some (.int .i64 (Int.tmod r1.1 n2)), none, some (.pointer (some (sAddr A1 (w64 ((w64 ((Int.tmod r1.2 n2) * n2)) + (Int.tmod r1.1 n2)))))), some (.int .i64 (geti l1 (w64 ((w64 ((Int.tmod r1.2 n2) * n2)) + (Int.tmod r1.1 n2))))), none, none] [0, 1, 2, 7, 11, 12] [pl 0 (.slice A1 l1.length c1), pl 1 (.int .i64 n2), pl 2 (.func (.func 183) #[] #[.pointer (some ⟨g1, 0, none⟩)]), pl 7 (.int .i64 (w64 (s1 + (geti l1 (w64 ((w64 ((Int.tmod r1.2 n2) * n2)) + (Int.tmod r1.1 n2))))))), pl 11 (.int .i64 n2), pl 12 (.int .i64 z1)] hF hS Fol (by kernel_rfl) (by kernel_rfl) (by kernel_rfl) ?_ (fun a w hF hS => ?_)
        · exact obs_cons (ob_rem rfl (fun _ => hp1)) <| obs_cons (ob_rem rfl (fun _ => hp2)) <| obs_cons (ob_ix1 (f := (Value.int .i64)) (m := l1) Und34 hi3 hs3 (hr_l1 _ (hS.dropN 1)) rfl (fun _ => hp3)) <| obs_cons (ob_get1 (n := l1.length) (m := l1) (Value.int .i64) (0 : Int) Agg3 (fun _ hS => ⟨_, (hr_l1 _ (hS.dropN 1))⟩) (fun _ hS => rfl) (fun _ => hp3)) <| obs_nil
        refine block_n ?_
        refine then_n ?_
        exact ⟨(w64 (s1 + (geti l1 (w64 ((w64 ((Int.tmod r1.2 n2) * n2)) + (Int.tmod r1.1 n2)))))), hF.weak [0, 1, 2, 7, 11, 12] (by kernel_rfl), hS, hm⟩
    · refine cond_ev (t := 13) (b := decide (z1 < n2)) hF (by kernel_rfl) (fun hb => ?_) (fun hb => ?_)
      · replace hm := if_t hm hb
        refine wpIn_skip ?_
        refine then_n ?_
        exact ⟨hF.weak [0, 1, 2, 7, 11, 12] (by kernel_rfl), hS, hm⟩
      · replace hm := if_f hm hb
        refine wpIn_exit ?_
        refine then_e (then_e (block_e (then_n ?_)))
        rw [← hφ1] at hm
        replace hm := done_b hm
        unfold magic_sum_3_K1 at hm
        try dsimp only at hm
        have hm : (magic_sum_3_J1 s1).bind some = some r := hm
        exact ⟨s1, hF.weak [7] (by kernel_rfl), hS, hm⟩

noncomputable def magic_alike_3_J3  (z1 : Int) : Option (St Int (Fl Unit Bool)) :=
  some (.next (w64 (z1 + 1)))

noncomputable def magic_alike_3_J2  (l1 : List Int) (n2 : Int) (want1 : Int) (z1 : Int) : Option (St Int (Fl Unit Bool)) :=
  (magic_down_m z1).bind fun r1 => (magic_sum_3_m l1 n2 r1).bind fun r2 => if (r2 != want1) then (some (.done (.ret false))) else ((magic_alike_3_J3 z1))

noncomputable def magic_alike_3_J1  : Option Bool :=
  some true

noncomputable def magic_alike_3_K1  : (Fl Unit Bool) → Option Bool :=
  fun (x : (Fl Unit Bool)) => match x with | .go _ => magic_alike_3_J1 | .ret x => some x

noncomputable def magic_alike_3_L1  (l1 : List Int) (n2 : Int) (want1 : Int) : Int → Option (St Int (Fl Unit Bool)) :=
  fun (x : Int) => match x with | z1 => if (decide (z1 < n2)) then ((magic_alike_3_J2 l1 n2 want1 z1)) else (some (.done (.go ())))

noncomputable def magic_alike_3_m  (l1 : List Int) (n2 : Int) (want1 : Int) : Option Bool :=
  (loop (magic_alike_3_L1 l1 n2 want1) 0).bind magic_alike_3_K1

set_option maxRecDepth 100000 in
set_option maxHeartbeats 4000000 in
theorem magic_alike_3_w {A1 : Option Addr} {c1 : Nat} {n1 : Nat} {l1 : List Int} {n2 : Int} {want1 : Int} {r : Bool} {w0 w : World} {B : Nat} {fs : List HP} (hm : magic_alike_3_m l1 n2 want1 = some r) (hS : Sep w0 B w (fs)) (hr_l1 : RdF w0 B fs A1 (vI l1)) (_hc_l1 : l1.length ≤ c1) (_hn_l1 : n1 = l1.length) :
    Calls Try.prog 145 #[.slice A1 n1 c1, .int .i64 n2, .int .i64 want1, .func (.func 147) #[] #[]] w fun e w' => e = .returned (.bool r) ∧ Sep w0 B w' (fs) := by
  obtain ⟨i3, hi3, hz3, hs3, hb3⟩ := info_parts Info3
  obtain rfl := _hn_l1
  unfold magic_alike_3_m at hm
  replace hm := start_b hm
  refine enter (l := [.slice A1 l1.length c1, .int .i64 n2, .int .i64 want1, .func (.func 147) #[] #[]]) (n := 23) Try.func145 rfl rfl (by simp) (fun a hF => ?_)
  refine reg [] [] [0, 1, 2, 3] [pl 0 (.slice A1 l1.length c1), pl 1 (.int .i64 n2), pl 2 (.int .i64 want1), pl 3 (.func (.func 147) #[] #[])] hF hS Fol (by kernel_rfl) (by kernel_rfl) (by kernel_rfl) ?_ (fun a w hF hS => ?_)
  · exact obs_nil
  refine seq_cut (fun a w => Fr 23 [] a ∧ Sep w0 B w (fs) ∧ (magic_alike_3_J1).bind some = some r) ?_ ?_
  · rintro a w ⟨hF, hS, hm⟩
    unfold magic_alike_3_J1 at hm
    refine reg [] [] [8] [pl 8 (.bool true)] hF hS Fol (by kernel_rfl) (by kernel_rfl) (by kernel_rfl) ?_ (fun a w hF hS => ?_)
    · exact obs_nil
    refine wpIn_ret ?_
    have hm : some true = some r := hm
    obtain rfl := Option.some.inj hm
    exact retV (rs := [.tmp 8]) (vs := [.bool true]) hF rfl (rv_t (by kernel_rfl) <| rv_nil) rfl ⟨rfl, hS⟩
  · refine reg [] [] [0, 1, 2, 3, 10, 11] [pl 0 (.slice A1 l1.length c1), pl 1 (.int .i64 n2), pl 2 (.int .i64 want1), pl 3 (.func (.func 147) #[] #[]), pl 10 (.int .i64 n2), pl 11 (.int .i64 0)] hF hS Fol (by kernel_rfl) (by kernel_rfl) (by kernel_rfl) ?_ (fun a w hF hS => ?_)
    · exact obs_nil
    refine wpIn_block ?_
    refine wp_loop_model (S := Int) (R := (Fl Unit Bool)) (magic_alike_3_L1 l1 n2 want1) (fun x => (magic_alike_3_K1 x).bind some) r (fun (x : Int) a w => Fr 23 [pl 0 (.slice A1 l1.length c1), pl 1 (.int .i64 n2), pl 2 (.int .i64 want1), pl 3 (.func (.func 147) #[] #[]), pl 10 (.int .i64 n2), pl 11 (.int .i64 x)] a ∧ Sep w0 B w (fs)) (assoc_b hm) ⟨hF.weak [0, 1, 2, 3, 10, 11] (by kernel_rfl), hS⟩ ?_
    clear hF hS hm
    rintro nn1 z1 a w ⟨hF, hS⟩ hm
    generalize hφ1 : stK (magic_alike_3_L1 l1 n2 want1) nn1 (fun x => (magic_alike_3_K1 x).bind some) = φ1 at hm
    unfold magic_alike_3_L1 at hm
    dsimp only at hm
    refine reg [] [] [0, 1, 2, 3, 10, 11, 12] [pl 0 (.slice A1 l1.length c1), pl 1 (.int .i64 n2), pl 2 (.int .i64 want1), pl 3 (.func (.func 147) #[] #[]), pl 10 (.int .i64 n2), pl 11 (.int .i64 z1), pl 12 (.bool (decide (z1 < n2)))] hF hS Fol (by kernel_rfl) (by kernel_rfl) (by kernel_rfl) ?_ (fun a w hF hS => ?_)
    · exact obs_nil
    refine seq_cut (fun a w => Fr 23 [pl 0 (.slice A1 l1.length c1), pl 1 (.int .i64 n2), pl 2 (.int .i64 want1), pl 3 (.func (.func 147) #[] #[]), pl 10 (.int .i64 n2), pl 11 (.int .i64 z1)] a ∧ Sep w0 B w (fs) ∧ ((magic_alike_3_J2 l1 n2 want1 z1)).bind φ1 = some r) ?_ ?_
    · rintro a w ⟨hF, hS, hm⟩
      unfold magic_alike_3_J2 at hm
      refine seq_cut (fun a w => Fr 23 [pl 0 (.slice A1 l1.length c1), pl 1 (.int .i64 n2), pl 2 (.int .i64 want1), pl 3 (.func (.func 147) #[] #[]), pl 10 (.int .i64 n2), pl 11 (.int .i64 z1)] a ∧ Sep w0 B w (fs) ∧ ((magic_alike_3_J3 z1)).bind φ1 = some r) ?_ ?_
      · rintro a w ⟨hF, hS, hm⟩
        unfold magic_alike_3_J3 at hm
        refine reg1 [] [] [0, 1, 2, 3, 10, 11] [pl 0 (.slice A1 l1.length c1), pl 1 (.int .i64 n2), pl 2 (.int .i64 want1), pl 3 (.func (.func 147) #[] #[]), pl 10 (.int .i64 n2), pl 11 (.int .i64 (w64 (z1 + 1)))] hF hS Fol (by kernel_rfl) (by kernel_rfl) (by kernel_rfl) ?_ (fun a w hF hS => ?_)
        · exact obs_nil
        refine then_n ?_
        rw [← hφ1] at hm
        exact ⟨(w64 (z1 + 1)), ⟨hF.weak [0, 1, 2, 3, 10, 11] (by kernel_rfl), hS⟩, hm⟩
      · refine wpIn_block ?_
        refine reg [] [] [0, 1, 2, 3, 9, 10, 11] [pl 0 (.slice A1 l1.length c1), pl 1 (.int .i64 n2), pl 2 (.int .i64 want1), pl 3 (.func (.func 147) #[] #[]), pl 9 (.int .i64 z1), pl 10 (.int .i64 n2), pl 11 (.int .i64 z1)] hF hS Fol (by kernel_rfl) (by kernel_rfl) (by kernel_rfl) ?_ (fun a w hF hS => ?_)
        · exact obs_nil
        refine seqR ?_
        obtain ⟨r1, hr1, hm⟩ := call_b hm
        obtain ⟨r2, hr2, hm⟩ := call_b hm
        refine at_run 4 [] [] [0, 1, 2, 3, 10, 11, 14, 15, 16, 17] [pl 0 (.slice A1 l1.length c1), pl 1 (.int .i64 n2), pl 2 (.int .i64 want1), pl 3 (.func (.func 147) #[] #[]), pl 10 (.int .i64 n2), pl 11 (.int .i64 z1), pl 14 (.slice A1 l1.length c1), pl 15 (.int .i64 n2), pl 16 (.func (.func 147) #[] #[]), pl 17 (.int .i64 z1)] hF hS (by kernel_rfl) (by kernel_rfl) ?_ (fun a w hF hS => ?_)
        · exact obs_nil
        refine at_call (f := 147) (args := #[.int .i64 z1]) (d := 18) hF (by kernel_rfl) (by kernel_rfl) Try.func147 (by kernel_rfl) rfl (magic_down_w hr1 hS ) (fun v a w hR hF => ?_)
        clear hS
        obtain ⟨g1, rfl, hS⟩ := hR
        have hS : Sep w0 B w (blk g1 3 #[.int .i64 r1] :: fs) := hS
        refine at_run 3 [⟨false, [], callFunc 100 #[.slice A1 l1.length c1, .int .i64 n2, .func (.func 183) #[] #[.pointer (some ⟨g1, 0, none⟩)]], .int .i64 r2⟩] [some (.int .i64 r2), none, none] [0, 1, 2, 3, 10, 11, 21] [pl 0 (.slice A1 l1.length c1), pl 1 (.int .i64 n2), pl 2 (.int .i64 want1), pl 3 (.func (.func 147) #[] #[]), pl 10 (.int .i64 n2), pl 11 (.int .i64 z1), pl 21 (.bool (r2 != want1))] hF hS (by kernel_rfl) (by kernel_rfl) ?_ (fun a w hF hS => ?_)
        · exact obs_cons (ob_call Try.func100 (by kernel_rfl) rfl (fun _ _ hS => magic_sum_3_w hr2 hS (fun _ hS => (hr_l1 _ (hS.dropN 0))) _hc_l1 rfl)) <| obs_nil
        refine at_end [0, 1, 2, 3, 10, 11, 21] [pl 0 (.slice A1 l1.length c1), pl 1 (.int .i64 n2), pl 2 (.int .i64 want1), pl 3 (.func (.func 147) #[] #[]), pl 10 (.int .i64 n2), pl 11 (.int .i64 z1), pl 21 (.bool (r2 != want1))] hF rfl (by kernel_rfl) (fun hF => ?_)
        refine then_n ?_
        refine cond_ev (t := 21) (b := (r2 != want1)) hF (by kernel_rfl) (fun hb => ?_) (fun hb => ?_)
        · replace hm := if_t hm hb
          refine reg [] [] [8] [pl 8 (.bool false)] hF hS Fol (by kernel_rfl) (by kernel_rfl) (by kernel_rfl) ?_ (fun a w hF hS => ?_)
          · exact obs_nil
          refine wpIn_ret ?_
          refine block_r (then_r (then_r (block_r (then_r ?_))))
          rw [← hφ1] at hm
          replace hm := done_b hm
          unfold magic_alike_3_K1 at hm
          try dsimp only at hm
          have hS := hS.pickN 1 [] (by decide)
          have hm : some false = some r := hm
          obtain rfl := Option.some.inj hm
          exact retV (rs := [.tmp 8]) (vs := [.bool false]) hF rfl (rv_t (by kernel_rfl) <| rv_nil) rfl ⟨rfl, hS⟩
        · replace hm := if_f hm hb
          refine wpIn_skip ?_
          refine block_n ?_
          refine then_n ?_
          have hS := hS.pickN 1 [] (by decide)
          exact ⟨hF.weak [0, 1, 2, 3, 10, 11] (by kernel_rfl), hS, hm⟩
    · refine cond_ev (t := 12) (b := decide (z1 < n2)) hF (by kernel_rfl) (fun hb => ?_) (fun hb => ?_)
      · replace hm := if_t hm hb
        refine wpIn_skip ?_
        refine then_n ?_
        exact ⟨hF.weak [0, 1, 2, 3, 10, 11] (by kernel_rfl), hS, hm⟩
      · replace hm := if_f hm hb
        refine wpIn_exit ?_
        refine then_e (then_e (block_e (then_n ?_)))
        rw [← hφ1] at hm
        replace hm := done_b hm
        unfold magic_alike_3_K1 at hm
        try dsimp only at hm
        have hm : (magic_alike_3_J1).bind some = some r := hm
        exact ⟨hF.weak [] (by kernel_rfl), hS, hm⟩

noncomputable def magic_up_m  (n1 : Int) : Option Int :=
  some n1

set_option maxRecDepth 100000 in
set_option maxHeartbeats 4000000 in
theorem magic_up_w {n1 : Int} {r : Int} {w0 w : World} {B : Nat} {fs : List HP} (hm : magic_up_m n1 = some r) (hS : Sep w0 B w (fs)) :
    Calls Try.prog 148 #[.int .i64 n1] w fun e w' => ∃ v, e = .returned v ∧ ∃ (g2 : Nat), v = .func (.func 184) #[] #[.pointer (some ⟨g2, 0, none⟩)] ∧ Sep w0 B w' (blk g2 3 #[.int .i64 r] :: fs) := by
  unfold magic_up_m at hm
  replace hm := start_b hm
  refine enter (l := [.int .i64 n1]) (n := 4) Try.func148 rfl rfl (by simp) (fun a hF => ?_)
  refine seqR ?_
  refine at_do (d := 1) (s := vS (Instr.box 3 (.int .i64 n1))) (v := .pointer (some ⟨w.heap.size, 0, none⟩)) (w' := w.alloc (.cells #[.int .i64 n1] 3)) hF (by kernel_rfl) (by kernel_rfl) (by kernel_rfl) (fun a hF => ?_)
  have hS : Sep w0 B (w.alloc (.cells #[.int .i64 n1] 3)) (blk w.heap.size 3 #[.int .i64 n1] :: (fs)) := hS.box 3 #[.int .i64 n1]
  generalize w.heap.size = g1 at hF hS
  generalize w.alloc (.cells #[.int .i64 n1] 3) = w at hS ⊢
  refine at_run 1 [] [] [1] [pl 1 (.pointer (some ⟨g1, 0, none⟩))] hF hS (by kernel_rfl) (by kernel_rfl) ?_ (fun a w hF hS => ?_)
  · exact obs_nil
  refine at_end [1] [pl 1 (.pointer (some ⟨g1, 0, none⟩))] hF rfl (by kernel_rfl) (fun hF => ?_)
  refine then_n ?_
  refine reg [] [] [2] [pl 2 (.func (.func 184) #[] #[.pointer (some ⟨g1, 0, none⟩)])] hF hS Fol (by kernel_rfl) (by kernel_rfl) (by kernel_rfl) ?_ (fun a w hF hS => ?_)
  · exact obs_nil
  refine wpIn_ret ?_
  have hm : some n1 = some r := hm
  obtain rfl := Option.some.inj hm
  exact retV (rs := [.tmp 2]) (vs := [.func (.func 184) #[] #[.pointer (some ⟨g1, 0, none⟩)]]) hF rfl (rv_t (by kernel_rfl) <| rv_nil) rfl ⟨_, rfl, g1, rfl, hS⟩

noncomputable def magic_up_1_m  (k1 : Int) (p11 : Int) : Option Int :=
  some k1

set_option maxRecDepth 100000 in
set_option maxHeartbeats 4000000 in
theorem magic_up_1_w {k1 : Int} {g1 : Nat} {p11 : Int} {r : Int} {w0 w : World} {B : Nat} {fs : List HP} (hm : magic_up_1_m k1 p11 = some r) (hS : Sep w0 B w (blk g1 3 #[.int .i64 p11] :: fs)) :
    Calls Try.prog 184 #[.int .i64 k1, .pointer (some ⟨g1, 0, none⟩)] w fun e w' => ∃ v, e = .returned v ∧ ∃ (g3 : Nat), v = .func (.func 185) #[] #[.pointer (some ⟨g3, 0, none⟩), .pointer (some ⟨g1, 0, none⟩)] ∧ Sep w0 B w' (blk g1 3 #[.int .i64 p11] :: blk g3 3 #[.int .i64 r] :: fs) := by
  unfold magic_up_1_m at hm
  replace hm := start_b hm
  refine enter (l := [.int .i64 k1, .pointer (some ⟨g1, 0, none⟩)]) (n := 5) Try.func184 rfl rfl (by simp) (fun a hF => ?_)
  refine seqR ?_
  refine at_do (d := 2) (s := vS (Instr.box 3 (.int .i64 k1))) (v := .pointer (some ⟨w.heap.size, 0, none⟩)) (w' := w.alloc (.cells #[.int .i64 k1] 3)) hF (by kernel_rfl) (by kernel_rfl) (by kernel_rfl) (fun a hF => ?_)
  have hS : Sep w0 B (w.alloc (.cells #[.int .i64 k1] 3)) (blk w.heap.size 3 #[.int .i64 k1] :: (blk g1 3 #[.int .i64 p11] :: fs)) := hS.box 3 #[.int .i64 k1]
  generalize w.heap.size = g2 at hF hS
  generalize w.alloc (.cells #[.int .i64 k1] 3) = w at hS ⊢
  refine at_run 1 [] [] [1, 2] [pl 1 (.pointer (some ⟨g1, 0, none⟩)), pl 2 (.pointer (some ⟨g2, 0, none⟩))] hF hS (by kernel_rfl) (by kernel_rfl) ?_ (fun a w hF hS => ?_)
  · exact obs_nil
  refine at_end [1, 2] [pl 1 (.pointer (some ⟨g1, 0, none⟩)), pl 2 (.pointer (some ⟨g2, 0, none⟩))] hF rfl (by kernel_rfl) (fun hF => ?_)
  refine then_n ?_
  refine reg [] [] [3] [pl 3 (.func (.func 185) #[] #[.pointer (some ⟨g2, 0, none⟩), .pointer (some ⟨g1, 0, none⟩)])] hF hS Fol (by kernel_rfl) (by kernel_rfl) (by kernel_rfl) ?_ (fun a w hF hS => ?_)
  · exact obs_nil
  refine wpIn_ret ?_
  have hS := hS.pickN 2 [1, 0] (by decide)
  have hm : some k1 = some r := hm
  obtain rfl := Option.some.inj hm
  exact retV (rs := [.tmp 3]) (vs := [.func (.func 185) #[] #[.pointer (some ⟨g2, 0, none⟩), .pointer (some ⟨g1, 0, none⟩)]]) hF rfl (rv_t (by kernel_rfl) <| rv_nil) rfl ⟨_, rfl, g2, rfl, hS⟩

noncomputable def magic_up_1_1_m  (i1 : Int) (p11 : Int) (p21 : Int) : Option (Int × Int) :=
  some ((w64 (i1 + p11)), (w64 ((w64 (p21 - 1)) - i1)))

set_option maxRecDepth 100000 in
set_option maxHeartbeats 4000000 in
theorem magic_up_1_1_w {i1 : Int} {g1 : Nat} {p11 : Int} {g2 : Nat} {p21 : Int} {r : (Int × Int)} {w0 w : World} {B : Nat} {fs : List HP} (hm : magic_up_1_1_m i1 p11 p21 = some r) (hS : Sep w0 B w (blk g1 3 #[.int .i64 p11] :: blk g2 3 #[.int .i64 p21] :: fs)) :
    Calls Try.prog 185 #[.int .i64 i1, .pointer (some ⟨g1, 0, none⟩), .pointer (some ⟨g2, 0, none⟩)] w fun e w' => e = .returned (.tuple #[.int .i64 r.1, .int .i64 r.2]) ∧ Sep w0 B w' (blk g1 3 #[.int .i64 p11] :: blk g2 3 #[.int .i64 p21] :: fs) := by
  unfold magic_up_1_1_m at hm
  replace hm := start_b hm
  refine enter (l := [.int .i64 i1, .pointer (some ⟨g1, 0, none⟩), .pointer (some ⟨g2, 0, none⟩)]) (n := 13) Try.func185 rfl rfl (by simp) (fun a hF => ?_)
  refine reg [] [] [0, 1, 2] [pl 0 (.int .i64 i1), pl 1 (.pointer (some ⟨g1, 0, none⟩)), pl 2 (.pointer (some ⟨g2, 0, none⟩))] hF hS Fol (by kernel_rfl) (by kernel_rfl) (by kernel_rfl) ?_ (fun a w hF hS => ?_)
  · exact obs_nil
  refine reg [⟨false, [], vS (Instr.loadAt 3 (.pointer (some ⟨g1, 0, none⟩))), .int .i64 p11⟩, ⟨false, [], vS (Instr.loadAt 3 (.pointer (some ⟨g2, 0, none⟩))), .int .i64 p21⟩] [none, some (.int .i64 p11), none, some (.int .i64 p21), none, none, none, none, none] [4, 5] [pl 4 (.int .i64 (w64 (i1 + p11))), pl 5 (.int .i64 (w64 ((w64 (p21 - 1)) - i1)))] hF hS Fol (by kernel_rfl) (by kernel_rfl) (by kernel_rfl) ?_ (fun a w hF hS => ?_)
  · exact obs_cons (ob_load Agg3 (fun _ _ hS => (hS.at_ 0 rfl).cell rfl)) <| obs_cons (ob_load Agg3 (fun _ _ hS => (hS.at_ 1 rfl).cell rfl)) <| obs_nil
  refine wpIn_ret ?_
  have hm : some ((w64 (i1 + p11)), (w64 ((w64 (p21 - 1)) - i1))) = some r := hm
  obtain rfl := Option.some.inj hm
  exact retV (rs := [.tmp 4, .tmp 5]) (vs := [.int .i64 (w64 (i1 + p11)), .int .i64 (w64 ((w64 (p21 - 1)) - i1))]) hF rfl (rv_t (by kernel_rfl) <| rv_t (by kernel_rfl) <| rv_nil) rfl ⟨rfl, hS⟩

noncomputable def magic_sum_4_J3  (z1 : Int) (s3 : Int) : Option (St (Int × Int) Int) :=
  some (.next (s3, (w64 (z1 + 1))))

noncomputable def magic_sum_4_J2  (l1 : List Int) (n2 : Int) (v1 : Int) (v2 : Int) (s1 : Int) (z1 : Int) : Option (St (Int × Int) Int) :=
  (magic_up_1_1_m z1 v1 v2).bind fun r1 => asrt (n2 ≠ (0 : Int)) <| asrt (n2 ≠ (0 : Int)) <| asrt (0 ≤ (w64 ((w64 ((Int.tmod r1.2 n2) * n2)) + (Int.tmod r1.1 n2))) ∧ (w64 ((w64 ((Int.tmod r1.2 n2) * n2)) + (Int.tmod r1.1 n2))) < (l1.length : Int)) <| (magic_sum_4_J3 z1) (w64 (s1 + (geti l1 (w64 ((w64 ((Int.tmod r1.2 n2) * n2)) + (Int.tmod r1.1 n2))))))

noncomputable def magic_sum_4_J1  (s2 : Int) : Option Int :=
  some s2

noncomputable def magic_sum_4_K1  : Int → Option Int :=
  fun (x : Int) => match x with | s2 => magic_sum_4_J1 s2

noncomputable def magic_sum_4_L1  (l1 : List Int) (n2 : Int) (v1 : Int) (v2 : Int) : (Int × Int) → Option (St (Int × Int) Int) :=
  fun (x : (Int × Int)) => match x with | (s1, z1) => if (decide (z1 < n2)) then ((magic_sum_4_J2 l1 n2 v1 v2 s1 z1)) else (some (.done s1))

noncomputable def magic_sum_4_m  (l1 : List Int) (n2 : Int) (v1 : Int) (v2 : Int) : Option Int :=
  (loop (magic_sum_4_L1 l1 n2 v1 v2) (0, 0)).bind magic_sum_4_K1

set_option maxRecDepth 100000 in
set_option maxHeartbeats 4000000 in
theorem magic_sum_4_w {A1 : Option Addr} {c1 : Nat} {n1 : Nat} {l1 : List Int} {n2 : Int} {g1 : Nat} {v1 : Int} {g2 : Nat} {v2 : Int} {r : Int} {w0 w : World} {B : Nat} {fs : List HP} (hm : magic_sum_4_m l1 n2 v1 v2 = some r) (hS : Sep w0 B w (blk g1 3 #[.int .i64 v1] :: blk g2 3 #[.int .i64 v2] :: fs)) (hr_l1 : RdF w0 B fs A1 (vI l1)) (_hc_l1 : l1.length ≤ c1) (_hn_l1 : n1 = l1.length) :
    Calls Try.prog 100 #[.slice A1 n1 c1, .int .i64 n2, .func (.func 185) #[] #[.pointer (some ⟨g1, 0, none⟩), .pointer (some ⟨g2, 0, none⟩)]] w fun e w' => e = .returned (.int .i64 r) ∧ Sep w0 B w' (blk g1 3 #[.int .i64 v1] :: blk g2 3 #[.int .i64 v2] :: fs) := by
  obtain ⟨i3, hi3, hz3, hs3, hb3⟩ := info_parts Info3
  obtain rfl := _hn_l1
  unfold magic_sum_4_m at hm
  replace hm := start_b hm
  refine enter (l := [.slice A1 l1.length c1, .int .i64 n2, .func (.func 185) #[] #[.pointer (some ⟨g1, 0, none⟩), .pointer (some ⟨g2, 0, none⟩)]]) (n := 37) Try.func100 rfl rfl (by simp) (fun a hF => ?_)
  refine reg [] [] [0, 1, 2] [pl 0 (.slice A1 l1.length c1), pl 1 (.int .i64 n2), pl 2 (.func (.func 185) #[] #[.pointer (some ⟨g1, 0, none⟩), .pointer (some ⟨g2, 0, none⟩)])] hF hS Fol (by kernel_rfl) (by kernel_rfl) (by kernel_rfl) ?_ (fun a w hF hS => ?_)
  · exact obs_nil
  refine reg [] [] [0, 1, 2, 7] [pl 0 (.slice A1 l1.length c1), pl 1 (.int .i64 n2), pl 2 (.func (.func 185) #[] #[.pointer (some ⟨g1, 0, none⟩), .pointer (some ⟨g2, 0, none⟩)]), pl 7 (.int .i64 0)] hF hS Fol (by kernel_rfl) (by kernel_rfl) (by kernel_rfl) ?_ (fun a w hF hS => ?_)
  · exact obs_nil
  refine seq_cut (fun a w => ∃ (s2 : Int), Fr 37 [pl 7 (.int .i64 s2)] a ∧ Sep w0 B w (blk g1 3 #[.int .i64 v1] :: blk g2 3 #[.int .i64 v2] :: fs) ∧ (magic_sum_4_J1 s2).bind some = some r) ?_ ?_
  · rintro a w ⟨s2, hF, hS, hm⟩
    unfold magic_sum_4_J1 at hm
    refine reg [] [] [6] [pl 6 (.int .i64 s2)] hF hS Fol (by kernel_rfl) (by kernel_rfl) (by kernel_rfl) ?_ (fun a w hF hS => ?_)
    · exact obs_nil
    refine wpIn_ret ?_
    have hm : some s2 = some r := hm
    obtain rfl := Option.some.inj hm
    exact retV (rs := [.tmp 6]) (vs := [.int .i64 s2]) hF rfl (rv_t (by kernel_rfl) <| rv_nil) rfl ⟨rfl, hS⟩
  · refine reg [] [] [0, 1, 2, 7, 11, 12] [pl 0 (.slice A1 l1.length c1), pl 1 (.int .i64 n2), pl 2 (.func (.func 185) #[] #[.pointer (some ⟨g1, 0, none⟩), .pointer (some ⟨g2, 0, none⟩)]), pl 7 (.int .i64 0), pl 11 (.int .i64 n2), pl 12 (.int .i64 0)] hF hS Fol (by kernel_rfl) (by kernel_rfl) (by kernel_rfl) ?_ (fun a w hF hS => ?_)
    · exact obs_nil
    refine wpIn_block ?_
    refine wp_loop_model (S := (Int × Int)) (R := Int) (magic_sum_4_L1 l1 n2 v1 v2) (fun x => (magic_sum_4_K1 x).bind some) r (fun (x : (Int × Int)) a w => Fr 37 [pl 0 (.slice A1 l1.length c1), pl 1 (.int .i64 n2), pl 2 (.func (.func 185) #[] #[.pointer (some ⟨g1, 0, none⟩), .pointer (some ⟨g2, 0, none⟩)]), pl 7 (.int .i64 x.1), pl 11 (.int .i64 n2), pl 12 (.int .i64 x.2)] a ∧ Sep w0 B w (blk g1 3 #[.int .i64 v1] :: blk g2 3 #[.int .i64 v2] :: fs)) (assoc_b hm) ⟨hF.weak [0, 1, 2, 7, 11, 12] (by kernel_rfl), hS⟩ ?_
    clear hF hS hm
    rintro nn1 ⟨s1, z1⟩ a w ⟨hF, hS⟩ hm
    generalize hφ1 : stK (magic_sum_4_L1 l1 n2 v1 v2) nn1 (fun x => (magic_sum_4_K1 x).bind some) = φ1 at hm
    unfold magic_sum_4_L1 at hm
    dsimp only at hF hS hm
    refine reg [] [] [0, 1, 2, 7, 11, 12, 13] [pl 0 (.slice A1 l1.length c1), pl 1 (.int .i64 n2), pl 2 (.func (.func 185) #[] #[.pointer (some ⟨g1, 0, none⟩), .pointer (some ⟨g2, 0, none⟩)]), pl 7 (.int .i64 s1), pl 11 (.int .i64 n2), pl 12 (.int .i64 z1), pl 13 (.bool (decide (z1 < n2)))] hF hS Fol (by kernel_rfl) (by kernel_rfl) (by kernel_rfl) ?_ (fun a w hF hS => ?_)
    · exact obs_nil
    refine seq_cut (fun a w => Fr 37 [pl 0 (.slice A1 l1.length c1), pl 1 (.int .i64 n2), pl 2 (.func (.func 185) #[] #[.pointer (some ⟨g1, 0, none⟩), .pointer (some ⟨g2, 0, none⟩)]), pl 7 (.int .i64 s1), pl 11 (.int .i64 n2), pl 12 (.int .i64 z1)] a ∧ Sep w0 B w (blk g1 3 #[.int .i64 v1] :: blk g2 3 #[.int .i64 v2] :: fs) ∧ ((magic_sum_4_J2 l1 n2 v1 v2 s1 z1)).bind φ1 = some r) ?_ ?_
    · rintro a w ⟨hF, hS, hm⟩
      unfold magic_sum_4_J2 at hm
      refine seq_cut (fun a w => ∃ (s3 : Int), Fr 37 [pl 0 (.slice A1 l1.length c1), pl 1 (.int .i64 n2), pl 2 (.func (.func 185) #[] #[.pointer (some ⟨g1, 0, none⟩), .pointer (some ⟨g2, 0, none⟩)]), pl 7 (.int .i64 s3), pl 11 (.int .i64 n2), pl 12 (.int .i64 z1)] a ∧ Sep w0 B w (blk g1 3 #[.int .i64 v1] :: blk g2 3 #[.int .i64 v2] :: fs) ∧ ((magic_sum_4_J3 z1) s3).bind φ1 = some r) ?_ ?_
      · rintro a w ⟨s3, hF, hS, hm⟩
        unfold magic_sum_4_J3 at hm
        refine reg1 [] [] [0, 1, 2, 7, 11, 12] [pl 0 (.slice A1 l1.length c1), pl 1 (.int .i64 n2), pl 2 (.func (.func 185) #[] #[.pointer (some ⟨g1, 0, none⟩), .pointer (some ⟨g2, 0, none⟩)]), pl 7 (.int .i64 s3), pl 11 (.int .i64 n2), pl 12 (.int .i64 (w64 (z1 + 1)))] hF hS Fol (by kernel_rfl) (by kernel_rfl) (by kernel_rfl) ?_ (fun a w hF hS => ?_)
        · exact obs_nil
        refine then_n ?_
        rw [← hφ1] at hm
        exact ⟨(s3, (w64 (z1 + 1))), ⟨hF.weak [0, 1, 2, 7, 11, 12] (by kernel_rfl), hS⟩, hm⟩
      · refine wpIn_block ?_
        refine reg [] [] [0, 1, 2, 7, 8, 11, 12] [pl 0 (.slice A1 l1.length c1), pl 1 (.int .i64 n2), pl 2 (.func (.func 185) #[] #[.pointer (some ⟨g1, 0, none⟩), .pointer (some ⟨g2, 0, none⟩)]), pl 7 (.int .i64 s1), pl 8 (.int .i64 z1), pl 11 (.int .i64 n2), pl 12 (.int .i64 z1)] hF hS Fol (by kernel_rfl) (by kernel_rfl) (by kernel_rfl) ?_ (fun a w hF hS => ?_)
        · exact obs_nil
        obtain ⟨r1, hr1, hm⟩ := call_b hm
        refine reg [⟨false, [], callFunc 185 #[.int .i64 z1, .pointer (some ⟨g1, 0, none⟩), .pointer (some ⟨g2, 0, none⟩)], .tuple #[.int .i64 r1.1, .int .i64 r1.2]⟩] [none, none, some (.tuple #[.int .i64 r1.1, .int .i64 r1.2]), none, none, none, none, none] [0, 1, 2, 7, 9, 10, 11, 12] [pl 0 (.slice A1 l1.length c1), pl 1 (.int .i64 n2), pl 2 (.func (.func 185) #[] #[.pointer (some ⟨g1, 0, none⟩), .pointer (some ⟨g2, 0, none⟩)]), pl 7 (.int .i64 s1), pl 9 (.int .i64 r1.1), pl 10 (.int .i64 r1.2), pl 11 (.int .i64 n2), pl 12 (.int .i64 z1)] hF hS Fol (by kernel_rfl) (by kernel_rfl) (by kernel_rfl) ?_ (fun a w hF hS => ?_)
        · exact obs_cons (ob_call Try.func185 (by kernel_rfl) rfl (fun _ _ hS => magic_up_1_1_w hr1 hS )) <| obs_nil
        obtain ⟨hp1, hm⟩ := asrt_b hm
        obtain ⟨hp2, hm⟩ := asrt_b hm
        obtain ⟨hp3, hm⟩ := asrt_b hm
        refine reg1 [⟨true, [], vS (Op.intDiv .rem .i64 r1.2 n2), .int .i64 (Int.tmod r1.2 n2)⟩, ⟨true, [], vS (Op.intDiv .rem .i64 r1.1 n2), .int .i64 (Int.tmod r1.1 n2)⟩, ⟨true, [], vS (Instr.indexAt 34 (.slice A1 l1.length c1) (.int .i64 (w64 ((w64 ((Int.tmod r1.2 n2) * n2)) + (Int.tmod r1.1 n2))))), .pointer (some (sAddr A1 (w64 ((w64 ((Int.tmod r1.2 n2) * n2)) + (Int.tmod r1.1 n2)))))⟩, ⟨false, [], vS (Instr.loadAt 3 (.pointer (some (sAddr A1 (w64 ((w64 ((Int.tmod r1.2 n2) * n2)) + (Int.tmod r1.1 n2))))))), .int .i64 (geti l1 (w64 ((w64 ((Int.tmod r1.2 n2) * n2)) + (Int.tmod r1.1 n2))))⟩] [none, none, none, none, some (.int .i64 (Int.tmod r1.2 n2)), none, none, none, none, some (.int .i64 (Int.tmod r1.1 n2)), none, some (.pointer (some (sAddr A1 (w64 ((w64 ((Int.tmod r1.2 n2) * n2)) + (Int.tmod r1.1 n2)))))), some (.int .i64 (geti l1 (w64 ((w64 ((Int.tmod r1.2 n2) * n2)) + (Int.tmod r1.1 n2))))), none, none] [0, 1, 2, 7, 11, 12] [pl 0 (.slice A1 l1.length c1), pl 1 (.int .i64 n2), pl 2 (.func (.func 185) #[] #[.pointer (some ⟨g1, 0, none⟩), .pointer (some ⟨g2, 0, none⟩)]), pl 7 (.int .i64 (w64 (s1 + (geti l1 (w64 ((w64 ((Int.tmod r1.2 n2) * n2)) + (Int.tmod r1.1 n2))))))), pl 11 (.int .i64 n2), pl 12 (.int .i64 z1)] hF hS Fol (by kernel_rfl) (by kernel_rfl) (by kernel_rfl) ?_ (fun a w hF hS => ?_)
        · exact obs_cons (ob_rem rfl (fun _ => hp1)) <| obs_cons (ob_rem rfl (fun _ => hp2)) <| obs_cons (ob_ix1 (f := (Value.int .i64)) (m := l1) Und34 hi3 hs3 (hr_l1 _ (hS.dropN 2)) rfl (fun _ => hp3)) <| obs_cons (ob_get1 (n := l1.length) (m := l1) (Value.int .i64) (0 : Int) Agg3 (fun _ hS => ⟨_, (hr_l1 _ (hS.dropN 2))⟩) (fun _ hS => rfl) (fun _ => hp3)) <| obs_nil
        refine block_n ?_
        refine then_n ?_
        exact ⟨(w64 (s1 + (geti l1 (w64 ((w64 ((Int.tmod r1.2 n2) * n2)) + (Int.tmod r1.1 n2)))))), hF.weak [0, 1, 2, 7, 11, 12] (by kernel_rfl), hS, hm⟩
    · refine cond_ev (t := 13) (b := decide (z1 < n2)) hF (by kernel_rfl) (fun hb => ?_) (fun hb => ?_)
      · replace hm := if_t hm hb
        refine wpIn_skip ?_
        refine then_n ?_
        exact ⟨hF.weak [0, 1, 2, 7, 11, 12] (by kernel_rfl), hS, hm⟩
      · replace hm := if_f hm hb
        refine wpIn_exit ?_
        refine then_e (then_e (block_e (then_n ?_)))
        rw [← hφ1] at hm
        replace hm := done_b hm
        unfold magic_sum_4_K1 at hm
        try dsimp only at hm
        have hm : (magic_sum_4_J1 s1).bind some = some r := hm
        exact ⟨s1, hF.weak [7] (by kernel_rfl), hS, hm⟩

noncomputable def magic_alike_4_J3  (z1 : Int) : Option (St Int (Fl Unit Bool)) :=
  some (.next (w64 (z1 + 1)))

noncomputable def magic_alike_4_J2  (l1 : List Int) (n2 : Int) (want1 : Int) (v1 : Int) (z1 : Int) : Option (St Int (Fl Unit Bool)) :=
  (magic_up_1_m z1 v1).bind fun r1 => (magic_sum_4_m l1 n2 r1 v1).bind fun r2 => if (r2 != want1) then (some (.done (.ret false))) else ((magic_alike_4_J3 z1))

noncomputable def magic_alike_4_J1  : Option Bool :=
  some true

noncomputable def magic_alike_4_K1  : (Fl Unit Bool) → Option Bool :=
  fun (x : (Fl Unit Bool)) => match x with | .go _ => magic_alike_4_J1 | .ret x => some x

noncomputable def magic_alike_4_L1  (l1 : List Int) (n2 : Int) (want1 : Int) (v1 : Int) : Int → Option (St Int (Fl Unit Bool)) :=
  fun (x : Int) => match x with | z1 => if (decide (z1 < n2)) then ((magic_alike_4_J2 l1 n2 want1 v1 z1)) else (some (.done (.go ())))

noncomputable def magic_alike_4_m  (l1 : List Int) (n2 : Int) (want1 : Int) (v1 : Int) : Option Bool :=
  (loop (magic_alike_4_L1 l1 n2 want1 v1) 0).bind magic_alike_4_K1

set_option maxRecDepth 100000 in
set_option maxHeartbeats 4000000 in
theorem magic_alike_4_w {A1 : Option Addr} {c1 : Nat} {n1 : Nat} {l1 : List Int} {n2 : Int} {want1 : Int} {g1 : Nat} {v1 : Int} {r : Bool} {w0 w : World} {B : Nat} {fs : List HP} (hm : magic_alike_4_m l1 n2 want1 v1 = some r) (hS : Sep w0 B w (blk g1 3 #[.int .i64 v1] :: fs)) (hr_l1 : RdF w0 B fs A1 (vI l1)) (_hc_l1 : l1.length ≤ c1) (_hn_l1 : n1 = l1.length) :
    Calls Try.prog 145 #[.slice A1 n1 c1, .int .i64 n2, .int .i64 want1, .func (.func 184) #[] #[.pointer (some ⟨g1, 0, none⟩)]] w fun e w' => e = .returned (.bool r) ∧ Sep w0 B w' (blk g1 3 #[.int .i64 v1] :: fs) := by
  obtain ⟨i3, hi3, hz3, hs3, hb3⟩ := info_parts Info3
  obtain rfl := _hn_l1
  unfold magic_alike_4_m at hm
  replace hm := start_b hm
  refine enter (l := [.slice A1 l1.length c1, .int .i64 n2, .int .i64 want1, .func (.func 184) #[] #[.pointer (some ⟨g1, 0, none⟩)]]) (n := 23) Try.func145 rfl rfl (by simp) (fun a hF => ?_)
  refine reg [] [] [0, 1, 2, 3] [pl 0 (.slice A1 l1.length c1), pl 1 (.int .i64 n2), pl 2 (.int .i64 want1), pl 3 (.func (.func 184) #[] #[.pointer (some ⟨g1, 0, none⟩)])] hF hS Fol (by kernel_rfl) (by kernel_rfl) (by kernel_rfl) ?_ (fun a w hF hS => ?_)
  · exact obs_nil
  refine seq_cut (fun a w => Fr 23 [] a ∧ Sep w0 B w (blk g1 3 #[.int .i64 v1] :: fs) ∧ (magic_alike_4_J1).bind some = some r) ?_ ?_
  · rintro a w ⟨hF, hS, hm⟩
    unfold magic_alike_4_J1 at hm
    refine reg [] [] [8] [pl 8 (.bool true)] hF hS Fol (by kernel_rfl) (by kernel_rfl) (by kernel_rfl) ?_ (fun a w hF hS => ?_)
    · exact obs_nil
    refine wpIn_ret ?_
    have hm : some true = some r := hm
    obtain rfl := Option.some.inj hm
    exact retV (rs := [.tmp 8]) (vs := [.bool true]) hF rfl (rv_t (by kernel_rfl) <| rv_nil) rfl ⟨rfl, hS⟩
  · refine reg [] [] [0, 1, 2, 3, 10, 11] [pl 0 (.slice A1 l1.length c1), pl 1 (.int .i64 n2), pl 2 (.int .i64 want1), pl 3 (.func (.func 184) #[] #[.pointer (some ⟨g1, 0, none⟩)]), pl 10 (.int .i64 n2), pl 11 (.int .i64 0)] hF hS Fol (by kernel_rfl) (by kernel_rfl) (by kernel_rfl) ?_ (fun a w hF hS => ?_)
    · exact obs_nil
    refine wpIn_block ?_
    refine wp_loop_model (S := Int) (R := (Fl Unit Bool)) (magic_alike_4_L1 l1 n2 want1 v1) (fun x => (magic_alike_4_K1 x).bind some) r (fun (x : Int) a w => Fr 23 [pl 0 (.slice A1 l1.length c1), pl 1 (.int .i64 n2), pl 2 (.int .i64 want1), pl 3 (.func (.func 184) #[] #[.pointer (some ⟨g1, 0, none⟩)]), pl 10 (.int .i64 n2), pl 11 (.int .i64 x)] a ∧ Sep w0 B w (blk g1 3 #[.int .i64 v1] :: fs)) (assoc_b hm) ⟨hF.weak [0, 1, 2, 3, 10, 11] (by kernel_rfl), hS⟩ ?_
    clear hF hS hm
    rintro nn1 z1 a w ⟨hF, hS⟩ hm
    generalize hφ1 : stK (magic_alike_4_L1 l1 n2 want1 v1) nn1 (fun x => (magic_alike_4_K1 x).bind some) = φ1 at hm
    unfold magic_alike_4_L1 at hm
    dsimp only at hm
    refine reg [] [] [0, 1, 2, 3, 10, 11, 12] [pl 0 (.slice A1 l1.length c1), pl 1 (.int .i64 n2), pl 2 (.int .i64 want1), pl 3 (.func (.func 184) #[] #[.pointer (some ⟨g1, 0, none⟩)]), pl 10 (.int .i64 n2), pl 11 (.int .i64 z1), pl 12 (.bool (decide (z1 < n2)))] hF hS Fol (by kernel_rfl) (by kernel_rfl) (by kernel_rfl) ?_ (fun a w hF hS => ?_)
    · exact obs_nil
    refine seq_cut (fun a w => Fr 23 [pl 0 (.slice A1 l1.length c1), pl 1 (.int .i64 n2), pl 2 (.int .i64 want1), pl 3 (.func (.func 184) #[] #[.pointer (some ⟨g1, 0, none⟩)]), pl 10 (.int .i64 n2), pl 11 (.int .i64 z1)] a ∧ Sep w0 B w (blk g1 3 #[.int .i64 v1] :: fs) ∧ ((magic_alike_4_J2 l1 n2 want1 v1 z1)).bind φ1 = some r) ?_ ?_
    · rintro a w ⟨hF, hS, hm⟩
      unfold magic_alike_4_J2 at hm
      refine seq_cut (fun a w => Fr 23 [pl 0 (.slice A1 l1.length c1), pl 1 (.int .i64 n2), pl 2 (.int .i64 want1), pl 3 (.func (.func 184) #[] #[.pointer (some ⟨g1, 0, none⟩)]), pl 10 (.int .i64 n2), pl 11 (.int .i64 z1)] a ∧ Sep w0 B w (blk g1 3 #[.int .i64 v1] :: fs) ∧ ((magic_alike_4_J3 z1)).bind φ1 = some r) ?_ ?_
      · rintro a w ⟨hF, hS, hm⟩
        unfold magic_alike_4_J3 at hm
        refine reg1 [] [] [0, 1, 2, 3, 10, 11] [pl 0 (.slice A1 l1.length c1), pl 1 (.int .i64 n2), pl 2 (.int .i64 want1), pl 3 (.func (.func 184) #[] #[.pointer (some ⟨g1, 0, none⟩)]), pl 10 (.int .i64 n2), pl 11 (.int .i64 (w64 (z1 + 1)))] hF hS Fol (by kernel_rfl) (by kernel_rfl) (by kernel_rfl) ?_ (fun a w hF hS => ?_)
        · exact obs_nil
        refine then_n ?_
        rw [← hφ1] at hm
        exact ⟨(w64 (z1 + 1)), ⟨hF.weak [0, 1, 2, 3, 10, 11] (by kernel_rfl), hS⟩, hm⟩
      · refine wpIn_block ?_
        refine reg [] [] [0, 1, 2, 3, 9, 10, 11] [pl 0 (.slice A1 l1.length c1), pl 1 (.int .i64 n2), pl 2 (.int .i64 want1), pl 3 (.func (.func 184) #[] #[.pointer (some ⟨g1, 0, none⟩)]), pl 9 (.int .i64 z1), pl 10 (.int .i64 n2), pl 11 (.int .i64 z1)] hF hS Fol (by kernel_rfl) (by kernel_rfl) (by kernel_rfl) ?_ (fun a w hF hS => ?_)
        · exact obs_nil
        refine seqR ?_
        obtain ⟨r1, hr1, hm⟩ := call_b hm
        obtain ⟨r2, hr2, hm⟩ := call_b hm
        refine at_run 4 [] [] [0, 1, 2, 3, 10, 11, 14, 15, 16, 17] [pl 0 (.slice A1 l1.length c1), pl 1 (.int .i64 n2), pl 2 (.int .i64 want1), pl 3 (.func (.func 184) #[] #[.pointer (some ⟨g1, 0, none⟩)]), pl 10 (.int .i64 n2), pl 11 (.int .i64 z1), pl 14 (.slice A1 l1.length c1), pl 15 (.int .i64 n2), pl 16 (.func (.func 184) #[] #[.pointer (some ⟨g1, 0, none⟩)]), pl 17 (.int .i64 z1)] hF hS (by kernel_rfl) (by kernel_rfl) ?_ (fun a w hF hS => ?_)
        · exact obs_nil
        refine at_call (f := 184) (args := #[.int .i64 z1, .pointer (some ⟨g1, 0, none⟩)]) (d := 18) hF (by kernel_rfl) (by kernel_rfl) Try.func184 (by kernel_rfl) rfl (magic_up_1_w hr1 hS ) (fun v a w hR hF => ?_)
        clear hS
        obtain ⟨g2, rfl, hS⟩ := hR
        have hS : Sep w0 B w (blk g1 3 #[.int .i64 v1] :: blk g2 3 #[.int .i64 r1] :: fs) := hS
        refine at_run 3 [⟨false, [], callFunc 100 #[.slice A1 l1.length c1, .int .i64 n2, .func (.func 185) #[] #[.pointer (some ⟨g2, 0, none⟩), .pointer (some ⟨g1, 0, none⟩)]], .int .i64 r2⟩] [some (.int .i64 r2), none, none] [0, 1, 2, 3, 10, 11, 21] [pl 0 (.slice A1 l1.length c1), pl 1 (.int .i64 n2), pl 2 (.int .i64 want1), pl 3 (.func (.func 184) #[] #[.pointer (some ⟨g1, 0, none⟩)]), pl 10 (.int .i64 n2), pl 11 (.int .i64 z1), pl 21 (.bool (r2 != want1))] hF hS (by kernel_rfl) (by kernel_rfl) ?_ (fun a w hF hS => ?_)
        · exact obs_cons (ob_call Try.func100 (by kernel_rfl) rfl (fun _ _ hS => quiet_pick hS 2 [1, 0] (by decide) [1, 0] (by decide) (qs := (blk g2 3 #[.int .i64 r1] :: blk g1 3 #[.int .i64 v1] :: fs)) rfl (fun hS => magic_sum_4_w hr2 hS (fun _ hS => (hr_l1 _ (hS.dropN 0))) _hc_l1 rfl) 2 rfl)) <| obs_nil
        refine at_end [0, 1, 2, 3, 10, 11, 21] [pl 0 (.slice A1 l1.length c1), pl 1 (.int .i64 n2), pl 2 (.int .i64 want1), pl 3 (.func (.func 184) #[] #[.pointer (some ⟨g1, 0, none⟩)]), pl 10 (.int .i64 n2), pl 11 (.int .i64 z1), pl 21 (.bool (r2 != want1))] hF rfl (by kernel_rfl) (fun hF => ?_)
        refine then_n ?_
        refine cond_ev (t := 21) (b := (r2 != want1)) hF (by kernel_rfl) (fun hb => ?_) (fun hb => ?_)
        · replace hm := if_t hm hb
          refine reg [] [] [8] [pl 8 (.bool false)] hF hS Fol (by kernel_rfl) (by kernel_rfl) (by kernel_rfl) ?_ (fun a w hF hS => ?_)
          · exact obs_nil
          refine wpIn_ret ?_
          refine block_r (then_r (then_r (block_r (then_r ?_))))
          rw [← hφ1] at hm
          replace hm := done_b hm
          unfold magic_alike_4_K1 at hm
          try dsimp only at hm
          have hS := hS.pickN 2 [0] (by decide)
          have hm : some false = some r := hm
          obtain rfl := Option.some.inj hm
          exact retV (rs := [.tmp 8]) (vs := [.bool false]) hF rfl (rv_t (by kernel_rfl) <| rv_nil) rfl ⟨rfl, hS⟩
        · replace hm := if_f hm hb
          refine wpIn_skip ?_
          refine block_n ?_
          refine then_n ?_
          have hS := hS.pickN 2 [0] (by decide)
          exact ⟨hF.weak [0, 1, 2, 3, 10, 11] (by kernel_rfl), hS, hm⟩
    · refine cond_ev (t := 12) (b := decide (z1 < n2)) hF (by kernel_rfl) (fun hb => ?_) (fun hb => ?_)
      · replace hm := if_t hm hb
        refine wpIn_skip ?_
        refine then_n ?_
        exact ⟨hF.weak [0, 1, 2, 3, 10, 11] (by kernel_rfl), hS, hm⟩
      · replace hm := if_f hm hb
        refine wpIn_exit ?_
        refine then_e (then_e (block_e (then_n ?_)))
        rw [← hφ1] at hm
        replace hm := done_b hm
        unfold magic_alike_4_K1 at hm
        try dsimp only at hm
        have hm : (magic_alike_4_J1).bind some = some r := hm
        exact ⟨hF.weak [] (by kernel_rfl), hS, hm⟩

noncomputable def magic_kind_J3  (r2 : Int) : Option (Int × Int) :=
  some (1, r2)

noncomputable def magic_kind_J4  (r2 : Int) (z2 : Bool) : Option (Int × Int) :=
  if z2 then (some (2, r2)) else ((magic_kind_J3 r2))

noncomputable def magic_kind_J1  (r2 : Int) : Option (Int × Int) :=
  some (3, r2)

noncomputable def magic_kind_J2  (l1 : List Int) (n2 : Int) (r2 : Int) (z1 : Bool) : Option (Int × Int) :=
  if z1 then ((magic_down_m 0).bind fun r8 => (magic_sum_3_m l1 n2 r8).bind fun r9 => if (r9 == r2) then ((magic_up_m n2).bind fun r10 => (magic_up_1_m 0 r10).bind fun r11 => ((if (r9 == r2) then magic_sum_4_m l1 n2 r11 r10 else some 0)).bind fun r12 => (magic_kind_J4 r2) ((r9 == r2) && (r12 == r2))) else ((magic_kind_J4 r2) ((r9 == r2) && ((0 : Int) == r2)))) else ((magic_kind_J1 r2))

noncomputable def magic_kind_m  (l1 : List Int) (n2 : Int) : Option (Int × Int) :=
  (magic_row_m 0).bind fun r1 => (magic_sum_m l1 n2 r1).bind fun r2 => (magic_alike_m l1 n2 r2).bind fun r3 => ((if (!(!r3)) then magic_alike_2_m l1 n2 r2 else some false)).bind fun r4 => if ((!r3) || (!r4)) then (some (0, 0)) else ((magic_alike_3_m l1 n2 r2).bind fun r5 => if (!r5) then ((magic_kind_J2 l1 n2 r2) ((!r5) || true)) else ((magic_up_m n2).bind fun r6 => ((if (!(!r5)) then magic_alike_4_m l1 n2 r2 r6 else some false)).bind fun r7 => (magic_kind_J2 l1 n2 r2) ((!r5) || (!r7))))

set_option maxRecDepth 100000 in
set_option maxHeartbeats 4000000 in
theorem magic_kind_w {A1 : Option Addr} {c1 : Nat} {n1 : Nat} {l1 : List Int} {n2 : Int} {r : (Int × Int)} {w0 w : World} {B : Nat} {fs : List HP} (hm : magic_kind_m l1 n2 = some r) (hS : Sep w0 B w (fs)) (hr_l1 : RdF w0 B fs A1 (vI l1)) (_hc_l1 : l1.length ≤ c1) (_hn_l1 : n1 = l1.length) :
    Calls Try.prog 99 #[.slice A1 n1 c1, .int .i64 n2] w fun e w' => e = .returned (.tuple #[.int .i64 r.1, .int .i64 r.2]) ∧ Sep w0 B w' (fs) := by
  obtain ⟨i3, hi3, hz3, hs3, hb3⟩ := info_parts Info3
  obtain rfl := _hn_l1
  unfold magic_kind_m at hm
  replace hm := start_b hm
  refine enter (l := [.slice A1 l1.length c1, .int .i64 n2]) (n := 58) Try.func99 rfl rfl (by simp) (fun a hF => ?_)
  refine reg [] [] [0, 1] [pl 0 (.slice A1 l1.length c1), pl 1 (.int .i64 n2)] hF hS Fol (by kernel_rfl) (by kernel_rfl) (by kernel_rfl) ?_ (fun a w hF hS => ?_)
  · exact obs_nil
  refine seqR ?_
  obtain ⟨r1, hr1, hm⟩ := call_b hm
  obtain ⟨r2, hr2, hm⟩ := call_b hm
  refine at_run 2 [] [] [0, 1, 7, 8] [pl 0 (.slice A1 l1.length c1), pl 1 (.int .i64 n2), pl 7 (.slice A1 l1.length c1), pl 8 (.int .i64 n2)] hF hS (by kernel_rfl) (by kernel_rfl) ?_ (fun a w hF hS => ?_)
  · exact obs_nil
  refine at_call (f := 101) (args := #[.int .i64 0]) (d := 9) hF (by kernel_rfl) (by kernel_rfl) Try.func101 (by kernel_rfl) rfl (magic_row_w hr1 hS ) (fun v a w hR hF => ?_)
  clear hS
  obtain ⟨g1, rfl, hS⟩ := hR
  have hS : Sep w0 B w (blk g1 3 #[.int .i64 r1] :: fs) := hS
  refine at_run 2 [⟨false, [], callFunc 100 #[.slice A1 l1.length c1, .int .i64 n2, .func (.func 149) #[] #[.pointer (some ⟨g1, 0, none⟩)]], .int .i64 r2⟩] [some (.int .i64 r2), none] [0, 1, 6] [pl 0 (.slice A1 l1.length c1), pl 1 (.int .i64 n2), pl 6 (.int .i64 r2)] hF hS (by kernel_rfl) (by kernel_rfl) ?_ (fun a w hF hS => ?_)
  · exact obs_cons (ob_call Try.func100 (by kernel_rfl) rfl (fun _ _ hS => magic_sum_w hr2 hS (fun _ hS => (hr_l1 _ (hS.dropN 0))) _hc_l1 rfl)) <| obs_nil
  refine at_end [0, 1, 6] [pl 0 (.slice A1 l1.length c1), pl 1 (.int .i64 n2), pl 6 (.int .i64 r2)] hF rfl (by kernel_rfl) (fun hF => ?_)
  refine then_n ?_
  refine seq_cut (fun a w => Fr 58 [pl 6 (.int .i64 r2)] a ∧ Sep w0 B w (fs) ∧ ((magic_kind_J1 r2)).bind some = some r) ?_ ?_
  · rintro a w ⟨hF, hS, hm⟩
    unfold magic_kind_J1 at hm
    refine reg [] [] [4, 5] [pl 4 (.int .i64 3), pl 5 (.int .i64 r2)] hF hS Fol (by kernel_rfl) (by kernel_rfl) (by kernel_rfl) ?_ (fun a w hF hS => ?_)
    · exact obs_nil
    refine wpIn_ret ?_
    have hm : some (3, r2) = some r := hm
    obtain rfl := Option.some.inj hm
    exact retV (rs := [.tmp 4, .tmp 5]) (vs := [.int .i64 3, .int .i64 r2]) hF rfl (rv_t (by kernel_rfl) <| rv_t (by kernel_rfl) <| rv_nil) rfl ⟨rfl, hS⟩
  · refine wpIn_block ?_
    obtain ⟨r3, hr3, hm⟩ := call_b hm
    obtain ⟨r4, hr4, hm⟩ := call_b hm
    refine reg [⟨false, [], callFunc 145 #[.slice A1 l1.length c1, .int .i64 n2, .int .i64 r2, .func (.func 101) #[] #[]], .bool r3⟩, ⟨false, [(!r3, false)], callFunc 145 #[.slice A1 l1.length c1, .int .i64 n2, .int .i64 r2, .func (.func 146) #[] #[]], .bool r4⟩] [none, none, none, some (.bool r3), none, none, none, none, none, some (.bool r4), none, none, none] [0, 1, 6, 11] [pl 0 (.slice A1 l1.length c1), pl 1 (.int .i64 n2), pl 6 (.int .i64 r2), pl 11 (.bool ((!r3) || (!r4)))] hF hS Fol (by kernel_rfl) (by kernel_rfl) (by kernel_rfl) ?_ (fun a w hF hS => ?_)
    · exact obs_cons (ob_call Try.func145 (by kernel_rfl) rfl (fun _ _ hS => magic_alike_w hr3 hS (fun _ hS => (hr_l1 _ (hS.dropN 1))) _hc_l1 rfl)) <| obs_cons (ob_call Try.func145 (by kernel_rfl) rfl (fun hy _ hS => magic_alike_2_w (ite_some hr4 (by rw [show (!r3) = false from hy (!r3, false) (by simp)]; try rfl)) hS (fun _ hS => (hr_l1 _ (hS.dropN 1))) _hc_l1 rfl)) <| obs_nil
    refine cond_ev (t := 11) (b := (!r3) || (!r4)) hF (by kernel_rfl) (fun hb => ?_) (fun hb => ?_)
    · replace hm := if_t hm hb
      refine reg [] [] [4, 5] [pl 4 (.int .i64 0), pl 5 (.int .i64 0)] hF hS Fol (by kernel_rfl) (by kernel_rfl) (by kernel_rfl) ?_ (fun a w hF hS => ?_)
      · exact obs_nil
      refine wpIn_ret ?_
      refine block_r (then_r ?_)
      have hS := hS.pickN 1 [] (by decide)
      have hm : some (0, 0) = some r := hm
      obtain rfl := Option.some.inj hm
      exact retV (rs := [.tmp 4, .tmp 5]) (vs := [.int .i64 0, .int .i64 0]) hF rfl (rv_t (by kernel_rfl) <| rv_t (by kernel_rfl) <| rv_nil) rfl ⟨rfl, hS⟩
    · replace hm := if_f hm hb
      refine seq_cut (fun a w => ∃ (z1 : Bool), Fr 58 [pl 0 (.slice A1 l1.length c1), pl 1 (.int .i64 n2), pl 6 (.int .i64 r2), pl 24 (.bool z1)] a ∧ Sep w0 B w (fs) ∧ ((magic_kind_J2 l1 n2 r2) z1).bind some = some r) ?_ ?_
      · rintro a w ⟨z1, hF, hS, hm⟩
        unfold magic_kind_J2 at hm
        refine cond_ev (t := 24) (b := z1) hF (by kernel_rfl) (fun hb => ?_) (fun hb => ?_)
        · replace hm := if_t hm hb
          refine seq_cut (fun a w => Fr 58 [pl 6 (.int .i64 r2)] a ∧ Sep w0 B w (fs) ∧ ((magic_kind_J3 r2)).bind some = some r) ?_ ?_
          · rintro a w ⟨hF, hS, hm⟩
            unfold magic_kind_J3 at hm
            refine reg [] [] [4, 5] [pl 4 (.int .i64 1), pl 5 (.int .i64 r2)] hF hS Fol (by kernel_rfl) (by kernel_rfl) (by kernel_rfl) ?_ (fun a w hF hS => ?_)
            · exact obs_nil
            refine wpIn_ret ?_
            refine block_r (then_r ?_)
            have hm : some (1, r2) = some r := hm
            obtain rfl := Option.some.inj hm
            exact retV (rs := [.tmp 4, .tmp 5]) (vs := [.int .i64 1, .int .i64 r2]) hF rfl (rv_t (by kernel_rfl) <| rv_t (by kernel_rfl) <| rv_nil) rfl ⟨rfl, hS⟩
          · refine seq_cut (fun a w => ∃ (z2 : Bool), Fr 58 [pl 6 (.int .i64 r2), pl 54 (.bool z2)] a ∧ Sep w0 B w (fs) ∧ ((magic_kind_J4 r2) z2).bind some = some r) ?_ ?_
            · rintro a w ⟨z2, hF, hS, hm⟩
              unfold magic_kind_J4 at hm
              refine cond_ev (t := 54) (b := z2) hF (by kernel_rfl) (fun hb => ?_) (fun hb => ?_)
              · replace hm := if_t hm hb
                refine reg [] [] [4, 5] [pl 4 (.int .i64 2), pl 5 (.int .i64 r2)] hF hS Fol (by kernel_rfl) (by kernel_rfl) (by kernel_rfl) ?_ (fun a w hF hS => ?_)
                · exact obs_nil
                refine wpIn_ret ?_
                refine then_r (block_r (then_r ?_))
                have hm : some (2, r2) = some r := hm
                obtain rfl := Option.some.inj hm
                exact retV (rs := [.tmp 4, .tmp 5]) (vs := [.int .i64 2, .int .i64 r2]) hF rfl (rv_t (by kernel_rfl) <| rv_t (by kernel_rfl) <| rv_nil) rfl ⟨rfl, hS⟩
              · replace hm := if_f hm hb
                refine wpIn_skip ?_
                refine then_n ?_
                exact ⟨hF.weak [6] (by kernel_rfl), hS, hm⟩
            · refine oneR ?_
              obtain ⟨r8, hr8, hm⟩ := call_b hm
              obtain ⟨r9, hr9, hm⟩ := call_b hm
              refine at_run 2 [] [] [0, 1, 6, 39, 40] [pl 0 (.slice A1 l1.length c1), pl 1 (.int .i64 n2), pl 6 (.int .i64 r2), pl 39 (.slice A1 l1.length c1), pl 40 (.int .i64 n2)] hF hS (by kernel_rfl) (by kernel_rfl) ?_ (fun a w hF hS => ?_)
              · exact obs_nil
              refine at_call (f := 147) (args := #[.int .i64 0]) (d := 41) hF (by kernel_rfl) (by kernel_rfl) Try.func147 (by kernel_rfl) rfl (magic_down_w hr8 hS ) (fun v a w hR hF => ?_)
              clear hS
              obtain ⟨g3, rfl, hS⟩ := hR
              have hS : Sep w0 B w (blk g3 3 #[.int .i64 r8] :: fs) := hS
              refine at_run 7 [⟨false, [], callFunc 100 #[.slice A1 l1.length c1, .int .i64 n2, .func (.func 183) #[] #[.pointer (some ⟨g3, 0, none⟩)]], .int .i64 r9⟩] [some (.int .i64 r9), none, none, none, none, none, none] [6, 45, 46, 47, 48] [pl 6 (.int .i64 r2), pl 45 (.bool (r9 == r2)), ⟨46, [(45, true)], .slice A1 l1.length c1⟩, ⟨47, [(45, true)], .int .i64 n2⟩, ⟨48, [(45, true)], .int .i64 n2⟩] hF hS (by kernel_rfl) (by kernel_rfl) ?_ (fun a w hF hS => ?_)
              · exact obs_cons (ob_call Try.func100 (by kernel_rfl) rfl (fun _ _ hS => magic_sum_3_w hr9 hS (fun _ hS => (hr_l1 _ (hS.dropN 0))) _hc_l1 rfl)) <| obs_nil
              rcases Bool.eq_false_or_eq_true (r9 == r2) with hg2 | hg2
              · replace hm := if_t hm hg2
                obtain ⟨r10, hr10, hm⟩ := call_b hm
                obtain ⟨r11, hr11, hm⟩ := call_b hm
                obtain ⟨r12, hr12, hm⟩ := call_b hm
                refine at_gcall (hs := [((r9 == r2), true)]) (fun y hy => by simp only [List.mem_cons, List.not_mem_nil, or_false] at hy; subst hy; first | exact hg2) (f := 148) (args := #[.int .i64 n2]) (d := 49) hF (by kernel_rfl) (by kernel_rfl) Try.func148 (by kernel_rfl) rfl (magic_up_w hr10 hS ) (fun v a w hR hF => ?_)
                clear hS
                obtain ⟨g4, rfl, hS⟩ := hR
                have hS : Sep w0 B w (blk g4 3 #[.int .i64 r10] :: blk g3 3 #[.int .i64 r8] :: fs) := hS
                refine at_gcall (hs := [((r9 == r2), true)]) (fun y hy => by simp only [List.mem_cons, List.not_mem_nil, or_false] at hy; subst hy; first | exact hg2) (f := 184) (args := #[.int .i64 0, .pointer (some ⟨g4, 0, none⟩)]) (d := 50) hF (by kernel_rfl) (by kernel_rfl) Try.func184 (by kernel_rfl) rfl (magic_up_1_w hr11 hS ) (fun v a w hR hF => ?_)
                clear hS
                obtain ⟨g5, rfl, hS⟩ := hR
                have hS : Sep w0 B w (blk g4 3 #[.int .i64 r10] :: blk g5 3 #[.int .i64 r11] :: blk g3 3 #[.int .i64 r8] :: fs) := hS
                refine at_run 4 [⟨false, [((r9 == r2), true)], callFunc 100 #[.slice A1 l1.length c1, .int .i64 n2, .func (.func 185) #[] #[.pointer (some ⟨g5, 0, none⟩), .pointer (some ⟨g4, 0, none⟩)]], .int .i64 r12⟩] [some (.int .i64 r12), none, none, none] [6, 54] [pl 6 (.int .i64 r2), pl 54 (.bool ((r9 == r2) && (r12 == r2)))] hF hS (by kernel_rfl) (by kernel_rfl) ?_ (fun a w hF hS => ?_)
                · exact obs_cons (ob_call Try.func100 (by kernel_rfl) rfl (fun hy _ hS => quiet_pick hS 3 [1, 0, 2] (by decide) [1, 0, 2] (by decide) (qs := (blk g5 3 #[.int .i64 r11] :: blk g4 3 #[.int .i64 r10] :: blk g3 3 #[.int .i64 r8] :: fs)) rfl (fun hS => magic_sum_4_w (ite_some hr12 (by rw [show (r9 == r2) = true from hy ((r9 == r2), true) (by simp)]; try rfl)) hS (fun _ hS => (hr_l1 _ (hS.dropN 1))) _hc_l1 rfl) 3 rfl)) <| obs_nil
                refine at_end [6, 54] [pl 6 (.int .i64 r2), pl 54 (.bool ((r9 == r2) && (r12 == r2)))] hF rfl (by kernel_rfl) (fun hF => ?_)
                refine then_n ?_
                have hS := hS.pickN 3 [] (by decide)
                exact ⟨((r9 == r2) && (r12 == r2)), hF.weak [6, 54] (by kernel_rfl), hS, hm⟩
              · replace hm := if_f hm hg2
                refine at_gskip (d := 49) (v := .nilFunc) (hs := [((r9 == r2), true)]) (ctx := [(45, true)]) hF (by kernel_rfl) (by kernel_rfl) (fun h => absurd (h ((r9 == r2), true) (by simp)) (by simp [hg2])) (fun a hF => ?_)
                refine at_gskip (d := 50) (v := .nilFunc) (hs := [((r9 == r2), true)]) (ctx := [(45, true)]) hF (by kernel_rfl) (by kernel_rfl) (fun h => absurd (h ((r9 == r2), true) (by simp)) (by simp [hg2])) (fun a hF => ?_)
                refine at_run 4 [⟨false, [((r9 == r2), true)], callFunc 100 #[.slice A1 l1.length c1, .int .i64 n2, .nilFunc], .int .i64 0⟩] [some (.int .i64 0), none, none, none] [6, 54] [pl 6 (.int .i64 r2), pl 54 (.bool ((r9 == r2) && ((0 : Int) == r2)))] hF hS (by kernel_rfl) (by kernel_rfl) ?_ (fun a w hF hS => ?_)
                · exact obs_cons (Ob.vac (fun h => absurd (h ((r9 == r2), true) (by simp)) (by simp [hg2]))) <| obs_nil
                refine at_end [6, 54] [pl 6 (.int .i64 r2), pl 54 (.bool ((r9 == r2) && ((0 : Int) == r2)))] hF rfl (by kernel_rfl) (fun hF => ?_)
                refine then_n ?_
                have hS := hS.pickN 1 [] (by decide)
                exact ⟨((r9 == r2) && ((0 : Int) == r2)), hF.weak [6, 54] (by kernel_rfl), hS, hm⟩
        · replace hm := if_f hm hb
          refine wpIn_skip ?_
          refine block_n ?_
          refine then_n ?_
          exact ⟨hF.weak [6] (by kernel_rfl), hS, hm⟩
      · refine oneR ?_
        obtain ⟨r5, hr5, hm⟩ := call_b hm
        refine at_run 10 [⟨false, [], callFunc 145 #[.slice A1 l1.length c1, .int .i64 n2, .int .i64 r2, .func (.func 147) #[] #[]], .bool r5⟩] [none, none, none, some (.bool r5), none, none, none, none, none, none] [0, 1, 6, 30, 31, 32, 33, 34] [pl 0 (.slice A1 l1.length c1), pl 1 (.int .i64 n2), pl 6 (.int .i64 r2), pl 30 (.bool (!r5)), ⟨31, [(30, false)], .slice A1 l1.length c1⟩, ⟨32, [(30, false)], .int .i64 n2⟩, ⟨33, [(30, false)], .int .i64 r2⟩, ⟨34, [(30, false)], .int .i64 n2⟩] hF hS (by kernel_rfl) (by kernel_rfl) ?_ (fun a w hF hS => ?_)
        · exact obs_cons (ob_call Try.func145 (by kernel_rfl) rfl (fun _ _ hS => magic_alike_3_w hr5 hS (fun _ hS => (hr_l1 _ (hS.dropN 1))) _hc_l1 rfl)) <| obs_nil
        rcases Bool.eq_false_or_eq_true (!r5) with hg1 | hg1
        · replace hm := if_t hm hg1
          refine at_gskip (d := 35) (v := .nilFunc) (hs := [(!r5, false)]) (ctx := [(30, false)]) hF (by kernel_rfl) (by kernel_rfl) (fun h => absurd (h (!r5, false) (by simp)) (by simp [hg1])) (fun a hF => ?_)
          refine at_run 4 [⟨false, [(!r5, false)], callFunc 145 #[.slice A1 l1.length c1, .int .i64 n2, .int .i64 r2, .nilFunc], .bool false⟩] [some (.bool false), none, none, none] [0, 1, 6, 24] [pl 0 (.slice A1 l1.length c1), pl 1 (.int .i64 n2), pl 6 (.int .i64 r2), pl 24 (.bool ((!r5) || true))] hF hS (by kernel_rfl) (by kernel_rfl) ?_ (fun a w hF hS => ?_)
          · exact obs_cons (Ob.vac (fun h => absurd (h (!r5, false) (by simp)) (by simp [hg1]))) <| obs_nil
          refine at_end [0, 1, 6, 24] [pl 0 (.slice A1 l1.length c1), pl 1 (.int .i64 n2), pl 6 (.int .i64 r2), pl 24 (.bool ((!r5) || true))] hF rfl (by kernel_rfl) (fun hF => ?_)
          refine then_n ?_
          have hS := hS.pickN 1 [] (by decide)
          exact ⟨((!r5) || true), hF.weak [0, 1, 6, 24] (by kernel_rfl), hS, hm⟩
        · replace hm := if_f hm hg1
          obtain ⟨r6, hr6, hm⟩ := call_b hm
          obtain ⟨r7, hr7, hm⟩ := call_b hm
          refine at_gcall (hs := [(!r5, false)]) (fun y hy => by simp only [List.mem_cons, List.not_mem_nil, or_false] at hy; subst hy; first | exact hg1) (f := 148) (args := #[.int .i64 n2]) (d := 35) hF (by kernel_rfl) (by kernel_rfl) Try.func148 (by kernel_rfl) rfl (magic_up_w hr6 hS ) (fun v a w hR hF => ?_)
          clear hS
          obtain ⟨g2, rfl, hS⟩ := hR
          have hS : Sep w0 B w (blk g2 3 #[.int .i64 r6] :: blk g1 3 #[.int .i64 r1] :: fs) := hS
          refine at_run 4 [⟨false, [(!r5, false)], callFunc 145 #[.slice A1 l1.length c1, .int .i64 n2, .int .i64 r2, .func (.func 184) #[] #[.pointer (some ⟨g2, 0, none⟩)]], .bool r7⟩] [some (.bool r7), none, none, none] [0, 1, 6, 24] [pl 0 (.slice A1 l1.length c1), pl 1 (.int .i64 n2), pl 6 (.int .i64 r2), pl 24 (.bool ((!r5) || (!r7)))] hF hS (by kernel_rfl) (by kernel_rfl) ?_ (fun a w hF hS => ?_)
          · exact obs_cons (ob_call Try.func145 (by kernel_rfl) rfl (fun hy _ hS => magic_alike_4_w (ite_some hr7 (by rw [show (!r5) = false from hy (!r5, false) (by simp)]; try rfl)) hS (fun _ hS => (hr_l1 _ (hS.dropN 1))) _hc_l1 rfl)) <| obs_nil
          refine at_end [0, 1, 6, 24] [pl 0 (.slice A1 l1.length c1), pl 1 (.int .i64 n2), pl 6 (.int .i64 r2), pl 24 (.bool ((!r5) || (!r7)))] hF rfl (by kernel_rfl) (fun hF => ?_)
          refine then_n ?_
          have hS := hS.pickN 2 [] (by decide)
          exact ⟨((!r5) || (!r7)), hF.weak [0, 1, 6, 24] (by kernel_rfl), hS, hm⟩

noncomputable def magic_Count_2_J3  (p31 : List Int) (p43 : Int) : Option (List Int × Int) :=
  some (p31, p43)

noncomputable def magic_Count_2_J5  (v1 : Int) (z3 : List Int) (z4 : Int) : Option (St (List Int × Int × Int) (List Int × Int)) :=
  some (.next (z3, z4, (w64 (v1 + 1))))

noncomputable def magic_Count_2_J7  (rec_magic_Count_2 : Int → Int → Int → List Int → Int → List Int → Option (List Int × Int)) (at1 : Int) (used1 : Int) (p21 : Int) (p51 : List Int) (z1 : List Int) (z2 : Int) (v1 : Int) : Option (St (List Int × Int × Int) (List Int × Int)) :=
  asrt ((0 : Int) ≤ v1) <| (rec_magic_Count_2 (w64 (at1 + 1)) (orK .u64 used1 (shlK .u64 1 v1)) p21 (z1.set (Int.toNat at1) v1) z2 p51).bind fun r6 => (magic_Count_2_J5 v1) r6.1 r6.2

noncomputable def magic_Count_2_J8  (rec_magic_Count_2 : Int → Int → Int → List Int → Int → List Int → Option (List Int × Int)) (at1 : Int) (used1 : Int) (p21 : Int) (p51 : List Int) (z1 : List Int) (z2 : Int) (v1 : Int) (z5 : Bool) : Option (St (List Int × Int × Int) (List Int × Int)) :=
  if z5 then ((magic_Count_2_J5 v1) (z1.set (Int.toNat at1) v1) z2) else ((magic_Count_2_J7 rec_magic_Count_2 at1 used1 p21 p51 z1 z2 v1))

noncomputable def magic_Count_2_J6  (rec_magic_Count_2 : Int → Int → Int → List Int → Int → List Int → Option (List Int × Int)) (at1 : Int) (used1 : Int) (p21 : Int) (p31 : List Int) (p51 : List Int) (z1 : List Int) (z2 : Int) (v1 : Int) : Option (St (List Int × Int × Int) (List Int × Int)) :=
  asrt (0 ≤ at1 ∧ at1 < (p31.length : Int)) <| asrt (p21 ≠ (0 : Int)) <| asrt (p21 ≠ (0 : Int)) <| if (((Int.tmod at1 p21) == (w64 (p21 - 1))) && (decide ((0 : Int) < (w64 (Int.tdiv at1 p21))))) then ((magic_row_m (w64 (Int.tdiv at1 p21))).bind fun r2 => ((if (((Int.tmod at1 p21) == (w64 (p21 - 1))) && (decide ((0 : Int) < (w64 (Int.tdiv at1 p21))))) then magic_sum_m (z1.set (Int.toNat at1) v1) p21 r2 else some 0)).bind fun r3 => (magic_row_m 0).bind fun r4 => ((if (((Int.tmod at1 p21) == (w64 (p21 - 1))) && (decide ((0 : Int) < (w64 (Int.tdiv at1 p21))))) then magic_sum_m (z1.set (Int.toNat at1) v1) p21 r4 else some 0)).bind fun r5 => (magic_Count_2_J8 rec_magic_Count_2 at1 used1 p21 p51 z1 z2 v1) ((((Int.tmod at1 p21) == (w64 (p21 - 1))) && (decide ((0 : Int) < (w64 (Int.tdiv at1 p21))))) && (r3 != r5))) else ((magic_Count_2_J8 rec_magic_Count_2 at1 used1 p21 p51 z1 z2 v1) ((((Int.tmod at1 p21) == (w64 (p21 - 1))) && (decide ((0 : Int) < (w64 (Int.tdiv at1 p21))))) && ((0 : Int) != 0)))

noncomputable def magic_Count_2_J4  (rec_magic_Count_2 : Int → Int → Int → List Int → Int → List Int → Option (List Int × Int)) (at1 : Int) (used1 : Int) (p21 : Int) (p31 : List Int) (p51 : List Int) (z1 : List Int) (z2 : Int) (v1 : Int) : Option (St (List Int × Int × Int) (List Int × Int)) :=
  asrt ((0 : Int) ≤ v1) <| asrt (((andK .u64 (shrK .u64 used1 v1) 1) == 1) = false → 0 ≤ at1 ∧ at1 < (p51.length : Int)) <| asrt (((geti p51 at1) != 0) = true → ((andK .u64 (shrK .u64 used1 v1) 1) == 1) = false → 0 ≤ at1 ∧ at1 < (p51.length : Int)) <| if (((andK .u64 (shrK .u64 used1 v1) 1) == 1) || (((geti p51 at1) != 0) && ((geti p51 at1) != v1))) then ((magic_Count_2_J5 v1) z1 z2) else ((magic_Count_2_J6 rec_magic_Count_2 at1 used1 p21 p31 p51 z1 z2 v1))

noncomputable def magic_Count_2_J1  (p33 : List Int) (p44 : Int) : Option (List Int × Int) :=
  some (p33, p44)

noncomputable def magic_Count_2_K1  : (List Int × Int) → Option (List Int × Int) :=
  fun (x : (List Int × Int)) => match x with | (p33, p44) => magic_Count_2_J1 p33 p44

noncomputable def magic_Count_2_L1  (rec_magic_Count_2 : Int → Int → Int → List Int → Int → List Int → Option (List Int × Int)) (at1 : Int) (used1 : Int) (p21 : Int) (p31 : List Int) (p51 : List Int) : (List Int × Int × Int) → Option (St (List Int × Int × Int) (List Int × Int)) :=
  fun (x : (List Int × Int × Int)) => match x with | (z1, z2, v1) => if (decide (v1 ≤ (w64 (p21 * p21)))) then ((magic_Count_2_J4 rec_magic_Count_2 at1 used1 p21 p31 p51 z1 z2 v1)) else (some (.done (z1, z2)))

noncomputable def magic_Count_2_J2  (rec_magic_Count_2 : Int → Int → Int → List Int → Int → List Int → Option (List Int × Int)) (at1 : Int) (used1 : Int) (p21 : Int) (p31 : List Int) (p41 : Int) (p51 : List Int) : Option (List Int × Int) :=
  (loop (magic_Count_2_L1 rec_magic_Count_2 at1 used1 p21 p31 p51) (p31, p41, 1)).bind magic_Count_2_K1

noncomputable def magic_Count_2_B (rec_magic_Count_2 : Int → Int → Int → List Int → Int → List Int → Option (List Int × Int)) (at1 : Int) (used1 : Int) (p21 : Int) (p31 : List Int) (p41 : Int) (p51 : List Int) : Option (List Int × Int) :=
  if (at1 == (w64 (p21 * p21))) then ((magic_kind_m p31 p21).bind fun r1 => if (decide ((2 : Int) ≤ r1.1)) then ((magic_Count_2_J3 p31) (w64 (p41 + 1))) else ((magic_Count_2_J3 p31) p41)) else ((magic_Count_2_J2 rec_magic_Count_2 at1 used1 p21 p31 p41 p51))

noncomputable def magic_Count_2_mF : Nat → Int → Int → Int → List Int → Int → List Int → Option (List Int × Int)
  | 0 => fun _ _ _ _ _ _ => none
  | n + 1 => fun at1 used1 p21 p31 p41 p51 => magic_Count_2_B (magic_Count_2_mF n) at1 used1 p21 p31 p41 p51
end Go.Proofs.Ytlpaklmfgldkoaa
